/-
  MODULES READ, the program's reader: the codes. Conditions: a text in the form's reach. Printed by a program of mine.
-/
import Derived.Test.YtakfineljffoaaaGreatDoorGBinReads37
import Derived.Deep.Upon
namespace Go.Proofs.YtakfineljffoaaaGreatDoor
open Go.RowKit Go.Lib

theorem left_nought (t : ByteArray) : left t 0 = t := by unfold left; simp
theorem rl_le (t : ByteArray) (f : Nat) : ∀ (l : List It) (a : Nat) (T : Stk), (rlM t f l a T).2.1 ≤ t.size := by
  induction f with
  | zero => intro l a T; exact Nat.zero_le _
  | succ f ih =>
    intro l a T
    rw [rlM]
    split
    · exact Nat.zero_le _
    · split
      · exact Nat.zero_le _
      · split
        · exact Nat.zero_le _
        · split
          · exact Nat.sub_le _ _
          · exact ih _ _ _
theorem updF_put (fs : List Fn) (cs : List Cd) (c : Cd) (h : cs.length < (updF fs cs).length) : updF fs (cs ++ [c]) = (updF fs cs).set cs.length (((updF fs cs)[cs.length]'h).1, c.1, c.2) := by
  have h2 : cs.length < fs.length := by rw [updF_len] at h; exact h
  rw [updF_snoc, dif_pos h2, updF_fst fs cs cs.length h2]
theorem codC_good (xs : List Int) (p : ByteArray) (a : Nat) : codC xs (left p a, 0) = codZ xs (rlM (left p a) 201 [] 0 [(-1, 2)]) (left p a, 0) := by unfold codC; rw [if_pos rfl]
/-- the instructions read off what is left -/
theorem nread_at (p : ByteArray) (a : Nat) (hp : p.size ≤ 1000000000) : ∃ q : Int × Nat × List It, (∀ xs, codC xs (left p a, 0) = codZ xs q (left p a, 0)) ∧ q.2.1 ≤ p.size - a ∧
    ∀ wx, Calls Tryz.prog 88 #[.string (p.extract a p.size)] wx fun e w' => RdB wx q e w' := by
  have hl := left_size p a
  refine ⟨rlM (left p a) 201 [] 0 [(-1, 2)], fun xs => codC_good xs p a, ?_, fun wx => pnread_any wx (left p a) (by omega)⟩
  have := rl_le (left p a) 201 [] 0 [(-1, 2)]
  rw [hl] at this
  exact this
set_option maxRecDepth 100000 in
set_option maxHeartbeats 8000000 in
theorem bcodes_any (w : World) (H M B : Nat) (t : ByteArray) (a : Nat) (vt vi vf vg vx ve vd : Value) (m : Mdl) (h : MS w w H M B t a vt vi vf vg vx ve vd m) (ha : a ≤ t.size) (hs : t.size ≤ 1000000000) (hl : m.funcs.length ≤ 1000) :
    Calls Tryz.prog 52 #[.pointer (some ⟨B, 0, none⟩), .pointer (some ⟨M, 0, none⟩)] w (PSec H M B t (.int .i64 ((secM 10 (m, []) (left t a, 0)).1.2.length : Int)) { m with funcs := updF m.funcs (secM 10 (m, []) (left t a, 0)).1.2 } (secM 10 (m, []) (left t a, 0)).2 w) := by
  have A0 := hid h
  have HL := hid hl
  clear h hl
  obtain ⟨P, hP⟩ : ∃ P, secM 10 (m, []) (left t a, 0) = P := ⟨_, rfl⟩
  have HM0 := hid hP.symm
  rw [hP]
  clear hP
  unfold PSec
  go_enter Tryz.func52, Tryz.ntmps52
  go_wp2_with fail
  have hcf := cntM_facts 16 (by decide) (left t a, 0)
  refine (bcount_any _ B t a 16 A0.out.rd ha hs).mono ?_
  rintro r w1 ⟨ht1, hor1⟩
  have HBD1 := hid (A0.out.bad ht1)
  have HA1 := hid (fun aa hh => A0.out.read (a' := aa) ht1 hh)
  clear ht1
  obtain ⟨v1, s1, hv1⟩ : ∃ v s, cntM 16 (left t a, 0) = (v, s) := ⟨_, _, rfl⟩
  have HM1 := hid (show P = loopM 10 v1.toNat (m, []) s1 from HM0.out.trans (by rw [secM, if_neg (by decide), show limM 10 = 16 from rfl, hv1]))
  rw [hv1] at hor1
  rw [hv1] at hcf
  clear hv1
  rcases hor1 with ⟨hz, rfl, a1, ha1, hl, hb1⟩ | ⟨hnz, rfl⟩
  case inr =>
    have HN := hid hnz
    clear hnz
    go_wp2_with fail
    exact ⟨rfl, HBD1.out.1, .inr ⟨by rw [HM1.out, loop_st HN.out]; exact HN.out, by rw [HM1.out, loop_st HN.out], HBD1.out.2⟩⟩
  have hs1 : s1 = (left t a1, 0) := Prod.ext hl hz
  subst hs1
  have A1 := hid (HA1.out a1 hb1)
  clear hz hl hb1 HA1 HBD1
  obtain ⟨N, rfl⟩ := Int.eq_ofNat_of_zero_le hcf.1
  have hN : N ≤ 16 := by have := hcf.2.1; omega
  have HM1 := hid (show P = loopM 10 N (m, []) (left t a1, 0) from HM1.out)
  clear hcf
  go_wp2_with fail
  have A1 := hid (show MS w w1 H M B t a1 vt vi vf vg vx ve vd { m with funcs := updF m.funcs [] } from by rw [updF_nil]; exact A1.out)
  go_loopw [17] (fun i wr => ∃ (k : Nat) (vt vi vf vg vx ve vd : Value) (cs : List Cd) (aa : Nat), k ≤ N ∧ i = .int .i64 k ∧ aa ≤ t.size ∧ Hid (cs.length = k) ∧ Hid (P = loopM 10 (N - k) (m, cs) (left t aa, 0)) ∧ Hid (MS w wr H M B t aa vt vi vf vg vx ve vd { m with funcs := updF m.funcs cs })) (fun i _ => N - (RowKit.intOf i).toNat)
  case atStart => exact ⟨0, _, _, _, _, _, _, _, [], a1, Nat.zero_le _, rfl, ha1, hid rfl, HM1, A1⟩
  case round =>
    clear A0 A1
    obtain ⟨k, vt, vi, vf, vg, vx, ve, vd, cs, a2, hk, rfl, ha2, HCS, HM2, A2⟩ := hrel
    by_cases hlt : k < N
    · have HM2 := hid (show P = LG 10 up10 (N - (k + 1)) (m, cs) (codeM (left t a2, 0)) from HM2.out.trans (by rw [show N - k = N - (k + 1) + 1 by omega]; exact loop_go rfl rfl))
      go_wp2_with fail
      have hps := pie_size (left t a2, 0)
      refine (bpiece_any _ B t a2 A2.out.rd ha2 hs).mono ?_
      rintro r w3 ⟨ht3, hor3⟩
      have HBD3 := hid (A2.out.bad ht3)
      have HA3 := hid (fun aa hh => A2.out.read (a' := aa) ht3 hh)
      have HBN := hid A2.out.rd.lt
      have HSZ := hid A2.out.size
      clear ht3
      obtain ⟨p, s3, hv3⟩ : ∃ p s, pieM (left t a2, 0) = (p, s) := ⟨_, _, rfl⟩
      have HM3g := hid (fun hz : s3.2 = 0 => show P = LG 10 up10 (N - (k + 1)) (m, cs) (WB (numM (left t a2, 0)).2.1 s3 (codA (p, 0))) from HM2.out.trans (by unfold codeM withM; rw [hv3, if_neg (by simpa using hz)]; rfl))
      have HM3b := hid (fun hz : s3.2 ≠ 0 => show P.2.2 = s3.2 from by
        rw [HM2.out]
        have e := with_st (id := 10) (up := up10) (n := N - (k + 1)) (x := (m, cs)) (F := codA) (d := ([], [])) (s := (left t a2, 0)) (by rw [hv3]; exact hz)
        rw [hv3] at e
        exact e)
      rw [hv3] at hor3 hps
      clear hv3
      rcases hor3 with ⟨hz, R, a3, hR, rfl, ha3, hl3, hb3, hr3⟩ | ⟨hnz, rfl⟩
      case inr =>
        have HN := hid hnz
        have HE := hid (HM3b.out hnz)
        clear hnz
        go_wp2_with fail
        exact ⟨rfl, HBD3.out.1, .inr ⟨by rw [HE.out]; exact HN.out, by rw [HE.out], HBD3.out.2⟩⟩
      have hs3 : s3 = (left t a3, 0) := Prod.ext hl3 hz
      subst hs3
      obtain ⟨z, HM3⟩ : ∃ z, Hid (P = LG 10 up10 (N - (k + 1)) (m, cs) (WB z (left t a3, 0) (codA (p, 0)))) := ⟨_, hid (HM3g.out rfl)⟩
      have A3 := hid (HA3.out a3 hb3)
      have HR := hid hr3
      have hp : p.size ≤ 1000000000 := by have := left_size t a2; simp only at hps; omega
      have hRB : R ≠ B := by have := HBN.out; omega
      have hRH : H ≤ R := by have := HSZ.out; omega
      have A4 := hid (MY.new A3.out HR.out hRH hRB #[.int .i64 0, .slice none 0 0, .slice none 0 0])
      have HM4 := hid (show P = LG 10 up10 (N - (k + 1)) (m, cs) (WB z (left t a3, 0) (codA (left p 0, 0))) from HM3.out.trans (by rw [left_nought]))
      clear hz hl3 hb3 hr3 HA3 HBD3 HM3g HM3b hps hR HR hRB hRH HM3
      go_wp2_with fail
      generalize w3.heap.size = X at *
      have hcf := cntM_facts 16 (by decide) (left p 0, 0)
      refine (bcount_any _ R p 0 16 A4.out.rd (Nat.zero_le _) hp).mono ?_
      rintro r w5 ⟨ht5, hor5⟩
      have HBD5 := hid (A4.out.bad ht5)
      have HA5 := hid (fun aa hh => A4.out.read (b' := aa) ht5 hh)
      clear ht5
      obtain ⟨v5, s5, hv5⟩ : ∃ v s, cntM 16 (left p 0, 0) = (v, s) := ⟨_, _, rfl⟩
      have HM5 := hid (show P = LG 10 up10 (N - (k + 1)) (m, cs) (WB z (left t a3, 0) (codB v5.toNat [] s5)) from HM4.out.trans (by unfold codA; rw [hv5]))
      rw [hv5] at hor5
      rw [hv5] at hcf
      clear hv5
      rcases hor5 with ⟨hz, rfl, a5, ha5, hl, hb5⟩ | ⟨hnz, rfl⟩
      case inr =>
        have HN := hid hnz
        clear hnz
        go_wp2_with fail
        exact ⟨rfl, HBD5.out.1, .inr ⟨by rw [HM5.out, LW_st (codB_st _ HN.out) HN.out]; exact HN.out, by rw [HM5.out, LW_st (codB_st _ HN.out) HN.out], HBD5.out.2⟩⟩
      have hs5 : s5 = (left p a5, 0) := Prod.ext hl hz
      subst hs5
      have A5 := hid (HA5.out a5 hb5)
      clear hz hl hb5 HA5 HBD5
      obtain ⟨N5, rfl⟩ := Int.eq_ofNat_of_zero_le hcf.1
      have hN5 : N5 ≤ 16 := by have := hcf.2.1; omega
      have HM5 := hid (show P = LG 10 up10 (N - (k + 1)) (m, cs) (WB z (left t a3, 0) (codB N5 [] (left p a5, 0))) from HM5.out)
      clear hcf
      have O5 := hid (OwnI.nil w5 w3.heap.size .u8 68)
      go_wp2_with fail
      go_loopw [24] (fun i wr => ∃ (j : Nat) (u : Value) (xs : List Int) (aa : Nat), j ≤ N5 ∧ i = .int .i64 j ∧ xs.length ≤ 16 ∧ aa ≤ p.size ∧ Hid (P = LG 10 up10 (N - (k + 1)) (m, cs) (WB z (left t a3, 0) (codB (N5 - j) xs (left p aa, 0)))) ∧ Hid (MY w w3 wr H M B t a3 vt vi vf vg vx ve vd { m with funcs := updF m.funcs cs } R p aa X [.int .i64 0, u, .slice none 0 0]) ∧ Hid (OwnI wr w3.heap.size .u8 68 u xs)) (fun i _ => N5 - (RowKit.intOf i).toNat)
      case atStart => exact ⟨0, _, [], a5, Nat.zero_le _, rfl, Nat.zero_le _, ha5, HM5, A5, O5⟩
      case round =>
        clear A4 A5 O5 HM5 HM4
        obtain ⟨j, u, xs, a6, hj, rfl, hxl, ha6, HM6, A6, O6⟩ := hrel
        by_cases hlt2 : j < N5
        · have HM6 := hid (show P = LG 10 up10 (N - (k + 1)) (m, cs) (WB z (left t a3, 0) (LB (N5 - (j + 1)) (grpM xs (left p a6, 0)))) from HM6.out.trans (by rw [show N5 - j = N5 - (j + 1) + 1 by omega, codB_succ]))
          obtain ⟨bo, cbp, rfl, _⟩ := own_sl O6.out
          have HXL := hid hxl
          have hnf := numM_facts (left p a6, 0)
          clear hxl
          go_wp2_with fail
          refine (bnumber_any _ R p a6 A6.out.rd ha6 hp).mono ?_
          rintro r w7 ⟨ht7, hor7⟩
          have HBD7 := hid (A6.out.bad ht7)
          have HA7 := hid (fun aa hh => A6.out.read (b' := aa) ht7 hh)
          have O7 := hid ((KT.touch A6.out.rd ht7).own O6.out rfl)
          clear ht7
          obtain ⟨v7, s7, hv7⟩ : ∃ v s, numM (left p a6, 0) = (v, s) := ⟨_, _, rfl⟩
          have HM7 := hid (show P = LG 10 up10 (N - (k + 1)) (m, cs) (WB z (left t a3, 0) (LB (N5 - (j + 1)) (grpA xs v7 s7))) from HM6.out.trans (by unfold grpM; rw [hv7]))
          rw [hv7] at hor7
          rw [hv7] at hnf
          clear hv7
          rcases hor7 with ⟨hz, rfl, a7, ha7, hl, hb7⟩ | ⟨hnz, rfl⟩
          case inr =>
            have HN := hid hnz
            clear hnz
            go_wp2_with fail
            exact ⟨rfl, HBD7.out.1, .inr ⟨by rw [HM7.out, LW_st (by rw [LB_st (by rw [grpA_st HN.out]; exact HN.out), grpA_st HN.out]) HN.out]; exact HN.out, by rw [HM7.out, LW_st (by rw [LB_st (by rw [grpA_st HN.out]; exact HN.out), grpA_st HN.out]) HN.out], HBD7.out.2⟩⟩
          have hs7 : s7 = (left p a7, 0) := Prod.ext hl hz
          subst hs7
          have A7 := hid (HA7.out a7 hb7)
          clear hz hl hb7 HA7 HBD7
          obtain ⟨N7, rfl⟩ := Int.eq_ofNat_of_zero_le hnf.1
          clear hnf
          go_wp2_with fail
          refine (bkind_any _ R p a7 A7.out.rd ha7 hp).mono ?_
          rintro r w8 ⟨ht8, hor8⟩
          have HBD8 := hid (A7.out.bad ht8)
          have HA8 := hid (fun aa hh => A7.out.read (b' := aa) ht8 hh)
          have O8 := hid ((KT.touch A7.out.rd ht8).own O7.out rfl)
          clear ht8
          obtain ⟨v8, s8, hv8⟩ : ∃ v s, kndM (left p a7, 0) = (v, s) := ⟨_, _, rfl⟩
          have HM8 := hid (show P = LG 10 up10 (N - (k + 1)) (m, cs) (WB z (left t a3, 0) (LB (N5 - (j + 1)) (grpB xs N7 v8 s8))) from HM7.out.trans (by unfold grpA; rw [hv8]))
          rw [hv8] at hor8
          clear hv8
          rcases hor8 with ⟨hz, rfl, a8, ha8, hl, hb8⟩ | ⟨hnz, rfl⟩
          case inr =>
            have HN := hid hnz
            clear hnz
            go_wp2_with fail
            exact ⟨rfl, HBD8.out.1, .inr ⟨by rw [HM8.out, LW_st (by rw [LB_st (by rw [grpB_st HN.out]; exact HN.out), grpB_st HN.out]) HN.out]; exact HN.out, by rw [HM8.out, LW_st (by rw [LB_st (by rw [grpB_st HN.out]; exact HN.out), grpB_st HN.out]) HN.out], HBD8.out.2⟩⟩
          have hs8 : s8 = (left p a8, 0) := Prod.ext hl hz
          subst hs8
          have A8 := hid (HA8.out a8 hb8)
          clear hz hl hb8 HA8 HBD8
          have x1 := A8.out.x.cell (i := 1) rfl
          have e16 : IntKind.i64.wrap ((16 : Int) - (xs.length : Int)) = (16 : Int) - (xs.length : Int) := IntWalk.i64_in _ (by have := HXL.out; omega)
          have HM8 := hid (show P = LG 10 up10 (N - (k + 1)) (m, cs) (WB z (left t a3, 0) (LB (N5 - (j + 1)) (grpC xs N7 v8 (sayM (decide (16 < (xs.length : Int) + N7)) 2 (left p a8, 0))))) from HM8.out)
          clear A6 A7 O6 O7
          go_wp2_with fail
          refine (throw_any _ _ _ _).mono ?_
          rintro r wt (⟨hq, rfl, hwt⟩ | ⟨hq, rfl, hwt⟩)
          case inl =>
            have hwt := hwt.symm
            subst hwt
            have HQ := hid (show P = LG 10 up10 (N - (k + 1)) (m, cs) (WB z (left t a3, 0) (LB (N5 - (j + 1)) (grpC xs N7 v8 (left p a8, 2)))) from HM8.out.trans (by rw [show decide (16 < (xs.length : Int) + N7) = true from decide_eq_true (by have := of_decide_eq_true hq; omega), say_yes rfl]))
            clear hq
            go_wp2_with fail
            have HN : Hid ((2 : Int) ≠ 0) := hid (by decide)
            exact ⟨rfl, A8.out.tt, .inr ⟨by rw [HQ.out, LW_st (by rw [LB_st (by rw [grpC_st HN.out]; exact HN.out), grpC_st HN.out]) HN.out]; exact HN.out, by rw [HQ.out, LW_st (by rw [LB_st (by rw [grpC_st HN.out]; exact HN.out), grpC_st HN.out]) HN.out], A8.out.m11⟩⟩
          have hwt := hwt.symm
          subst hwt
          have HM8 := hid (show P = LG 10 up10 (N - (k + 1)) (m, cs) (WB z (left t a3, 0) (LB (N5 - (j + 1)) (grpC xs N7 v8 (left p a8, 0)))) from HM8.out.trans (by rw [show decide (16 < (xs.length : Int) + N7) = false from decide_eq_false (by have := of_decide_eq_false hq; omega), say_no]))
          have hq2 := of_decide_eq_false hq
          clear hq
          have hx7 : xs.length + N7 ≤ 16 := by omega
          have HX7 := hid hx7
          have HM8 := hid (show P = LG 10 up10 (N - (k + 1)) (m, cs) (WB z (left t a3, 0) (LB (N5 - (j + 1)) (xs ++ List.replicate N7 v8, (left p a8, 0)))) from HM8.out.trans (by unfold grpC; rw [if_pos rfl, Int.toNat_natCast]))
          have hN7 : N7 ≤ 16 := by omega
          clear hq2 hx7 x1
          go_wp2_with fail
          go_loopw [39] (fun i wr => ∃ (l : Nat) (u : Value), l ≤ N7 ∧ i = .int .i64 l ∧ Hid (MY w w3 wr H M B t a3 vt vi vf vg vx ve vd { m with funcs := updF m.funcs cs } R p a8 X [.int .i64 0, u, .slice none 0 0]) ∧ Hid (OwnI wr w3.heap.size .u8 68 u (xs ++ List.replicate l v8))) (fun i _ => N7 - (RowKit.intOf i).toNat)
          case atStart => exact ⟨0, _, Nat.zero_le _, rfl, A8, hid (by rw [List.replicate_zero, List.append_nil]; exact O8.out)⟩
          case round =>
            clear A8 O8
            obtain ⟨l, u, hl, rfl, A9, O9⟩ := hrel
            by_cases hlt3 : l < N7
            · obtain ⟨ys, hys⟩ : ∃ ys, xs ++ List.replicate l v8 = ys := ⟨_, rfl⟩
              have hyl : ys.length ≤ 16 := by have := HX7.out; rw [← hys]; simp; omega
              have HYS := hid (show xs ++ List.replicate (l + 1) v8 = ys ++ [v8] from by rw [← hys, List.replicate_succ', List.append_assoc])
              rw [hys] at O9
              obtain ⟨co, ccp, rfl, _⟩ := own_sl O9.out
              have hsz := A9.out.size
              have x1 := A9.out.x.cell (i := 1) rfl
              have HYL := hid hyl
              clear hys hyl
              go_wp2_with (at_builtin; go_must (refine app_int elem_kindv (y := v8) rfl _ _ rfl rfl rfl rfl O9.out (by have := HYL.out; omega) (by have := HYL.out; omega) hsz ?_); intro v' w10 ho hb10 hg; obtain ⟨a10, c10, rfl, _⟩ := own_sl ho; have CP := hid (A9.out.pushK O9.out hg.1 ho); have y0 := CP.out.1.1; have yf := CP.out.1.2; clear ho hb10 hg)
              have C2 := CP.out.2
              rw [show (ys ++ [v8]).length = ys.length + 1 by simp] at C2
              have C2 := hid C2
              clear CP
              go_roundw
              case rel => exact ⟨l + 1, _, hlt3, by go_num, hid C2.out.1, hid (by rw [HYS.out]; exact C2.out.2)⟩
              case measure => simp [RowKit.intOf]; omega
            obtain rfl : l = N7 := by omega
            go_wp2_with fail
            go_roundw
            case rel => exact ⟨j + 1, u, xs ++ List.replicate l v8, a8, hlt2, by go_num, by have := HX7.out; simp; omega, ha8, hid HM8.out, A9, O9⟩
            case measure => simp [RowKit.intOf]; omega
        obtain rfl : j = N5 := by omega
        obtain ⟨⟨qe, qk, ql⟩, hq1, hq2, hq3⟩ := nread_at p a6 hp
        have HM6 := hid (show P = LG 10 up10 (N - (k + 1)) (m, cs) (WB z (left t a3, 0) (codZ xs (qe, qk, ql) (left p a6, 0))) from HM6.out.trans (by rw [Nat.sub_self, codB, hq1]))
        have HP := hid hq3
        obtain ⟨bo, cbp, rfl, _⟩ := own_sl O6.out
        have A7 := hid A6.out.drew
        have O7 := hid (show OwnI (World.drew _) w3.heap.size .u8 68 _ xs from O6.out)
        have hk0 : (0 : Int) ≤ (a6 : Int) := by omega
        have hk1 : (a6 : Int) ≤ (p.size : Int) := by omega
        have hx : ¬ (9223372036854775807 < p.size) := by omega
        have hb1 : (a6 : Int) ≤ 1000000000 := by omega
        have hwa : IntKind.i64.wrap (a6 : Int) = (a6 : Int) := IntWalk.i64_in _ (by omega)
        have HQK := hid hq2
        have HXL := hid hxl
        clear hq1 hq2 hq3 hlt2 hxl
        go_wp2_with fail
        refine wp_region_tail (S := (fun w' => w'.cell? ⟨R, 0, none⟩ = some (.string p) ∧ w'.cell? ⟨R, 1, none⟩ = some (.int .i64 (a6 : Int)))) 16 (by kernel_rfl) (by kernel_rfl) ?_ (fun hHeld => ?_)
        · exact ⟨A7.out.rd.cell (i := 0) rfl, A7.out.rd.cell (i := 1) rfl⟩
        repeat ((first | refine tk 0 ?_ rfl ?_ ?_ | refine tk 1 ?_ rfl ?_ ?_ | refine tk 2 ?_ rfl ?_ ?_ | refine tk 3 ?_ rfl ?_ ?_ | refine tk 4 ?_ rfl ?_ ?_ | refine tk 5 ?_ rfl ?_ ?_ | refine tk 6 ?_ rfl ?_ ?_ | refine tk 7 ?_ rfl ?_ ?_ | refine tk 8 ?_ rfl ?_ ?_ | refine tk 10 ?_ rfl ?_ ?_ | refine tk 11 ?_ rfl ?_ ?_ | refine tk 12 ?_ rfl ?_ ?_ | refine tk 13 ?_ rfl ?_ ?_ | refine tk 14 ?_ rfl ?_ ?_ | refine tk 15 ?_ rfl ?_ ?_); rotate_left; (intro wy hSw; (try dsimp only at hSw); (go_simp <;> with_reducible rfl)); (try simp only [List.getElem_toArray, List.getElem_cons_zero, List.getElem_cons_succ, Act.put, List.setIfInBounds_toArray, List.set_cons_zero, List.set_cons_succ]))
        refine wpT_one (k := 9) rfl (by kernel_rfl) (fun K hK => ?_)
        go_simp
        refine (HP.out _).mono ?_
        rintro r w8 ⟨v8, rfl, ho8, hb8⟩
        have A8 := hid (A7.out.below hb8)
        have O8 := hid ((KT.below (bad := 46) hb8).own O7.out rfl)
        have Q8 := hid (show OwnB w8 w3.heap.size v8 ql from ho8.mono A7.out.size)
        clear hb8 ho8
        go_wp2_with fail
        refine hK.out _ _ ?_ (fun hHeld => ?_)
        · exact ⟨A8.out.rd.cell (i := 0) rfl, A8.out.rd.cell (i := 1) rfl⟩
        clear hK K
        (try simp only [Act.put, List.setIfInBounds_toArray, List.set_cons_zero, List.set_cons_succ])
        repeat ((first | refine tk 0 ?_ rfl ?_ ?_ | refine tk 1 ?_ rfl ?_ ?_ | refine tk 2 ?_ rfl ?_ ?_ | refine tk 3 ?_ rfl ?_ ?_ | refine tk 4 ?_ rfl ?_ ?_ | refine tk 5 ?_ rfl ?_ ?_ | refine tk 6 ?_ rfl ?_ ?_ | refine tk 7 ?_ rfl ?_ ?_ | refine tk 8 ?_ rfl ?_ ?_ | refine tk 10 ?_ rfl ?_ ?_ | refine tk 11 ?_ rfl ?_ ?_ | refine tk 12 ?_ rfl ?_ ?_ | refine tk 13 ?_ rfl ?_ ?_ | refine tk 14 ?_ rfl ?_ ?_ | refine tk 15 ?_ rfl ?_ ?_); rotate_left; (intro wy hSw; (try dsimp only at hSw); (go_simp <;> with_reducible rfl)); (try simp only [List.getElem_toArray, List.getElem_cons_zero, List.getElem_cons_succ, Act.put, List.setIfInBounds_toArray, List.set_cons_zero, List.set_cons_succ]))
        refine wpT_done (by kernel_rfl) ?_
        clear hk0 hk1 hb1 hwa
        go_wp2_with fail
        refine (throw_any _ _ _ _).mono ?_
        rintro r wt (⟨hq, rfl, hwt⟩ | ⟨hq, rfl, hwt⟩)
        case inl =>
          have hwt := hwt.symm
          subst hwt
          have HN := hid (show qe ≠ 0 from by simpa using hq)
          have HE := hid (show P.2.2 = qe from by
            rw [HM6.out]
            exact LW_st (s := (left p a6, qe)) (by unfold codZ; simp only; rw [if_pos HN.out]) HN.out)
          clear hq
          go_wp2_with fail
          exact ⟨rfl, A8.out.tt, .inr ⟨by rw [HE.out]; exact HN.out, by rw [HE.out], A8.out.m11⟩⟩
        have hwt := hwt.symm
        subst hwt
        have hqe : qe = 0 := by simpa using hq
        subst hqe
        have HM9 := hid (show P = LG 10 up10 (N - (k + 1)) (m, cs) (WB z (left t a3, 0) ((xs, ql), (left p (a6 + qk), 0))) from HM6.out.trans (by unfold codZ; simp only; rw [if_neg (by decide), left_left]))
        have hqb : a6 + qk ≤ p.size := by have := HQK.out; omega
        have r1 := A8.out.rd.cell (i := 1) rfl
        have rf := A8.out.rd.free
        have A9 := A8.out.adv (a6 + qk)
        rw [Int.natCast_add] at A9
        have A9 := hid A9
        have O9 := hid ((KT.set (i := 1) (bad := 46) A8.out.rd (.int .i64 ((a6 : Int) + (qk : Int)))).own O8.out rfl)
        have Q9 := hid (Q8.out.ktG (KT.set (i := 1) (bad := 46) A8.out.rd (.int .i64 ((a6 : Int) + (qk : Int)))) rfl rfl)
        have ewn : IntKind.i64.wrap ((a6 : Int) + (qk : Int)) = (a6 : Int) + (qk : Int) := IntWalk.i64_in _ (by omega)
        have hn1 : (a6 : Int) + (qk : Int) ≤ 1000000000 := by omega
        clear hq A7 O7 HP A6 O6
        go_wp2_with fail
        clear r1 rf ewn hn1
        refine (bdone_any _ R p (a6 + qk) A9.out.rd hqb hp).mono ?_
        rintro r w11 ⟨ht11, hor11⟩
        have HBD11 := hid (A9.out.bad ht11)
        have HA11 := hid (fun aa hh => A9.out.read (b' := aa) ht11 hh)
        have O11 := hid ((KT.touch A9.out.rd ht11).own O9.out rfl)
        have Q11 := hid (Q9.out.ktG (KT.touch A9.out.rd ht11) rfl rfl)
        clear ht11
        obtain ⟨s11, hv11⟩ : ∃ s, dneM (left p (a6 + qk), 0) = s := ⟨_, rfl⟩
        have HM11 := hid (show P = LG 10 up10 (N - (k + 1)) (m, cs) ((xs, ql), if s11.2 ≠ 0 then (z, s11.2) else (left t a3, 0)) from HM9.out.trans (by unfold WB; simp only; rw [hv11]))
        rw [hv11] at hor11
        clear hv11
        rcases hor11 with ⟨hz, rfl, a11, ha11, hl, hb11⟩ | ⟨hnz, rfl⟩
        case inr =>
          have HN := hid hnz
          clear hnz
          have HE := hid (show P.2.2 = s11.2 from by rw [HM11.out, if_pos HN.out, LG_st HN.out])
          go_wp2_with fail
          exact ⟨rfl, HBD11.out.1, .inr ⟨by rw [HE.out]; exact HN.out, by rw [HE.out], HBD11.out.2⟩⟩
        have A11 := hid (HA11.out a11 hb11)
        have HM12 := hid (show P = loopM 10 (N - (k + 1)) (m, cs ++ [(xs, ql)]) (left t a3, 0) from HM11.out.trans (by rw [if_neg (by simpa using hz)]; rfl))
        clear hz hl hb11 HA11 HBD11
        obtain ⟨css0, -, hrow⟩ := A11.out.ms.mo.f
        obtain ⟨ao, cap, rfl, _⟩ := own_sl hrow
        have hfl : (updF m.funcs cs).length = m.funcs.length := updF_len _ _
        have A11 := A11.out
        simp only [hfl] at A11 hrow
        have A11 := hid A11
        have HFL := hid hfl
        have m2 := A11.out.ms.mo.blk.cell (i := 2) rfl
        clear hrow hfl
        by_cases hkf : k < m.funcs.length
        · have hck := HCS.out
          subst hck
          have hkl : cs.length < (updF m.funcs cs).length := by rw [HFL.out]; exact hkf
          have hHs : H ≤ w3.heap.size := A3.out.size
          obtain ⟨g, cap2, e2, hHg, ⟨y1, hy1⟩, hf1, ⟨y2, hy2⟩, hf2, kk, hmo⟩ := A11.out.ms.mo.putF cs.length hkl (.slice bo xs.length cbp) v8 xs ql (own_mono' O11.out hHs) (Q11.out.mono hHs)
          obtain ⟨rfl, -, rfl⟩ : ao = some ⟨g, 0, none⟩ ∧ _ ∧ cap = cap2 := by simpa using e2
          have e3 := updF_put m.funcs cs (xs, ql) hkl
          have A14 := hid (show MS w _ H M B t a3 vt vi _ vg vx ve vd { m with funcs := updF m.funcs (cs ++ [(xs, ql)]) } from ⟨kk.blk A11.out.ms.rd rfl, by rw [e3]; exact hmo, (A11.out.ms.tt.trans (Touch.setCell (a := ⟨g, cs.length * 3 + 1, none⟩) (.inr hHg) (.slice bo xs.length cbp))).trans (Touch.setCell (a := ⟨g, cs.length * 3 + 2, none⟩) (.inr hHg) v8), A11.out.ms.hM, A11.out.ms.hB, A11.out.ms.hH⟩)
          have x1 := A11.out.x.cell (i := 1) rfl
          have m2 := A11.out.ms.mo.blk.cell (i := 2) rfl
          have gM : g ≠ M := by have := A11.out.ms.hM; omega
          have gX : g ≠ X := by
            obtain ⟨css3, -, h3⟩ := A3.out.mo.f
            have h4 := (World.ownsRow.lt h3 g rfl).2
            have h5 := A11.out.hX
            omega
          clear e2 hHg kk hmo e3 hHs hkl
          obtain ⟨css8, -, h8⟩ := Q11.out
          obtain ⟨vo, vc, rfl, _⟩ := own_sl h8
          clear h8
          go_wp2_with fail
          refine wp_region_tail (S := (fun w' => w'.cell? ⟨M, 2, none⟩ = some (.slice (some ⟨g, 0, none⟩) m.funcs.length cap) ∧ w'.cell? ⟨X, 1, none⟩ = some (.slice bo xs.length cbp))) 18 (by kernel_rfl) (by kernel_rfl) ?_ (fun hHeld => ?_)
          · exact ⟨m2, x1⟩
          repeat ((first | refine tk 0 ?_ rfl ?_ ?_ | refine tk 1 ?_ rfl ?_ ?_ | refine tk 2 ?_ rfl ?_ ?_ | refine tk 3 ?_ rfl ?_ ?_ | refine tk 4 ?_ rfl ?_ ?_ | refine tk 5 ?_ rfl ?_ ?_ | refine tk 6 ?_ rfl ?_ ?_ | refine tk 7 ?_ rfl ?_ ?_ | refine tk 8 ?_ rfl ?_ ?_ | refine tk 9 ?_ rfl ?_ ?_ | refine tk 10 ?_ rfl ?_ ?_ | refine tk 11 ?_ rfl ?_ ?_ | refine tk 12 ?_ rfl ?_ ?_ | refine tk 13 ?_ rfl ?_ ?_ | refine tk 14 ?_ rfl ?_ ?_ | refine tk 16 ?_ rfl ?_ ?_ | refine tk 17 ?_ rfl ?_ ?_); rotate_left; (intro wy hSw; (try dsimp only at hSw); (go_simp <;> with_reducible rfl)); (try simp only [List.getElem_toArray, List.getElem_cons_zero, List.getElem_cons_succ, Act.put, List.setIfInBounds_toArray, List.set_cons_zero, List.set_cons_succ]))
          refine wpT_one (k := 15) rfl (by kernel_rfl) (fun K hK => ?_)
          go_simp
          refine hK.out _ _ ?_ (fun hHeld => ?_)
          · exact ⟨(A11.out.ms.mo.blk.other (a := ⟨g, cs.length * 3 + 1, none⟩) gM _).cell (i := 2) rfl, (A11.out.x.other (a := ⟨g, cs.length * 3 + 1, none⟩) gX _).cell (i := 1) rfl⟩
          clear hK K
          (try simp only [Act.put, List.setIfInBounds_toArray, List.set_cons_zero, List.set_cons_succ])
          repeat ((first | refine tk 0 ?_ rfl ?_ ?_ | refine tk 1 ?_ rfl ?_ ?_ | refine tk 2 ?_ rfl ?_ ?_ | refine tk 3 ?_ rfl ?_ ?_ | refine tk 4 ?_ rfl ?_ ?_ | refine tk 5 ?_ rfl ?_ ?_ | refine tk 6 ?_ rfl ?_ ?_ | refine tk 7 ?_ rfl ?_ ?_ | refine tk 8 ?_ rfl ?_ ?_ | refine tk 9 ?_ rfl ?_ ?_ | refine tk 10 ?_ rfl ?_ ?_ | refine tk 11 ?_ rfl ?_ ?_ | refine tk 12 ?_ rfl ?_ ?_ | refine tk 13 ?_ rfl ?_ ?_ | refine tk 14 ?_ rfl ?_ ?_ | refine tk 16 ?_ rfl ?_ ?_ | refine tk 17 ?_ rfl ?_ ?_); rotate_left; (intro wy hSw; (try dsimp only at hSw); (go_simp <;> with_reducible rfl)); (try simp only [List.getElem_toArray, List.getElem_cons_zero, List.getElem_cons_succ, Act.put, List.setIfInBounds_toArray, List.set_cons_zero, List.set_cons_succ]))
          refine wpT_done (by kernel_rfl) ?_
          go_wp2_with fail
          go_roundw
          case rel => exact ⟨cs.length + 1, _, _, _, _, _, _, _, cs ++ [(xs, ql)], a3, hlt, by go_num, ha3, hid (by simp), HM12, hid A14.out.drew⟩
          case measure => simp [RowKit.intOf]; omega
        · have A14 := hid (show MS w w11 H M B t a3 vt vi _ vg vx ve vd { m with funcs := updF m.funcs (cs ++ [(xs, ql)]) } from by rw [updF_snoc, dif_neg (by rw [HCS.out]; exact hkf)]; exact A11.out.ms)
          go_wp2_with fail
          go_roundw
          case rel => exact ⟨k + 1, _, _, _, _, _, _, _, cs ++ [(xs, ql)], a3, hlt, by go_num, ha3, hid (by have := HCS.out; simp; omega), HM12, A14⟩
          case measure => simp [RowKit.intOf]; omega
    obtain rfl : k = N := by omega
    have HM2 := hid (show P = ((m, cs), (left t a2, 0)) from HM2.out.trans (by rw [Nat.sub_self]; rfl))
    go_wp2_with fail
    go_ret
    exact ⟨A2.out.tt, .inl ⟨by rw [HM2.out], by rw [HM2.out]; show _ = Ending.returned (.int .i64 (cs.length : Int)); rw [HCS.out]; rfl, vt, vi, vf, vg, vx, ve, vd, a2, ha2, by rw [HM2.out], by rw [HM2.out]; exact A2.out.mo, A2.out.rd⟩⟩
end Go.Proofs.YtakfineljffoaaaGreatDoor
