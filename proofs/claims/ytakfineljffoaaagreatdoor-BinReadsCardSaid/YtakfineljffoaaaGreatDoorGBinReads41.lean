/-
  MODULES READ, the program's reader: section 11. Conditions: a text in the form's reach. Printed by a program of mine.
-/
import Derived.Test.YtakfineljffoaaaGreatDoorGBinReads30
import Derived.Test.YtakfineljffoaaaGreatDoorGBinReads34
namespace Go.Proofs.YtakfineljffoaaaGreatDoor
open Go.RowKit Go.Lib

set_option maxRecDepth 100000 in
set_option maxHeartbeats 8000000 in
theorem blat11_any (w : World) (H M B : Nat) (t : ByteArray) (a : Nat) (vt vi vf vg vx ve vd : Value) (m : Mdl) (cs : List Cd) (h : MS w w H M B t a vt vi vf vg vx ve vd m) (ha : a ≤ t.size) (hs : t.size ≤ 1000000000) (hl : m.data.length ≤ 1000) :
    Calls Tryz.prog 53 #[.pointer (some ⟨B, 0, none⟩), .int .u8 11, .pointer (some ⟨M, 0, none⟩)] w (PSec H M B t (.tuple #[]) (secM 11 (m, cs) (left t a, 0)).1.1 (secM 11 (m, cs) (left t a, 0)).2 w) := by
  have A0 := hid h
  clear h
  obtain ⟨P, hP⟩ : ∃ P, secM 11 (m, cs) (left t a, 0) = P := ⟨_, rfl⟩
  have HM0 := hid hP.symm
  rw [hP]
  clear hP
  unfold PSec
  go_enter Tryz.func53, Tryz.ntmps53
  go_wp2_with fail
  have HB0 := hid (show m.data.length ≤ 1000 + 0 from hl)
  clear hl
  have hcf := cntM_facts 4 (by decide) (left t a, 0)
  refine (bcount_any _ B t a 4 A0.out.rd ha hs).mono ?_
  rintro r w1 ⟨ht1, hor1⟩
  have HBD1 := hid (A0.out.bad ht1)
  have HA1 := hid (fun aa hh => A0.out.read (a' := aa) ht1 hh)
  clear ht1
  obtain ⟨v1, s1, hv1⟩ : ∃ v s, cntM 4 (left t a, 0) = (v, s) := ⟨_, _, rfl⟩
  have HM1 := hid (show P = loopM 11 v1.toNat (m, cs) s1 from HM0.out.trans (by rw [secM, if_neg (by decide), show limM 11 = 4 from rfl, hv1]))
  rw [hv1] at hor1
  rw [hv1] at hcf
  clear hv1
  rcases hor1 with ⟨hz, rfl, a1, ha1, hl, hb1⟩ | ⟨hnz, rfl⟩
  case inr =>
    have HN := hid hnz
    clear hnz
    go_wp2_with fail
    exact ⟨rfl, HBD1.out.1, .inr ⟨by rw [HM1.out, loop_st HN.out]; exact HN.out, by rw [HM1.out, loop_st HN.out], HBD1.out.2⟩⟩
  have hs1 : s1 = (left t a1, 0) := Prod.ext hl hz
  subst hs1
  have A1 := hid (HA1.out a1 hb1)
  clear hz hl hb1 HA1 HBD1
  obtain ⟨N, rfl⟩ := Int.eq_ofNat_of_zero_le hcf.1
  have hN : N ≤ 4 := by have := hcf.2.1; omega
  have HM1 := hid (show P = loopM 11 N (m, cs) (left t a1, 0) from HM1.out)
  clear hcf
  go_wp2_with fail
  obtain ⟨m0, hm0⟩ : ∃ m0 : Mdl, m0 = m := ⟨_, rfl⟩
  go_loopw [87] (fun i wr => ∃ (k : Nat) (vt vi vf vg vx ve vd : Value) (mm : Mdl) (aa : Nat), k ≤ N ∧ i = .int .i64 k ∧ aa ≤ t.size ∧ Hid (mm.data.length ≤ 1000 + k) ∧ Hid (P = loopM 11 (N - k) (mm, cs) (left t aa, 0)) ∧ Hid (MS w wr H M B t aa vt vi vf vg vx ve vd mm)) (fun i _ => N - (RowKit.intOf i).toNat)
  case atStart => exact ⟨0, _, _, _, _, _, _, _, m, a1, Nat.zero_le _, rfl, ha1, HB0, HM1, A1⟩
  case round =>
    clear A0 A1
    obtain ⟨k, vt, vi, vf, vg, vx, ve, vd, mm, a2, hk, rfl, ha2, HBN, HM2, A2⟩ := hrel
    by_cases hlt : k < N
    · have HM2 := hid (show P = LG 11 up11 (N - (k + 1)) (mm, cs) (datM (left t a2, 0)) from HM2.out.trans (by rw [show N - k = N - (k + 1) + 1 by omega]; exact loop_go rfl rfl))
      obtain ⟨n0, hn0⟩ : ∃ n, mm.data.length = n := ⟨_, rfl⟩
      obtain ⟨css0, -, hrow⟩ := A2.out.mo.d
      rw [hn0] at hrow
      obtain ⟨ao, cap, rfl, _⟩ := own_sl hrow
      have HN0 := hid hn0
      clear hrow hn0
      go_wp2_with fail
      refine (bplace_any _ B t a2 A2.out.rd ha2 hs).mono ?_
      rintro r w3 ⟨ht3, hor3⟩
      have HBD3 := hid (A2.out.bad ht3)
      have HA3 := hid (fun aa hh => A2.out.read (a' := aa) ht3 hh)
      clear ht3
      obtain ⟨v3, s3, hv3⟩ : ∃ v s, plcM (left t a2, 0) = (v, s) := ⟨_, _, rfl⟩
      have HM3 := hid (show P = LG 11 up11 (N - (k + 1)) (mm, cs) (datA v3 s3) from HM2.out.trans (by unfold datM; rw [hv3]))
      rw [hv3] at hor3
      clear hv3
      rcases hor3 with ⟨hz, rfl, a3, ha3, hl, hb3⟩ | ⟨hnz, rfl⟩
      case inr =>
        have HN := hid hnz
        clear hnz
        go_wp2_with fail
        exact ⟨rfl, HBD3.out.1, .inr ⟨by rw [HM3.out, LG_st (by rw [datA_st HN.out]; exact HN.out), datA_st HN.out]; exact HN.out, by rw [HM3.out, LG_st (by rw [datA_st HN.out]; exact HN.out), datA_st HN.out], HBD3.out.2⟩⟩
      have hs3 : s3 = (left t a3, 0) := Prod.ext hl hz
      subst hs3
      have A3 := hid (HA3.out a3 hb3)
      clear hz hl hb3 HA3 HBD3
      have HS3 := A3
      have A3 := hid (MX.new A3.out #[.int .i64 v3, .string ⟨#[]⟩] 92)
      go_wp2_with fail
      generalize w3.heap.size = X at *
      have HRL := hid (show ∀ j, (Value.slice ao n0 cap).ownBlock = some j → j < w3.heap.size from fun j hj => by obtain ⟨css1, -, hr1⟩ := HS3.out.mo.d; exact (World.ownsRow.lt hr1 j hj).2)
      clear HS3
      have hcf := cntM_facts 64 (by decide) (left t a3, 0)
      refine (bcount_any _ B t a3 64 A3.out.rd ha3 hs).mono ?_
      rintro r w4 ⟨ht4, hor4⟩
      have HBD4 := hid (A3.out.bad ht4)
      have HA4 := hid (fun aa hh => A3.out.read (a' := aa) ht4 hh)
      clear ht4
      obtain ⟨v4, s4, hv4⟩ : ∃ v s, cntM 64 (left t a3, 0) = (v, s) := ⟨_, _, rfl⟩
      have HM4 := hid (show P = LG 11 up11 (N - (k + 1)) (mm, cs) (datB v3 v4 s4) from HM3.out.trans (by unfold datA; rw [hv4]))
      rw [hv4] at hor4
      rw [hv4] at hcf
      clear hv4
      rcases hor4 with ⟨hz, rfl, a4, ha4, hl, hb4⟩ | ⟨hnz, rfl⟩
      case inr =>
        have HN := hid hnz
        clear hnz
        go_wp2_with fail
        exact ⟨rfl, HBD4.out.1, .inr ⟨by rw [HM4.out, LG_st (by rw [datB_st HN.out]; exact HN.out), datB_st HN.out]; exact HN.out, by rw [HM4.out, LG_st (by rw [datB_st HN.out]; exact HN.out), datB_st HN.out], HBD4.out.2⟩⟩
      have hs4 : s4 = (left t a4, 0) := Prod.ext hl hz
      subst hs4
      have A4 := hid (HA4.out a4 hb4)
      clear hz hl hb4 HA4 HBD4
      obtain ⟨N4, rfl⟩ := Int.eq_ofNat_of_zero_le hcf.1
      have hN4 : N4 ≤ 64 := by have := hcf.2.1; omega
      clear hcf
      have hls := left_size t a4
      have hwr : IntKind.i64.wrap ((t.size : Int) - (a4 : Int)) = (t.size : Int) - (a4 : Int) := IntWalk.i64_in _ (by omega)
      have HM4 := hid (show P = LG 11 up11 (N - (k + 1)) (mm, cs) (datC v3 N4 (sayM (decide ((t.size : Int) - (a4 : Int) < N4)) 3 (left t a4, 0))) from HM4.out.trans (by rw [datB, show ((left t a4).size : Int) = (t.size : Int) - (a4 : Int) by omega]))
      have A5 := hid A4.out.drew
      go_wp2_with fail
      refine wp_region_tail (S := (fun w' => w'.cell? ⟨B, 0, none⟩ = some (.string t) ∧ w'.cell? ⟨B, 1, none⟩ = some (.int .i64 (a4 : Int)))) 13 (by kernel_rfl) (by kernel_rfl) ?_ (fun hHeld => ?_)
      · exact ⟨A5.out.rd.cell (i := 0) rfl, A5.out.rd.cell (i := 1) rfl⟩
      repeat ((first | refine tk 0 ?_ rfl ?_ ?_ | refine tk 1 ?_ rfl ?_ ?_ | refine tk 2 ?_ rfl ?_ ?_ | refine tk 3 ?_ rfl ?_ ?_ | refine tk 4 ?_ rfl ?_ ?_ | refine tk 5 ?_ rfl ?_ ?_ | refine tk 6 ?_ rfl ?_ ?_ | refine tk 7 ?_ rfl ?_ ?_ | refine tk 8 ?_ rfl ?_ ?_ | refine tk 9 ?_ rfl ?_ ?_ | refine tk 10 ?_ rfl ?_ ?_ | refine tk 11 ?_ rfl ?_ ?_ | refine tk 12 ?_ rfl ?_ ?_); rotate_left; (intro wy hSw; (try dsimp only at hSw); (go_simp <;> with_reducible rfl)); (try simp only [List.getElem_toArray, List.getElem_cons_zero, List.getElem_cons_succ, Act.put, List.setIfInBounds_toArray, List.set_cons_zero, List.set_cons_succ]))
      refine wpT_done (by kernel_rfl) ?_
      go_wp2_with fail
      refine (throw_any _ _ _ _).mono ?_
      rintro r wt (⟨hq, rfl, hwt⟩ | ⟨hq, rfl, hwt⟩)
      case inl =>
        have hwt := hwt.symm
        subst hwt
        have HQ := hid (show P = LG 11 up11 (N - (k + 1)) (mm, cs) (datC v3 N4 (left t a4, 3)) from HM4.out.trans (by rw [show decide ((t.size : Int) - (a4 : Int) < N4) = true from decide_eq_true (by have := of_decide_eq_true hq; omega), say_yes rfl]))
        clear hq
        go_wp2_with fail
        have HN : Hid ((3 : Int) ≠ 0) := hid (by decide)
        exact ⟨rfl, A5.out.tt, .inr ⟨by rw [HQ.out, LG_st (by rw [datC_st HN.out]; exact HN.out), datC_st HN.out]; exact HN.out, by rw [HQ.out, LG_st (by rw [datC_st HN.out]; exact HN.out), datC_st HN.out], A5.out.m11⟩⟩
      have hwt := hwt.symm
      subst hwt
      have HM4 := hid (show P = LG 11 up11 (N - (k + 1)) (mm, cs) (datC v3 N4 (left t a4, 0)) from HM4.out.trans (by rw [show decide ((t.size : Int) - (a4 : Int) < N4) = false from decide_eq_false (by have := of_decide_eq_false hq; omega), say_no]))
      have hq2 := of_decide_eq_false hq
      clear hq
      have hn4 : a4 + N4 ≤ t.size := by omega
      have HM6 := hid (show P = LG 11 up11 (N - (k + 1)) (mm, cs) ((v3, t.extract a4 (a4 + N4)), (left t (a4 + N4), 0)) from HM4.out.trans (by unfold datC; rw [if_pos rfl, Int.toNat_natCast, left_left, left_cut t a4 N4 hn4]))
      have A6 := hid A5.out.drew
      have hlt1 : (a4 : Int) ≤ (a4 : Int) + (N4 : Int) := by omega
      have hlt3 : (a4 : Int) + (N4 : Int) ≤ (t.size : Int) := by omega
      have h0a : (0 : Int) ≤ (a4 : Int) := by omega
      have h0s : (0 : Int) ≤ (a4 : Int) + (N4 : Int) := by omega
      have e3 : ((a4 : Int) + (N4 : Int)).toNat = a4 + N4 := by omega
      have hx : ¬ (9223372036854775807 < t.size) := by omega
      have hn1 : (a4 : Int) + (N4 : Int) ≤ 1000000000 := by omega
      have ewn : IntKind.i64.wrap ((a4 : Int) + (N4 : Int)) = (a4 : Int) + (N4 : Int) := IntWalk.i64_in _ (by omega)
      clear hq2 hls
      go_wp2_with fail
      refine wp_region_tail (S := (fun w' => w'.cell? ⟨B, 0, none⟩ = some (.string t) ∧ w'.cell? ⟨B, 1, none⟩ = some (.int .i64 (a4 : Int)))) 16 (by kernel_rfl) (by kernel_rfl) ?_ (fun hHeld => ?_)
      · exact ⟨A6.out.rd.cell (i := 0) rfl, A6.out.rd.cell (i := 1) rfl⟩
      repeat ((first | refine tk 0 ?_ rfl ?_ ?_ | refine tk 1 ?_ rfl ?_ ?_ | refine tk 2 ?_ rfl ?_ ?_ | refine tk 3 ?_ rfl ?_ ?_ | refine tk 4 ?_ rfl ?_ ?_ | refine tk 5 ?_ rfl ?_ ?_ | refine tk 6 ?_ rfl ?_ ?_ | refine tk 7 ?_ rfl ?_ ?_ | refine tk 8 ?_ rfl ?_ ?_ | refine tk 9 ?_ rfl ?_ ?_ | refine tk 10 ?_ rfl ?_ ?_ | refine tk 11 ?_ rfl ?_ ?_ | refine tk 12 ?_ rfl ?_ ?_ | refine tk 13 ?_ rfl ?_ ?_ | refine tk 14 ?_ rfl ?_ ?_ | refine tk 15 ?_ rfl ?_ ?_); rotate_left; (intro wy hSw; (try dsimp only at hSw); (go_simp <;> with_reducible rfl)); (try simp only [List.getElem_toArray, List.getElem_cons_zero, List.getElem_cons_succ, Act.put, List.setIfInBounds_toArray, List.set_cons_zero, List.set_cons_succ]))
      refine wpT_done (by kernel_rfl) ?_
      generalize World.drew (World.drew w4) = wq at *
      have x1 := A6.out.x.cell (i := 1) rfl
      have xf := A6.out.x.free
      have A7 := hid (A6.out.set 1 (.string (t.extract a4 (a4 + N4))))
      have z1 := A7.out.rd.cell (i := 1) rfl
      have zf := A7.out.rd.free
      have A8 := A7.out.adv (a4 + N4)
      rw [Int.natCast_add] at A8
      have A8 := hid A8
      have HX8 := hid (show ∀ wx, EDa wx H [.int .i64 v3, .string (t.extract a4 (a4 + N4))] (v3, t.extract a4 (a4 + N4)) from fun _ => rfl)
      clear A7
      go_wp2_with fail
      clear x1 xf z1 zf
      have A8 := hid A8.out.drew
      go_wp2_with fail
      refine wp_region_tail (S := (fun w' => w'.cell? ⟨M, 10, none⟩ = some (.slice ao n0 cap) ∧ w'.cell? ⟨X, 0, none⟩ = some (.int .i64 v3) ∧ w'.cell? ⟨X, 1, none⟩ = some (.string (t.extract a4 (a4 + N4))))) 10 (by kernel_rfl) (by kernel_rfl) ?_ (fun hHeld => ?_)
      · exact ⟨A8.out.ms.mo.blk.cell (i := 10) rfl, A8.out.x.cell (i := 0) rfl, A8.out.x.cell (i := 1) rfl⟩
      repeat ((first | refine tk 0 ?_ rfl ?_ ?_ | refine tk 1 ?_ rfl ?_ ?_ | refine tk 2 ?_ rfl ?_ ?_ | refine tk 3 ?_ rfl ?_ ?_ | refine tk 4 ?_ rfl ?_ ?_ | refine tk 5 ?_ rfl ?_ ?_ | refine tk 8 ?_ rfl ?_ ?_ | refine tk 9 ?_ rfl ?_ ?_); rotate_left; (intro wy hSw; (try dsimp only at hSw); (go_simp <;> with_reducible rfl)); (try simp only [List.getElem_toArray, List.getElem_cons_zero, List.getElem_cons_succ, Act.put, List.setIfInBounds_toArray, List.set_cons_zero, List.set_cons_succ]))
      generalize World.drew ((wq.setCell ⟨X, 1, none⟩ (.string (t.extract a4 (a4 + N4)))).setCell ⟨B, 1, none⟩ (.int .i64 ((a4 : Int) + (N4 : Int)))) = wz at *
      refine wpT_one (k := 6) rfl (by kernel_rfl) (fun K hK => ?_)
      go_simp
      refine hK.out _ _ ?_ (fun hHeld => ?_)
      · exact ⟨cell_alloc _ (A8.out.ms.mo.blk.cell (i := 10) rfl), cell_alloc _ (A8.out.x.cell (i := 0) rfl), cell_alloc _ (A8.out.x.cell (i := 1) rfl)⟩
      clear hK K
      (try simp only [Act.put, List.setIfInBounds_toArray, List.set_cons_zero, List.set_cons_succ])
      obtain ⟨css, HC, hrow⟩ := A8.out.ms.mo.d
      have HBN2 := HBN.out
      have HN02 := HN0.out
      rw [HN02] at hrow HBN2
      refine wpT_one (k := 7) rfl (by kernel_rfl) (fun K hK => ?_)
      refine step_one1 elem_datav (cs := [.int .i64 v3, .string (t.extract a4 (a4 + N4))]) (by rfl) _ _ (by rfl) (by rfl) (by rfl) rfl hrow rfl (by intro c hc; simp at hc; rcases hc with rfl | rfl <;> rfl) (by omega) (by omega) A8.out.ms.size ?_
      intro v' w6 ho6 hb6 hg6
      obtain ⟨az, cz, rfl, _⟩ := own_sl ho6
      have C4 := hid (A8.out.ms.pushD HN02 HC hrow (HX8.out _) hg6.1 ho6)
      have y0 := C4.out.1.1
      have yf := C4.out.1.2
      have hxk := A8.out.xkeep HRL.out hg6.1
      refine hK.out _ _ ?_ (fun hHeld => ?_)
      · exact ⟨y0, hxk.cell (i := 0) rfl, hxk.cell (i := 1) rfl⟩
      clear hK K
      (try simp only [Act.put, List.setIfInBounds_toArray, List.set_cons_zero, List.set_cons_succ])
      repeat ((first | refine tk 8 ?_ rfl ?_ ?_ | refine tk 9 ?_ rfl ?_ ?_); rotate_left; (intro wy hSw; (try dsimp only at hSw); (go_simp <;> with_reducible rfl)); (try simp only [List.getElem_toArray, List.getElem_cons_zero, List.getElem_cons_succ, Act.put, List.setIfInBounds_toArray, List.set_cons_zero, List.set_cons_succ]))
      refine wpT_done (by kernel_rfl) ?_
      go_wp2_with fail
      go_roundw
      case rel => exact ⟨k + 1, _, _, _, _, _, _, _, _, a4 + N4, hlt, by go_num, hn4, hid (by have := HBN.out; simp; omega), hid HM6.out, hid C4.out.2⟩
      case measure => simp [RowKit.intOf]; omega
    obtain rfl : k = N := by omega
    have HM2 := hid (show P = ((mm, cs), (left t a2, 0)) from HM2.out.trans (by rw [Nat.sub_self]; rfl))
    go_wp2_with fail
    go_end0
    exact ⟨A2.out.tt, .inl ⟨by rw [HM2.out], rfl, vt, vi, vf, vg, vx, ve, vd, a2, ha2, by rw [HM2.out], by rw [HM2.out]; exact A2.out.mo, A2.out.rd⟩⟩
end Go.Proofs.YtakfineljffoaaaGreatDoor
namespace Go.Proofs.YtakfineljffoaaaGreatDoor
open Go.RowKit Go.Lib

set_option maxRecDepth 100000 in
set_option maxHeartbeats 8000000 in
theorem csec11_any (w : World) (H M K B : Nat) (all : Int) (s : SB) (vt vi vf vg vx ve vd kv : Value) (m : Mdl) (cs : List Cd) (h : RS w w H M K B all s vt vi vf vg vx ve vd kv m cs) (hs : okSc s) (hl : m.data.length ≤ 1000) :
    Calls Tryz.prog 24 #[.pointer (some ⟨B, 0, none⟩), .int .i64 11, .pointer (some ⟨M, 0, none⟩), .pointer (some ⟨K, 0, none⟩)] w fun e w' => e = .returned (.tuple #[]) ∧ ∃ vt vi vf vg vx ve vd kv, RS w w' H M K B all (secM 11 (m, cs) s).2 vt vi vf vg vx ve vd kv (secM 11 (m, cs) s).1.1 (secM 11 (m, cs) s).1.2 := by
  have A0 := hid h
  have S0 := hid hs
  have HB0 := hid (show m.data.length ≤ 1000 + 0 from hl)
  clear h hs hl
  obtain ⟨P, hP⟩ : ∃ P, secM 11 (m, cs) s = P := ⟨_, rfl⟩
  have HM0 := hid hP.symm
  rw [hP]
  clear hP
  have LB0 := hid (show Below w.heap.size w (w.alloc (.cells #[.int .i64 0, .int .i64 16, .int .i64 16, .int .i64 16, .int .i64 1, .int .i64 1, .int .i64 8, .int .i64 8, .int .i64 0, .int .i64 4, .int .i64 16, .int .i64 4] 114)) from (Below.refl _ _).alloc (Nat.le_refl _) _)
  have A0 := hid (A0.out.below LB0.out)
  clear LB0
  go_enter Tryz.func24, Tryz.ntmps24
  go_wp2_with fail
  have hcf := cntM_facts 4 (by decide) s
  refine (ccount_any _ B all s 4 A0.out.cu S0.out).mono ?_
  rintro r w1 ⟨hr, h1, t1⟩
  have hle := cnt_le 4 (by decide) s
  obtain ⟨v1, s1, hv1⟩ : ∃ vz sz, cntM 4 s = (vz, sz) := ⟨_, _, rfl⟩
  have HM1 := hid (show P = loopM 11 v1.toNat (m, cs) s1 from HM0.out.trans (by rw [secM, if_neg (by decide), show limM 11 = 4 from rfl, hv1]))
  rw [hv1] at hr h1 hle
  rw [hv1] at hcf
  subst hr
  have A1 := hid (A0.out.read t1 h1)
  have S1 := hid (S0.out.le hle)
  clear h1 t1 hle hv1
  obtain ⟨N, rfl⟩ := Int.eq_ofNat_of_zero_le hcf.1
  have hN : N ≤ 16 := by have := hcf.2.1; omega
  have HM1 := hid (show P = loopM 11 N (m, cs) s1 from HM1.out)
  clear hcf
  go_wp2_with fail
  obtain ⟨m0, hm0⟩ : ∃ m0 : Mdl, m0 = m := ⟨_, rfl⟩
  go_loopw [36] (fun i wr => ∃ (k : Nat) (vt vi vf vg vx ve vd kv : Value) (mm : Mdl) (cc : List Cd) (sz : SB), k ≤ N ∧ i = .int .i64 k ∧ Hid (mm.data.length ≤ 1000 + k) ∧ Hid (okSc sz) ∧ Hid (P = loopM 11 (N - k) (mm, cc) sz) ∧ Hid (RS w wr H M K B all sz vt vi vf vg vx ve vd kv mm cc)) (fun i _ => N - (RowKit.intOf i).toNat)
  case atStart => exact ⟨0, _, _, _, _, _, _, _, _, m, cs, s1, Nat.zero_le _, rfl, HB0, S1, HM1, A1⟩
  case round =>
    clear A0 A1 S1 S0 HM0 HM1
    obtain ⟨k, vt, vi, vf, vg, vx, ve, vd, kv, mm, cc, s2, hk, rfl, HBN, S2, HM2, A2⟩ := hrel
    have y2 := A2.out.cu.cell (i := 2) rfl
    by_cases hlt : k < N
    · by_cases hz : s2.2 ≠ 0
      · have hz2 : (s2.2 != 0) = true := by simpa using hz
        have HM3 := hid (show P = ((mm, cc), s2) from HM2.out.trans (loop_st hz))
        clear hz
        go_wp2_with fail
        first | go_end0 | refine bodyPost_ret (results_none rfl _ _ _) rfl ?_
        exact ⟨rfl, vt, vi, vf, vg, vx, ve, vd, kv, by rw [HM3.out]; exact A2.out⟩
      have hz2 : (s2.2 != 0) = false := by simpa using hz
      have HM2 := hid (show P = LG 11 up11 (N - (k + 1)) (mm, cc) (datM s2) from HM2.out.trans (by rw [show N - k = N - (k + 1) + 1 by omega]; exact loop_go (Classical.byContradiction hz) rfl))
      clear hz
      obtain ⟨n0, hn0⟩ : ∃ n, mm.data.length = n := ⟨_, rfl⟩
      obtain ⟨css0, -, hrow⟩ := A2.out.mo.d
      rw [hn0] at hrow
      obtain ⟨ao, cap, rfl, _⟩ := own_sl hrow
      have HN0 := hid hn0
      clear hrow hn0
      go_wp2_with fail
      refine (cplace_any _ B all s2 A2.out.cu S2.out).mono ?_
      rintro r w3 ⟨hr, h3, t3⟩
      have hle := plc_le s2
      obtain ⟨v3, s3, hv3⟩ : ∃ vz sz, plcM s2 = (vz, sz) := ⟨_, _, rfl⟩
      have HM3 := hid (show P = LG 11 up11 (N - (k + 1)) (mm, cc) (datA v3 s3) from HM2.out.trans (by unfold datM; rw [hv3]))
      rw [hv3] at hr h3 hle
      subst hr
      have A3 := hid (A2.out.read t3 h3)
      have S3 := hid (S2.out.le hle)
      clear h3 t3 hle hv3
      have HS3 := A3
      have A3 := hid (RX.new A3.out #[.int .i64 v3, .string ⟨#[]⟩] 92)
      go_wp2_with fail
      generalize w3.heap.size = X at *
      have HRL := hid (show ∀ j, (Value.slice ao n0 cap).ownBlock = some j → j < w3.heap.size from fun j hj => by obtain ⟨css1, -, hr1⟩ := HS3.out.mo.d; exact (World.ownsRow.lt hr1 j hj).2)
      clear HS3
      have hcf := cntM_facts 64 (by decide) s3
      refine (ccount_any _ B all s3 64 A3.out.cu S3.out).mono ?_
      rintro r w4 ⟨hr, h4, t4⟩
      have hle := cnt_le 64 (by decide) s3
      obtain ⟨v4, s4, hv4⟩ : ∃ vz sz, cntM 64 s3 = (vz, sz) := ⟨_, _, rfl⟩
      have HM4 := hid (show P = LG 11 up11 (N - (k + 1)) (mm, cc) (datB v3 v4 s4) from HM3.out.trans (by unfold datA; rw [hv4]))
      rw [hv4] at hr h4 hle
      rw [hv4] at hcf
      subst hr
      have A4 := hid (A3.out.read t4 h4)
      have S4 := hid (S3.out.le hle)
      clear h4 t4 hle hv4
      obtain ⟨N4, rfl⟩ := Int.eq_ofNat_of_zero_le hcf.1
      have hN4 : N4 ≤ 64 := by have := hcf.2.1; omega
      clear hcf
      have b0 := A4.out.cu.cell (i := 0) rfl
      go_wp2_with fail
      clear b0
      refine (csay_as _ B all s4 _ (decide ((s4.1.size : Int) < N4)) 3 A4.out.cu (by first | rfl | (rw [Bool.eq_iff_iff]; simp <;> omega))).mono ?_
      rintro r w5 ⟨hr, h5, t5⟩
      have hle := say_le (decide ((s4.1.size : Int) < N4)) 3 s4
      obtain ⟨s5, hv5⟩ : ∃ sz, sayM (decide ((s4.1.size : Int) < N4)) 3 s4 = sz := ⟨_, rfl⟩
      have HM5 := hid (show P = LG 11 up11 (N - (k + 1)) (mm, cc) (datC v3 N4 s5) from HM4.out.trans (by unfold datB; rw [hv5]))
      rw [hv5] at h5 hle
      subst hr
      have A5 := hid (A4.out.read t5 h5)
      have S5 := hid (S4.out.le hle)
      have HQ := hid (fun hz : s5.2 = 0 => show N4 ≤ s5.1.size from by
        rw [← hv5] at hz ⊢
        exact Classical.byContradiction fun hc => by
          rw [say_fst] at hc
          by_cases hb8 : s4.2 = 0
          · rw [show decide ((s4.1.size : Int) < N4) = true from decide_eq_true (by omega), say_yes hb8] at hz
            exact absurd hz (by show (3 : Int) ≠ 0; decide)
          · rw [say_on hb8] at hz
            exact hb8 hz)
      clear h5 t5 hle hv5
      have b2 := A5.out.cu.cell (i := 2) rfl
      by_cases hz5 : s5.2 = 0
      · skip
        have hz2 : (s5.2 == 0) = true := by simpa using hz5
        have hq5 := HQ.out hz5
        obtain ⟨t5, b5⟩ := s5
        simp only at hz5 hq5
        subst hz5
        have HM5 := hid (show P = LG 11 up11 (N - (k + 1)) (mm, cc) ((v3, t5.extract 0 N4), (t5.extract N4 t5.size, 0)) from HM5.out.trans (by unfold datC; rw [if_pos rfl, Int.toNat_natCast]))
        have b0 := A5.out.cu.cell (i := 0) rfl
        have hs5 := S5.out
        unfold okSc at hs5
        simp only at hs5
        have hv2 : (N4 : Int) ≤ (t5.size : Int) := by omega
        have hv0 : (0 : Int) ≤ (N4 : Int) := by omega
        have hx : ¬ (9223372036854775807 < t5.size) := by omega
        have x1 := A5.out.x.cell (i := 1) rfl
        have xf := A5.out.x.free
        have A6 := hid (A5.out.set 1 (.string (t5.extract 0 N4)))
        have c0 := A6.out.cu.cell (i := 0) rfl
        have cf := A6.out.cu.free
        have A7 := hid (A6.out.read (s' := (t5.extract N4 t5.size, 0)) (Touch.setCell (F := fun k => k = B) (a := ⟨B, 0, none⟩) rfl (.string (t5.extract N4 t5.size))) (A6.out.cu.set 0 (.string (t5.extract N4 t5.size))))
        have S7 := hid (show okSc (t5.extract N4 t5.size, 0) from S5.out.le (by simp only [ByteArray.size_extract]; omega))
        have HX7 := hid (show ∀ wx, EDa wx H [.int .i64 v3, .string (t5.extract 0 N4)] (v3, t5.extract 0 N4) from fun _ => rfl)
        clear HQ
        go_wp2_with fail
        clear b0 b2 x1 xf c0 cf hz2 hs5 hv2 hv0 hx
        have A7 := hid A7.out.drew
        go_wp2_with fail
        refine wp_region_tail (S := (fun w' => w'.cell? ⟨M, 10, none⟩ = some (.slice ao n0 cap) ∧ w'.cell? ⟨X, 0, none⟩ = some (.int .i64 v3) ∧ w'.cell? ⟨X, 1, none⟩ = some (.string (t5.extract 0 N4)))) 10 (by kernel_rfl) (by kernel_rfl) ?_ (fun hHeld => ?_)
        · exact ⟨A7.out.ms.mo.blk.cell (i := 10) rfl, A7.out.x.cell (i := 0) rfl, A7.out.x.cell (i := 1) rfl⟩
        repeat ((first | refine tk 0 ?_ rfl ?_ ?_ | refine tk 1 ?_ rfl ?_ ?_ | refine tk 2 ?_ rfl ?_ ?_ | refine tk 3 ?_ rfl ?_ ?_ | refine tk 4 ?_ rfl ?_ ?_ | refine tk 5 ?_ rfl ?_ ?_ | refine tk 8 ?_ rfl ?_ ?_ | refine tk 9 ?_ rfl ?_ ?_); rotate_left; (intro wy hSw; (try dsimp only at hSw); (go_simp <;> with_reducible rfl)); (try simp only [List.getElem_toArray, List.getElem_cons_zero, List.getElem_cons_succ, Act.put, List.setIfInBounds_toArray, List.set_cons_zero, List.set_cons_succ]))
        generalize World.drew ((w5.setCell ⟨X, 1, none⟩ (.string (t5.extract 0 N4))).setCell ⟨B, 0, none⟩ (.string (t5.extract N4 t5.size))) = wz at *
        refine wpT_one (k := 6) rfl (by kernel_rfl) (fun K hK => ?_)
        go_simp
        refine hK.out _ _ ?_ (fun hHeld => ?_)
        · exact ⟨cell_alloc _ (A7.out.ms.mo.blk.cell (i := 10) rfl), cell_alloc _ (A7.out.x.cell (i := 0) rfl), cell_alloc _ (A7.out.x.cell (i := 1) rfl)⟩
        clear hK K
        (try simp only [Act.put, List.setIfInBounds_toArray, List.set_cons_zero, List.set_cons_succ])
        obtain ⟨css, HC, hrow⟩ := A7.out.ms.mo.d
        have HBN2 := HBN.out
        have HN02 := HN0.out
        rw [HN02] at hrow HBN2
        refine wpT_one (k := 7) rfl (by kernel_rfl) (fun K hK => ?_)
        refine step_one1 elem_datav (cs := [.int .i64 v3, .string (t5.extract 0 N4)]) (by rfl) _ _ (by rfl) (by rfl) (by rfl) rfl hrow rfl (by intro c hc; simp at hc; rcases hc with rfl | rfl <;> rfl) (by omega) (by omega) A7.out.ms.size ?_
        intro v' w6 ho6 hb6 hg6
        obtain ⟨az, cz, rfl, _⟩ := own_sl ho6
        have C4 := hid (A7.out.ms.pushD HN02 HC hrow (HX7.out _) hg6.1 ho6)
        have y0 := C4.out.1.1
        have yf := C4.out.1.2
        have hxk := A7.out.xkeep HRL.out hg6.1
        refine hK.out _ _ ?_ (fun hHeld => ?_)
        · exact ⟨y0, hxk.cell (i := 0) rfl, hxk.cell (i := 1) rfl⟩
        clear hK K
        (try simp only [Act.put, List.setIfInBounds_toArray, List.set_cons_zero, List.set_cons_succ])
        repeat ((first | refine tk 8 ?_ rfl ?_ ?_ | refine tk 9 ?_ rfl ?_ ?_); rotate_left; (intro wy hSw; (try dsimp only at hSw); (go_simp <;> with_reducible rfl)); (try simp only [List.getElem_toArray, List.getElem_cons_zero, List.getElem_cons_succ, Act.put, List.setIfInBounds_toArray, List.set_cons_zero, List.set_cons_succ]))
        refine wpT_done (by kernel_rfl) ?_
        go_wp2_with fail
        go_roundw
        case rel => exact ⟨k + 1, _, _, _, _, _, _, _, _, _, _, (t5.extract N4 t5.size, 0), hlt, by go_num, hid (by have := HBN.out; simp; omega), S7, hid HM5.out, hid C4.out.2⟩
        case measure => simp [RowKit.intOf]; omega
      · skip
        have hz2 : (s5.2 == 0) = false := by simpa using hz5
        have HM5 := hid (show P = LG 11 up11 (N - (k + 1)) (mm, cc) ((v3, ⟨#[]⟩), s5) from HM5.out.trans (by unfold datC; rw [if_neg hz5]))
        have HX5 := hid (show ∀ wx, EDa wx H [.int .i64 v3, .string ⟨#[]⟩] (v3, ⟨#[]⟩) from fun _ => rfl)
        clear HQ hz5
        go_wp2_with fail
        clear b2 hz2
        have A5 := hid A5.out.drew
        go_wp2_with fail
        refine wp_region_tail (S := (fun w' => w'.cell? ⟨M, 10, none⟩ = some (.slice ao n0 cap) ∧ w'.cell? ⟨X, 0, none⟩ = some (.int .i64 v3) ∧ w'.cell? ⟨X, 1, none⟩ = some (.string ⟨#[]⟩))) 10 (by kernel_rfl) (by kernel_rfl) ?_ (fun hHeld => ?_)
        · exact ⟨A5.out.ms.mo.blk.cell (i := 10) rfl, A5.out.x.cell (i := 0) rfl, A5.out.x.cell (i := 1) rfl⟩
        repeat ((first | refine tk 0 ?_ rfl ?_ ?_ | refine tk 1 ?_ rfl ?_ ?_ | refine tk 2 ?_ rfl ?_ ?_ | refine tk 3 ?_ rfl ?_ ?_ | refine tk 4 ?_ rfl ?_ ?_ | refine tk 5 ?_ rfl ?_ ?_ | refine tk 8 ?_ rfl ?_ ?_ | refine tk 9 ?_ rfl ?_ ?_); rotate_left; (intro wy hSw; (try dsimp only at hSw); (go_simp <;> with_reducible rfl)); (try simp only [List.getElem_toArray, List.getElem_cons_zero, List.getElem_cons_succ, Act.put, List.setIfInBounds_toArray, List.set_cons_zero, List.set_cons_succ]))
        generalize World.drew (w5) = wz at *
        refine wpT_one (k := 6) rfl (by kernel_rfl) (fun K hK => ?_)
        go_simp
        refine hK.out _ _ ?_ (fun hHeld => ?_)
        · exact ⟨cell_alloc _ (A5.out.ms.mo.blk.cell (i := 10) rfl), cell_alloc _ (A5.out.x.cell (i := 0) rfl), cell_alloc _ (A5.out.x.cell (i := 1) rfl)⟩
        clear hK K
        (try simp only [Act.put, List.setIfInBounds_toArray, List.set_cons_zero, List.set_cons_succ])
        obtain ⟨css, HC, hrow⟩ := A5.out.ms.mo.d
        have HBN2 := HBN.out
        have HN02 := HN0.out
        rw [HN02] at hrow HBN2
        refine wpT_one (k := 7) rfl (by kernel_rfl) (fun K hK => ?_)
        refine step_one1 elem_datav (cs := [.int .i64 v3, .string ⟨#[]⟩]) (by rfl) _ _ (by rfl) (by rfl) (by rfl) rfl hrow rfl (by intro c hc; simp at hc; rcases hc with rfl | rfl <;> rfl) (by omega) (by omega) A5.out.ms.size ?_
        intro v' w6 ho6 hb6 hg6
        obtain ⟨az, cz, rfl, _⟩ := own_sl ho6
        have C4 := hid (A5.out.ms.pushD HN02 HC hrow (HX5.out _) hg6.1 ho6)
        have y0 := C4.out.1.1
        have yf := C4.out.1.2
        have hxk := A5.out.xkeep HRL.out hg6.1
        refine hK.out _ _ ?_ (fun hHeld => ?_)
        · exact ⟨y0, hxk.cell (i := 0) rfl, hxk.cell (i := 1) rfl⟩
        clear hK K
        (try simp only [Act.put, List.setIfInBounds_toArray, List.set_cons_zero, List.set_cons_succ])
        repeat ((first | refine tk 8 ?_ rfl ?_ ?_ | refine tk 9 ?_ rfl ?_ ?_); rotate_left; (intro wy hSw; (try dsimp only at hSw); (go_simp <;> with_reducible rfl)); (try simp only [List.getElem_toArray, List.getElem_cons_zero, List.getElem_cons_succ, Act.put, List.setIfInBounds_toArray, List.set_cons_zero, List.set_cons_succ]))
        refine wpT_done (by kernel_rfl) ?_
        go_wp2_with fail
        go_roundw
        case rel => exact ⟨k + 1, _, _, _, _, _, _, _, _, _, _, s5, hlt, by go_num, hid (by have := HBN.out; simp; omega), S5, hid HM5.out, hid C4.out.2⟩
        case measure => simp [RowKit.intOf]; omega
    have HM3 := hid (show P = ((mm, cc), s2) from HM2.out.trans (by rw [show N - k = 0 by omega]; rfl))
    go_wp2_with fail
    first | go_end0 | refine bodyPost_ret (results_none rfl _ _ _) rfl ?_
    exact ⟨rfl, vt, vi, vf, vg, vx, ve, vd, kv, by rw [HM3.out]; exact A2.out⟩
end Go.Proofs.YtakfineljffoaaaGreatDoor
