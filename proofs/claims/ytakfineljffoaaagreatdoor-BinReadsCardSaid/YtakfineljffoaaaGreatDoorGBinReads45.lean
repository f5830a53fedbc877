/-
  MODULES READ, the program's Read. Conditions: a text in the form's reach; unicode/utf8's two tables hold what the row lists. Printed by a program of mine.
-/
import Derived.Test.YtakfineljffoaaaGreatDoorGBinReads44
import Derived.Lib.SlBytesConst
namespace Go.Proofs.YtakfineljffoaaaGreatDoor
open Go.RowKit Go.Lib

theorem conv_mgc (w : World) (C : Array Value) (n c : Nat) : (convert 47 47 (.slice (some ⟨w.heap.size, 0, none⟩) n c)).run Tryz.prog (w.alloc (.cells C 5)) = .ok (.slice (some ⟨w.heap.size, 0, none⟩) n c) (w.alloc (.cells C 5 (C.size, C.size + 1))) := Lib.run_convert_bytes_const w _ _ C n c Tryz.underlying47 Tryz.underlying5
theorem conv_here (w : World) (t : ByteArray) : (convert 47 47 (.slice (some ⟨w.heap.size + 1 + 1 + 1, 0, none⟩) 8 8)).run Tryz.prog ((((w.alloc (.cells #[.slice none 0 0, .slice none 0 0, .slice none 0 0, .int .i64 0, .int .i64 0, .int .i64 0, .slice none 0 0, .slice none 0 0, .int .i64 0, .slice none 0 0, .slice none 0 0] 30)).alloc (.cells #[.int .i64 0] 31)).alloc (.cells #[.string t, .int .i64 0] 46)).alloc (.cells #[.int .u8 0, .int .u8 97, .int .u8 115, .int .u8 109, .int .u8 1, .int .u8 0, .int .u8 0, .int .u8 0] 5)) = .ok (.slice (some ⟨w.heap.size + 1 + 1 + 1, 0, none⟩) 8 8) ((((w.alloc (.cells #[.slice none 0 0, .slice none 0 0, .slice none 0 0, .int .i64 0, .int .i64 0, .int .i64 0, .slice none 0 0, .slice none 0 0, .int .i64 0, .slice none 0 0, .slice none 0 0] 30)).alloc (.cells #[.int .i64 0] 31)).alloc (.cells #[.string t, .int .i64 0] 46)).alloc (.cells #[.int .u8 0, .int .u8 97, .int .u8 115, .int .u8 109, .int .u8 1, .int .u8 0, .int .u8 0, .int .u8 0] 5 (8, 9))) := by
  have h := conv_mgc (((w.alloc (.cells #[.slice none 0 0, .slice none 0 0, .slice none 0 0, .int .i64 0, .int .i64 0, .int .i64 0, .slice none 0 0, .slice none 0 0, .int .i64 0, .slice none 0 0, .slice none 0 0] 30)).alloc (.cells #[.int .i64 0] 31)).alloc (.cells #[.string t, .int .i64 0] 46)) #[.int .u8 0, .int .u8 97, .int .u8 115, .int .u8 109, .int .u8 1, .int .u8 0, .int .u8 0, .int .u8 0] 8 8
  have e : (((w.alloc (.cells #[.slice none 0 0, .slice none 0 0, .slice none 0 0, .int .i64 0, .int .i64 0, .int .i64 0, .slice none 0 0, .slice none 0 0, .int .i64 0, .slice none 0 0, .slice none 0 0] 30)).alloc (.cells #[.int .i64 0] 31)).alloc (.cells #[.string t, .int .i64 0] 46)).heap.size = w.heap.size + 1 + 1 + 1 := by simp
  rw [e] at h
  exact h
abbrev nS : Value := .slice none 0 0
def mgV : List Value := mgL.map (fun b => Value.int .u8 b)
/-- the first eight bytes, in a block that nobody writes -/
def FzB (w : World) (Y : Nat) : Prop := w.heap[Y]? = some (.cells mgV.toArray 5 (8, 9))
theorem FzB.cell {w : World} {Y k : Nat} {v : Value} (h : FzB w Y) (hv : mgV[k]? = some v) : w.cell? ⟨Y, k, none⟩ = some v := by
  unfold FzB at h
  simp [World.cell?, h, hv]
theorem FzB.new (W : World) (Y : Nat) (hY : Y = W.heap.size) : FzB (W.alloc (.cells #[.int .u8 0, .int .u8 97, .int .u8 115, .int .u8 109, .int .u8 1, .int .u8 0, .int .u8 0, .int .u8 0] 5 (8, 9))) Y := by
  subst hY
  show (W.heap.push _)[W.heap.size]? = _
  rw [Array.getElem?_push_size]
  rfl
theorem FzB.touch {F : Nat → Prop} {w w' : World} {Y : Nat} (h : FzB w Y) (ht : Touch F w w') (hF : ¬ F Y) : FzB w' Y := by
  unfold FzB at h ⊢
  rw [ht.block Y (lt_of_block h) hF]
  exact h
theorem rt_init (w : World) (t : ByteArray) : RT w ((((w.alloc (.cells #[.slice none 0 0, .slice none 0 0, .slice none 0 0, .int .i64 0, .int .i64 0, .int .i64 0, .slice none 0 0, .slice none 0 0, .int .i64 0, .slice none 0 0, .slice none 0 0] 30)).alloc (.cells #[.int .i64 0] 31)).alloc (.cells #[.string t, .int .i64 0] 46)).alloc (.cells #[.int .u8 0, .int .u8 97, .int .u8 115, .int .u8 109, .int .u8 1, .int .u8 0, .int .u8 0, .int .u8 0] 5 (8, 9))) (w.heap.size + 1 + 1 + 1) w.heap.size (w.heap.size + 1) (w.heap.size + 1 + 1) t 0 nS nS nS nS nS nS nS Mdl.zero ∧
    FzB ((((w.alloc (.cells #[.slice none 0 0, .slice none 0 0, .slice none 0 0, .int .i64 0, .int .i64 0, .int .i64 0, .slice none 0 0, .slice none 0 0, .int .i64 0, .slice none 0 0, .slice none 0 0] 30)).alloc (.cells #[.int .i64 0] 31)).alloc (.cells #[.string t, .int .i64 0] 46)).alloc (.cells #[.int .u8 0, .int .u8 97, .int .u8 115, .int .u8 109, .int .u8 1, .int .u8 0, .int .u8 0, .int .u8 0] 5 (8, 9))) (w.heap.size + 1 + 1 + 1) := by
  refine ⟨⟨(Blk.new _ _ _ _ (by simp)).alloc _, ⟨(((Blk.new w _ _ _ rfl).alloc _).alloc _).alloc _, OwR.nil _ _ _ _ _, OwR.nil _ _ _ _ _, OwR.nil _ _ _ _ _, OwR.nil _ _ _ _ _, OwR.nil _ _ _ _ _, OwR.nil _ _ _ _ _, OwR.nil _ _ _ _ _⟩, ((Blk.new _ _ _ _ (by simp)).alloc _).alloc _, ?_, by omega, by omega, by omega, by omega, by omega, by omega, by omega, by omega, by omega, by simp⟩, FzB.new _ _ (by simp)⟩
  exact ((((Below.refl _ _).alloc (Nat.le_refl _) _).alloc (by simp) _).alloc (by simp; omega) _).alloc (by simp; omega) _
set_option maxRecDepth 100000 in
set_option maxHeartbeats 8000000 in
theorem bread_any (w : World) (t : ByteArray) (hs : t.size ≤ 140737488351232) (hT : UTabs w) :
    Calls Tryz.prog 5 #[.string t] w (PRd (readMd t) w) := by
  have hmf : ∀ (fn : Go.Fn) (first cap : Array Value) (w : World), (Instr.makeFunc fn first cap).run Tryz.prog w = .ok (.func fn first cap) w := fun _ _ _ _ => rfl
  by_cases hbig : 4096 < t.size
  · have hP := hid (show readMd t = (Mdl.zero, 2) from if_pos hbig)
    have hb2 : (4096 : Int) < (t.size : Int) := by omega
    unfold PRd
    rw [hP.out]
    clear hT
    go_enter_defers Tryz.func5, Tryz.ntmps5
    go_wp2_with fail
    have HM := (Blk.new w #[.slice none 0 0, .slice none 0 0, .slice none 0 0, .int .i64 0, .int .i64 0, .int .i64 0, .slice none 0 0, .slice none 0 0, .int .i64 0, .slice none 0 0, .slice none 0 0] 30 _ rfl).alloc (.cells #[.int .i64 2] 31)
    have HE := Blk.new (w.alloc (.cells #[.slice none 0 0, .slice none 0 0, .slice none 0 0, .int .i64 0, .int .i64 0, .int .i64 0, .slice none 0 0, .slice none 0 0, .int .i64 0, .slice none 0 0, .slice none 0 0] 30)) #[.int .i64 2] 31 (w.heap.size + 1) (by simp)
    exact ⟨_, read_results _ _ _ _ _ _ _ _ _ _ _ _ _ _ 2 _ rfl rfl HM HE, ((Below.refl _ _).alloc (Nat.le_refl _) _).alloc (by simp) _, w.heap.size, _, _, _, _, _, _, _, Nat.le_refl _, rfl, MV.zero _ _⟩
  · have HP := hid (show readMd t = allA (mgcL (mgL.drop 0) (left t 0, 0)) from (if_neg hbig).trans (by rw [left_nought]; rfl))
    have hb2 : ¬ (4096 : Int) < (t.size : Int) := by omega
    have hst : t.size ≤ 4096 := by omega
    have hs9 : t.size ≤ 1000000000 := by omega
    have hcv := conv_here w t
    obtain ⟨P, hP⟩ : ∃ P, readMd t = P := ⟨_, rfl⟩
    rw [hP] at HP ⊢
    clear hP
    have HT := hid hT
    clear hT hbig hs
    go_enter_defers Tryz.func5, Tryz.ntmps5
    go_wp2_with fail
    have RI := hid (rt_init w t)
    go_loopw [22] (fun i wr => ∃ (k aa : Nat), k ≤ 8 ∧ i = .int .i64 k ∧ aa ≤ t.size ∧ Hid (P = allA (mgcL (mgL.drop k) (left t aa, 0))) ∧ Hid (RT w wr (w.heap.size + 1 + 1 + 1) w.heap.size (w.heap.size + 1) (w.heap.size + 1 + 1) t aa nS nS nS nS nS nS nS Mdl.zero) ∧ Hid (FzB wr (w.heap.size + 1 + 1 + 1))) (fun i _ => 8 - (RowKit.intOf i).toNat)
    case atStart => exact ⟨0, 0, Nat.zero_le _, rfl, Nat.zero_le _, HP, hid RI.out.1, hid RI.out.2⟩
    case round =>
      clear RI
      obtain ⟨k, aa, hk, rfl, haa, HP1, A1, Y1⟩ := hrel
      by_cases hlt : k < 8
      · obtain ⟨b, hb⟩ : ∃ b, mgL[k]'hlt = b := ⟨_, rfl⟩
        have HP2 := hid (show P = allA (mgcL (mgL.drop (k + 1)) (mustM b 4 (left t aa, 0))) from HP1.out.trans (by rw [mgcL_go hlt, hb]))
        have yk := Y1.out.cell (k := k) (v := .int .u8 b) (by unfold mgV; rw [List.getElem?_map, List.getElem?_eq_getElem hlt, hb]; rfl)
        have A2 := A1
        have HE := hid (fun s (e : mustM b 4 (left t aa, 0) = s) (h : s.2 ≠ 0) => show P = (Mdl.zero, s.2) from HP2.out.trans (by rw [e, mgcL_st _ h, allA_st h]))
        have HG := hid (fun a' (e : mustM b 4 (left t aa, 0) = (left t a', 0)) => show P = allA (mgcL (mgL.drop (k + 1)) (left t a', 0)) from HP2.out.trans (by rw [e]))
        clear hb
        go_wp2_with fail
        refine (bfixed_any _ _ t aa b 4 (by decide) A1.out.rd haa hs9).mono ?_
        rintro r w1 ⟨ht, hor⟩
        have HB1 := hid (A1.out.bad ht)
        have HA1 := hid (fun a' hh => A1.out.read (a' := a') ht hh)
        have Y2 := hid (Y1.out.touch ht (by omega))
        clear ht
        rcases hor with ⟨hz, rfl, a2, ha2, hl, hb2⟩ | ⟨hnz, rfl⟩
        case inr =>
          have HX := hid (HE.out _ rfl hnz)
          clear hnz
          go_wp2_with fail
          rw [HX.out]
          exact leave_bad rfl rfl HB1.out
        have HX := hid (HG.out a2 (Prod.ext hl hz))
        have A2 := hid (HA1.out a2 hb2)
        clear hz hl hb2 HB1 HA1 HE HG yk
        go_wp2_with fail
        go_roundw
        case rel => exact ⟨k + 1, a2, hlt, by go_num, ha2, HX, A2, Y2⟩
        case measure => simp [RowKit.intOf]; omega
      have HP2 := hid (show P = allA (left t aa, 0) from HP1.out.trans (by rw [show k = 8 by omega]; rfl))
      clear HP1 HP Y1 hk
      go_wp2_with fail
      clear hlt
      go_loopw [7, 8] (fun c i wr => ∃ (f last : Nat) (vt vi vf vg vx ve vd : Value) (m : Mdl) (cs : List Cd) (aa : Nat), c = .int .i64 (cs.length : Int) ∧ i = .int .u8 (last : Int) ∧ last ≤ 11 ∧ 12 ≤ f + last ∧ aa ≤ t.size ∧ cs.length ≤ 16 * last ∧ Hid (Small m (16 * last)) ∧ Hid (last < 10 → cs = []) ∧ Hid (P = allB (TG f last ((m, cs), (left t aa, 0)))) ∧ Hid (RT w wr (w.heap.size + 1 + 1 + 1) w.heap.size (w.heap.size + 1) (w.heap.size + 1 + 1) t aa vt vi vf vg vx ve vd { m with funcs := updF m.funcs cs })) (fun _ i _ => 11 - (RowKit.intOf i).toNat)
      case atStart => exact ⟨12, 0, nS, nS, nS, nS, nS, nS, nS, Mdl.zero, [], aa, rfl, rfl, by omega, by omega, haa, Nat.zero_le _, hid ⟨Nat.zero_le _, Nat.zero_le _, Nat.zero_le _, Nat.zero_le _, Nat.zero_le _, Nat.zero_le _, Nat.zero_le _⟩, hid (fun _ => rfl), HP2, A1⟩
      case round =>
        clear A1 HP2
        obtain ⟨f, last, vt, vi, vf, vg, vx, ve, vd, m, cs, a1, rfl, rfl, hlast, hf, ha1, hcl, HSM, HCS, HP3, A3⟩ := hrel
        have y1 := A3.out.rd.cell (i := 1) rfl
        by_cases hlt : a1 < t.size
        · obtain ⟨f, rfl⟩ : ∃ f', f = f' + 1 := ⟨f - 1, by omega⟩
          have hls := left_size t a1
          have HP4 := hid (show P = allB (topA f last (m, cs) (octM (left t a1, 0)).1 (octM (left t a1, 0)).2) from HP3.out.trans (by unfold TG; rw [top_go (by simp only [hls]; omega)]))
          clear hls
          go_wp2_with fail
          refine (boctet_any _ _ t a1 A3.out.rd ha1 hs9).mono ?_
          rintro r w4 ⟨ht, hor⟩
          have HB4 := hid (A3.out.bad ht)
          have HA4 := hid (fun a' hh => A3.out.read (a' := a') ht hh)
          clear ht
          obtain ⟨v, s, hv⟩ : ∃ v s, octM (left t a1, 0) = (v, s) := ⟨_, _, rfl⟩
          have HP5 := hid (show P = allB (topA f last (m, cs) v s) from HP4.out.trans (by rw [hv]))
          rw [hv] at hor
          clear hv
          rcases hor with ⟨hz, rfl, a2, ha2, hl, hb2⟩ | ⟨hnz, rfl⟩
          case inr =>
            have HX := hid (show P = (Mdl.zero, s.2) from HP5.out.trans (by rw [topA_st hnz, allB_st hnz]))
            clear hnz
            go_wp2_with fail
            rw [HX.out]
            exact leave_bad rfl rfl HB4.out
          have hs2 : s = (left t a2, 0) := Prod.ext hl hz
          subst hs2
          have A4 := hid (HA4.out a2 hb2)
          clear hz hl hb2 HB4 HA4 y1
          by_cases hv1 : v < 1
          · have hvi : (v : Int) < 1 := by omega
            have HX := hid (show P = (Mdl.zero, 6) from HP5.out.trans (by unfold topA; rw [show decide (v = 0 ∨ 11 < v) = true from decide_eq_true (by omega), say_yes rfl, say_on (by show (6 : Int) ≠ 0; decide), topB_st (by show (6 : Int) ≠ 0; decide), allB_st (by show (6 : Int) ≠ 0; decide)]))
            go_wp2_with fail
            refine (throw_yes _ _ _).mono ?_
            rintro r wt ⟨rfl, hwt⟩
            have hwt := hwt.symm
            subst hwt
            go_wp2_with fail
            rw [HX.out]
            exact leave_bad rfl rfl A4.out.rb
          have hvi : ¬ (v : Int) < 1 := by omega
          go_wp2_with fail
          refine (throw_any _ _ _ _).mono ?_
          rintro r wt (⟨hq, rfl, hwt⟩ | ⟨hq, rfl, hwt⟩)
          case inl =>
            have hwt := hwt.symm
            subst hwt
            have hv11 : 11 < v := by simp at hq; omega
            have HX := hid (show P = (Mdl.zero, 6) from HP5.out.trans (by unfold topA; rw [show decide (v = 0 ∨ 11 < v) = true from decide_eq_true (by omega), say_yes rfl, say_on (by show (6 : Int) ≠ 0; decide), topB_st (by show (6 : Int) ≠ 0; decide), allB_st (by show (6 : Int) ≠ 0; decide)]))
            clear hq
            go_wp2_with fail
            rw [HX.out]
            exact leave_bad rfl rfl A4.out.rb
          have hwt := hwt.symm
          subst hwt
          have hv11 : v ≤ 11 := by simp at hq; omega
          have HP6 := hid (show P = allB (topB f v (m, cs) (sayM (decide (v ≤ last)) 4 (left t a2, 0))) from HP5.out.trans (by unfold topA; rw [show decide (v = 0 ∨ 11 < v) = false from decide_eq_false (by omega), say_no]))
          clear hq
          go_wp2_with fail
          refine (throw_any _ _ _ _).mono ?_
          rintro r wt (⟨hq, rfl, hwt⟩ | ⟨hq, rfl, hwt⟩)
          case inl =>
            have hwt := hwt.symm
            subst hwt
            have HX := hid (show P = (Mdl.zero, 4) from HP6.out.trans (by rw [show decide (v ≤ last) = true from decide_eq_true (by have := of_decide_eq_true hq; omega), say_yes rfl, topB_st (by show (4 : Int) ≠ 0; decide), allB_st (by show (4 : Int) ≠ 0; decide)]))
            clear hq
            go_wp2_with fail
            rw [HX.out]
            exact leave_bad rfl rfl A4.out.rb
          have hwt := hwt.symm
          subst hwt
          have hlv : last < v := by have := of_decide_eq_false hq; omega
          have HP7 := hid (show P = allB (topB f v (m, cs) (left t a2, 0)) from HP6.out.trans (by rw [show decide (v ≤ last) = false from decide_eq_false (by omega), say_no]))
          clear hq hvi
          go_wp2_with fail
          have hps := pie_size (left t a2, 0)
          refine (bpiece_any _ _ t a2 A4.out.rd ha2 hs9).mono ?_
          rintro r w5 ⟨ht, hor⟩
          have HB5 := hid (A4.out.bad ht)
          have HA5 := hid (fun a' hh => A4.out.read (a' := a') ht hh)
          clear ht
          obtain ⟨p, s5, hv5⟩ : ∃ p s, pieM (left t a2, 0) = (p, s) := ⟨_, _, rfl⟩
          have HG := hid (fun hz : s5.2 = 0 => show P = allB (TG f v (WB (numM (left t a2, 0)).2.1 s5 (secM v (m, cs) (p, 0)))) from HP7.out.trans (by unfold topB withM; rw [hv5, if_neg (by simpa using hz)]; rfl))
          have HE := hid (fun hz : s5.2 ≠ 0 => show P = (Mdl.zero, s5.2) from HP7.out.trans (by unfold topB withM; rw [hv5, if_pos hz, top_stop (.inl hz), allB_st hz]))
          rw [hv5] at hor hps
          clear hv5
          rcases hor with ⟨hz, R, a3, hR, rfl, ha3, hl3, hb3, hr3⟩ | ⟨hnz, rfl⟩
          case inr =>
            have HX := hid (HE.out hnz)
            clear hnz
            go_wp2_with fail
            rw [HX.out]
            exact leave_bad rfl rfl HB5.out
          have hs3 : s5 = (left t a3, 0) := Prod.ext hl3 hz
          subst hs3
          obtain ⟨z, HP8⟩ : ∃ z, Hid (P = allB (TG f v (WB z (left t a3, 0) (secM v (m, cs) (left p 0, 0))))) := ⟨_, hid ((HG.out rfl).trans (by rw [left_nought]))⟩
          have A5 := hid (HA5.out a3 hb3)
          have HR := hid hr3
          have hp9 : p.size ≤ 1000000000 := by have := left_size t a2; simp only at hps; omega
          have hRH : w.heap.size + 1 + 1 + 1 ≤ R := by have := A4.out.hH; omega
          have HRH := hid hRH
          clear hz hl3 hb3 hr3 HA5 HB5 HG HE hps hR hRH
          go_wp2_with fail
          refine (bsection_any w w5 HT.out A5.out.bl (w.heap.size + 1 + 1 + 1) w.heap.size R (Nat.le_refl _) p 0 vt vi vf vg vx ve vd m cs (A5.out.ms HR.out HRH.out) (Nat.zero_le _) hp9 (HSM.out.mono (by omega)) v (by omega) hv11 (fun _ => HCS.out (by omega))).mono ?_
          rintro r w6 ⟨ht6, hor6⟩
          have hsm6 : Small (secM v (m, cs) (left p 0, 0)).1.1 (16 * v) := (sec_small HSM.out).mono (by omega)
          have hcl6 := sec_cl (id := v) (m, cs) (left p 0, 0)
          have hcs6 : v < 10 → (secM v (m, cs) (left p 0, 0)).1.2 = [] := fun h => by rw [sec_cs (by omega)]; exact HCS.out (by omega)
          obtain ⟨⟨mm, cc⟩, s6, hv6⟩ : ∃ x s, secM v (m, cs) (left p 0, 0) = (x, s) := ⟨_, _, rfl⟩
          have HP9 := hid (show P = allB (TG f v (WB z (left t a3, 0) ((mm, cc), s6))) from HP8.out.trans (by rw [hv6]))
          rw [hv6] at hor6 hsm6 hcl6 hcs6
          simp only at hor6 hsm6 hcl6 hcs6
          have HSM6 := hid hsm6
          have HCS6 := hid hcs6
          have HT6 := hid ht6
          clear hv6 hsm6 hcs6 ht6 HP8 HP7 HP6
          rcases hor6 with ⟨hz, rfl, vt', vi', vf', vg', vx', ve', vd', a6, ha6, hl6, hmo, hr6⟩ | ⟨hnz, rfl, hm⟩
          case inr =>
            have HX := hid (show P = (Mdl.zero, s6.2) from HP9.out.trans (by
              have e : (WB z (left t a3, 0) ((mm, cc), s6)).2 = (z, s6.2) := by unfold WB; rw [dne_st hnz, if_pos hnz]
              rw [TG_st (by rw [e]; exact hnz), e]))
            have HM6 := hid hm
            clear hnz hm
            go_wp2_with fail
            rw [HX.out]
            exact leave_bad rfl rfl (A5.out.sec_bad HT6.out HM6.out)
          have hs6 : s6 = (left p a6, 0) := Prod.ext hl6 hz
          subst hs6
          have A6 := hid (A5.out.sec HT6.out hmo)
          have HR6 := hid hr6
          have ew : wrap64 ((cs.length : Int) + ((cc.length : Int) - (cs.length : Int))) = (cc.length : Int) := by unfold wrap64; omega
          clear hz hl6 hmo hr6
          go_wp2_with fail
          clear ew
          refine (bdone_any _ R p a6 HR6.out ha6 hp9).mono ?_
          rintro r w7 ⟨ht7, hor7⟩
          have A7 := hid (A6.out.inner HR6.out HRH.out ht7)
          clear ht7
          obtain ⟨s7, hv7⟩ : ∃ s, dneM (left p a6, 0) = s := ⟨_, rfl⟩
          have HP10 := hid (show P = allB (TG f v ((mm, cc), if s7.2 ≠ 0 then (z, s7.2) else (left t a3, 0))) from HP9.out.trans (by unfold WB; simp only; rw [hv7]))
          rw [hv7] at hor7
          clear hv7
          rcases hor7 with ⟨hz, rfl, a7, ha7, hl7, hb7⟩ | ⟨hnz, rfl⟩
          case inr =>
            have HX := hid (show P = (Mdl.zero, s7.2) from HP10.out.trans (by rw [if_pos hnz, TG_st hnz]))
            clear hnz
            go_wp2_with fail
            rw [HX.out]
            exact leave_bad rfl rfl A7.out.rb
          have HP11 := hid (show P = allB (TG f v ((mm, cc), (left t a3, 0))) from HP10.out.trans (by rw [if_neg (by simpa using hz)]))
          clear hz hl7 hb7
          go_wp2_with fail
          go_roundw
          case rel => exact ⟨f, v, vt', vi', vf', vg', vx', ve', vd', mm, cc, a3, by congr 1; omega, rfl, hv11, by omega, ha3, by omega, HSM6, HCS6, HP11, A7⟩
          case measure => simp [RowKit.intOf]; omega
        have hls := left_size t a1
        have HP4 := hid (show P = finM (m, cs) (left t a1, 0) from HP3.out.trans (by unfold TG; rw [top_stop (.inr (by simp only [hls]; omega))]; rfl))
        obtain ⟨csst, -, hrowt⟩ := A3.out.mo.t
        obtain ⟨ot, cpt, rfl, -⟩ := own_sl hrowt
        clear hrowt
        obtain ⟨cssi, -, hrowi⟩ := A3.out.mo.i
        obtain ⟨oi, cpi, rfl, -⟩ := own_sl hrowi
        clear hrowi
        obtain ⟨cssg, -, hrowg⟩ := A3.out.mo.g
        obtain ⟨og, cpg, rfl, -⟩ := own_sl hrowg
        clear hrowg
        obtain ⟨cssx, -, hrowx⟩ := A3.out.mo.x
        obtain ⟨ox, cpx, rfl, -⟩ := own_sl hrowx
        clear hrowx
        obtain ⟨csse, -, hrowe⟩ := A3.out.mo.e
        obtain ⟨oe, cpe, rfl, -⟩ := own_sl hrowe
        clear hrowe
        obtain ⟨cssd, -, hrowd⟩ := A3.out.mo.d
        obtain ⟨od, cpd, rfl, -⟩ := own_sl hrowd
        clear hrowd
        obtain ⟨css0, -, hrow⟩ := A3.out.mo.f
        obtain ⟨ao, cap, rfl, _⟩ := own_sl hrow
        have hfl : (updF m.funcs cs).length = m.funcs.length := updF_len _ _
        have A3 := A3.out
        simp only [hfl] at A3 hrow
        have A3 := hid A3
        have m2 := A3.out.mo.blk.cell (i := 2) rfl
        clear hrow hls hfl
        go_wp2_with fail
        refine (throw_any _ _ _ _).mono ?_
        rintro r wt (⟨hq, rfl, hwt⟩ | ⟨hq, rfl, hwt⟩)
        case inl =>
          have hwt := hwt.symm
          subst hwt
          have HX := hid (show P = (Mdl.zero, 4) from HP4.out.trans (by
            have hne : cs.length ≠ m.funcs.length := by simp at hq; omega
            unfold finM
            simp only
            rw [show decide (cs.length ≠ m.funcs.length) = true from decide_eq_true hne, say_yes rfl]
            rfl))
          clear hq
          go_wp2_with fail
          rw [HX.out]
          exact leave_bad rfl rfl A3.out.rb
        have hwt := hwt.symm
        subst hwt
        have HX := hid (show P = ({ m with funcs := updF m.funcs cs }, 0) from HP4.out.trans (by
          have hne : ¬ cs.length ≠ m.funcs.length := by simp at hq; omega
          unfold finM
          simp only
          rw [show decide (cs.length ≠ m.funcs.length) = false from decide_eq_false hne, say_no]
          rfl))
        clear hq y1 m2
        have m0 := A3.out.mo.blk.cell (i := 0) rfl
        have m1 := A3.out.mo.blk.cell (i := 1) rfl
        have m2 := A3.out.mo.blk.cell (i := 2) rfl
        have m3 := A3.out.mo.blk.cell (i := 3) rfl
        have m4 := A3.out.mo.blk.cell (i := 4) rfl
        have m5 := A3.out.mo.blk.cell (i := 5) rfl
        have m6 := A3.out.mo.blk.cell (i := 6) rfl
        have m7 := A3.out.mo.blk.cell (i := 7) rfl
        have m8 := A3.out.mo.blk.cell (i := 8) rfl
        have m9 := A3.out.mo.blk.cell (i := 9) rfl
        have m10 := A3.out.mo.blk.cell (i := 10) rfl
        have mf := A3.out.mo.blk.free
        have e0 := A3.out.e.cell (i := 0) rfl
        have ef := A3.out.e.free
        have F := hid A3.out.fin
        go_wp2_with fail
        rw [HX.out]
        refine leave_ok (M := w.heap.size) (E := w.heap.size + 1) (H := w.heap.size + 1 + 1 + 1) (m := { m with funcs := updF m.funcs cs }) ?_ ?_ F.out.1 F.out.2.1 F.out.2.2.1 (by omega) F.out.2.2.2 <;> rfl
end Go.Proofs.YtakfineljffoaaaGreatDoor
