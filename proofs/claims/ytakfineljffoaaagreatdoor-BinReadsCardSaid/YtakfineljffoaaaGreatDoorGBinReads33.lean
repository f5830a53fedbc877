/-
  MODULES READ, the reference's cursor: name, global. Conditions: lengths in the form's reach; unicode/utf8's two tables hold what the row lists. Printed by a program of mine.
-/
import Derived.Test.YtakfineljffoaaaGreatDoorGBinReads23
import Derived.Test.YtakfineljffoaaaGreatDoorGBinReads26
import Derived.Test.YtakfineljffoaaaGreatDoorGBinReads31
namespace Go.Proofs.YtakfineljffoaaaGreatDoor
open Go.RowKit Go.Lib

theorem csay_as (w : World) (B : Nat) (all : Int) (s : ByteArray × Int) (is is' : Bool) (e : Int) (h : CuB w B all s) (he : is = is') :
    Calls Tryz.prog 21 #[.pointer (some ⟨B, 0, none⟩), .bool is, .int .i64 e] w fun r w' => r = .returned (.tuple #[]) ∧ CuB w' B all (sayM is' e s) ∧ ToC B w w' := by
  subst he
  exact csay_any w B all s is e h
theorem nmQ_bad (t : ByteArray) : (nmQ t).2.2 ≠ 0 → (nmQ t).1 = ⟨#[]⟩ ∧ (nmQ t).2.1 = 0 := by
  unfold nmQ
  generalize ru 32 t.data.toList 0 0 = q
  obtain ⟨a, k, e⟩ := q
  simp only
  split
  · exact fun _ => ⟨rfl, rfl⟩
  · split
    · exact fun _ => ⟨rfl, rfl⟩
    · split
      · exact fun _ => ⟨rfl, rfl⟩
      · split
        · exact fun h => absurd rfl h
        · exact fun _ => ⟨rfl, rfl⟩
set_option maxRecDepth 100000 in
set_option maxHeartbeats 4000000 in
theorem cname_any (w : World) (B : Nat) (all : Int) (s : SB) (h : CuB w B all s) (hs : okSc s) :
    Calls Tryz.prog 58 #[.pointer (some ⟨B, 0, none⟩)] w fun r w' => r = .returned (.string (namM s).1) ∧ CuB w' B all (namM s).2 ∧ ToC B w w' := by
  obtain ⟨rest, bad⟩ := s
  obtain ⟨qa, qk, qe, hq⟩ : ∃ x y z, ru 32 rest.data.toList 0 0 = (x, y, z) := ⟨_, _, _, rfl⟩
  have hmx := okSc_max hs
  have HP := hid (fun wx => rreadname rest hmx qa qk qe hq _ _ _ (nmQ_rn rest qa qk qe hq) wx)
  have hle := nmQ_le rest
  have hnb := nmQ_bad rest
  obtain ⟨P, hP⟩ : ∃ P, namM (rest, bad) = P := ⟨_, rfl⟩
  rw [hP]
  unfold namM at hP
  simp only at hP
  generalize nmQ rest = q at *
  obtain ⟨X, k, e⟩ := q
  simp only at HP hle hnb hP
  have HM := hid hP.symm
  have b0 := h.cell (i := 0) rfl
  have C0 := hid h
  have S0 := hid hs
  clear h hs hq hmx hP
  have HS := hid (fun wx (hc : CuB wx B all (rest, bad)) => cskip_any wx B all (rest, bad) k e hc (fun _ _ => hle) S0.out)
  go_enter Tryz.func58, Tryz.ntmps58
  go_wp2_with fail
  refine (HP.out _).mono ?_
  rintro r w1 ⟨rfl, hb1⟩
  have C1 := hid (C0.out.below hb1)
  have T1 := hid (Touch.of_below (F := fun k => k = B) hb1)
  clear hb1 b0
  go_wp2_with fail
  refine (HS.out _ C1.out).mono ?_
  rintro r w2 ⟨hr, h2, t2⟩
  unfold skipM at hr h2
  simp only at hr h2
  have T2 := hid (T1.out.trans t2)
  clear t2
  by_cases hb : bad ≠ 0
  · rw [if_pos hb] at hr h2
    have HX := hid (HM.out.trans (if_pos hb))
    subst hr
    have C2 := hid h2
    clear h2 hb hnb
    go_wp2_with fail
    go_ret
    exact ⟨by rw [HX.out]; rfl, by rw [HX.out]; exact C2.out, T2.out⟩
  · rw [if_neg hb] at hr h2
    have HX := hid (HM.out.trans (if_neg hb))
    have hb0 : bad = 0 := Classical.byContradiction hb
    subst hb0
    by_cases he : e ≠ 0
    · rw [if_pos he] at hr h2
      subst hr
      obtain ⟨rfl, rfl⟩ := hnb he
      have C2 := hid h2
      clear h2 he hb
      go_wp2_with fail
      go_ret
      refine ⟨by rw [HX.out]; rfl, ?_, T2.out⟩
      rw [HX.out]
      have e0 : rest.extract 0 rest.size = rest := by simp
      simp only [e0]
      exact C2.out
    · rw [if_neg he] at hr h2
      subst hr
      have he0 : e = 0 := Classical.byContradiction he
      subst he0
      have C2 := hid h2
      clear h2 he hb hnb
      go_wp2_with fail
      go_ret
      exact ⟨by rw [HX.out]; rfl, by rw [HX.out]; exact C2.out, T2.out⟩
set_option maxRecDepth 100000 in
theorem glob_results (W : World) (R : Nat) (a b c : Value) (tmps : Array Value) (h2 : tmps.getD 2 undef = .pointer (some ⟨R, 0, none⟩)) (h : Blk W R 85 [a, b, c]) :
    (results Tryz.f59 tmps).run Tryz.prog W = .ok (.agg #[a, b, c]) W := by
  have q0 := h.cell (i := 0) rfl
  have q1 := h.cell (i := 1) rfl
  have q2 := h.cell (i := 2) rfl
  simp only [Array.getD_eq_getD_getElem?] at h2
  simp [results, Tryz.results59, go_sem, h2, q0, q1, q2]
set_option maxRecDepth 100000 in
set_option maxHeartbeats 8000000 in
theorem cglobal_any (w : World) (B : Nat) (all : Int) (s : SB) (h : CuB w B all s) (hs : okSc s) :
    Calls Tryz.prog 59 #[.pointer (some ⟨B, 0, none⟩)] w fun r w' => r = .returned (.agg #[.int .u8 (glbM s).1.1, .bool (glbM s).1.2.1, .int .i64 (glbM s).1.2.2]) ∧ CuB w' B all (glbM s).2 ∧ ToC B w w' := by
  have hlt := h.lt
  have C0 := hid (h.alloc (.cells #[.int .u8 0, .bool false, .int .i64 0] 85))
  have R0 := hid (Blk.new w #[.int .u8 0, .bool false, .int .i64 0] 85 _ rfl)
  have S0 := hid hs
  have T0 := hid ((Touch.refl (fun k => k = B) w).alloc (.cells #[.int .u8 0, .bool false, .int .i64 0] 85))
  have hRB : ¬ w.heap.size = B := by omega
  clear h hs
  obtain ⟨P, hP⟩ : ∃ P, glbM s = P := ⟨_, rfl⟩
  have HM0 := hid hP.symm
  rw [hP]
  clear hP
  go_enter Tryz.func59, Tryz.ntmps59
  go_wp2_with fail
  generalize hRe : w.heap.size = R at *
  generalize w.alloc (.cells #[.int .u8 0, .bool false, .int .i64 0] 85) = w0 at *
  refine (ckind_any _ B all s C0.out S0.out).mono ?_
  rintro r w1 ⟨hr, h1, t1⟩
  have hle := knd_le s
  obtain ⟨v1, s1, hv1⟩ : ∃ vz sz, kndM s = (vz, sz) := ⟨_, _, rfl⟩
  have HM1 := hid (show P = glbA v1 s1 from HM0.out.trans (by unfold glbM; rw [hv1]))
  rw [hv1] at hr h1 hle
  subst hr
  have C1 := hid h1
  have S1 := hid (S0.out.le hle)
  have T1 := hid (T0.out.trans t1)
  have R1 := hid (R0.out.touch t1 hRB)
  clear h1 t1 hle hv1
  have hXB : ¬ w1.heap.size = B := by have := C1.out.lt; omega
  have hXR : ¬ w1.heap.size = R := by have := R1.out.lt; omega
  have X2 := hid (Blk.new w1 #[.int .u8 v1, .bool false, .int .i64 0] 85 _ rfl)
  have C2 := hid (C1.out.alloc (.cells #[.int .u8 v1, .bool false, .int .i64 0] 85))
  have R2 := hid (R1.out.alloc (.cells #[.int .u8 v1, .bool false, .int .i64 0] 85))
  have T2 := hid (T1.out.alloc (.cells #[.int .u8 v1, .bool false, .int .i64 0] 85))
  have S2 := S1
  have HM2 := HM1
  have hwX : w.heap.size ≤ w1.heap.size := T1.out.size
  go_wp2_with fail
  generalize w1.heap.size = X at *
  refine (coctet_any _ B all s1 C2.out S2.out).mono ?_
  rintro r w3 ⟨hr, h3, t3⟩
  have hle := octM_size s1
  obtain ⟨v3, s3, hv3⟩ : ∃ vz sz, octM s1 = (vz, sz) := ⟨_, _, rfl⟩
  have HM3 := hid (show P = glbB v1 v3 (sayM (decide (1 < v3)) 4 s3) from HM2.out.trans (by unfold glbA; rw [hv3]))
  rw [hv3] at hr h3 hle
  subst hr
  have C3 := hid h3
  have S3 := hid (S2.out.le hle)
  have T3 := hid (T2.out.trans t3)
  have R3 := hid (R2.out.touch t3 hRB)
  have X3 := hid (X2.out.touch t3 hXB)
  clear h3 t3 hle hv3
  go_wp2_with fail
  have e1 : decide ((1 : Int) < (v3 : Int)) = decide (1 < v3) := by by_cases hq : 1 < v3 <;> simp [hq] <;> omega
  try rw [e1]
  clear e1
  refine (csay_any _ B all s3 _ 4 C3.out).mono ?_
  rintro r w4 ⟨hr, h4, t4⟩
  have hle := say_le (decide (1 < v3)) 4 s3
  obtain ⟨s4, hv4⟩ : ∃ sz, sayM (decide (1 < v3)) 4 s3 = sz := ⟨_, rfl⟩
  have HM4 := hid (show P = glbB v1 v3 s4 from HM3.out.trans (by  rw [hv4]))
  rw [hv4] at h4 hle
  subst hr
  have C4 := hid h4
  have S4 := hid (S3.out.le hle)
  have T4 := hid (T3.out.trans t4)
  have R4 := hid (R3.out.touch t4 hRB)
  have X4 := hid (X3.out.touch t4 hXB)
  clear h4 t4 hle hv4
  have x1 := X4.out.cell (i := 1) rfl
  have xf := X4.out.free
  have X5 := hid (X4.out.set 1 (.bool ((v3 : Int) == 1)))
  have C5 := hid (C4.out.other (a := ⟨X, 1, none⟩) hXB (.bool ((v3 : Int) == 1)))
  have R5 := hid (R4.out.other (a := ⟨X, 1, none⟩) hXR (.bool ((v3 : Int) == 1)))
  have HM5 := HM4
  have S5 := S4
  have T5 := hid (T4.out.newCell (a := ⟨X, 1, none⟩) (by omega) (.bool ((v3 : Int) == 1)))
  go_wp2_with fail
  clear x1 xf
  refine (coctet_any _ B all s4 C5.out S5.out).mono ?_
  rintro r w6 ⟨hr, h6, t6⟩
  have hle := octM_size s4
  obtain ⟨v6, s6, hv6⟩ : ∃ vz sz, octM s4 = (vz, sz) := ⟨_, _, rfl⟩
  have HM6 := hid (show P = glbC v1 ((v3 : Int) == 1) v6 (sayM (decide (v6 ≠ 65 ∧ v6 ≠ 66)) 6 s6) from HM5.out.trans (by unfold glbB; rw [hv6]))
  rw [hv6] at hr h6 hle
  subst hr
  have C6 := hid h6
  have S6 := hid (S5.out.le hle)
  have T6 := hid (T5.out.trans t6)
  have R6 := hid (R5.out.touch t6 hRB)
  have X6 := hid (X5.out.touch t6 hXB)
  clear h6 t6 hle hv6
  by_cases h65 : v6 = 65
  · have hi65 : (v6 : Int) = 65 := by omega
    by_cases h127 : v1 = 127
    · subst h127
      have x0 := X6.out.cell (i := 0) rfl
      go_wp2_with fail
      refine (csay_as _ B all s6 _ (decide (v6 ≠ 65 ∧ v6 ≠ 66)) 6 C6.out (by rw [Bool.eq_iff_iff]; simp <;> omega)).mono ?_
      rintro r w7 ⟨hr, h7, t7⟩
      have hle := say_le (decide (v6 ≠ 65 ∧ v6 ≠ 66)) 6 s6
      obtain ⟨s7, hv7⟩ : ∃ sz, sayM (decide (v6 ≠ 65 ∧ v6 ≠ 66)) 6 s6 = sz := ⟨_, rfl⟩
      have HM7 := hid (show P = glbC (127 : Int) ((v3 : Int) == 1) v6 s7 from HM6.out.trans (by  rw [hv7]))
      rw [hv7] at h7 hle
      subst hr
      have C7 := hid h7
      have S7 := hid (S6.out.le hle)
      have T7 := hid (T6.out.trans t7)
      have R7 := hid (R6.out.touch t7 hRB)
      have X7 := hid (X6.out.touch t7 hXB)
      clear h7 t7 hle hv7
      clear x0
      have x0 := X7.out.cell (i := 0) rfl
      go_wp2_with fail
      refine (csay_as _ B all s7 _ (decide ((v6 = 65 ∧ (127 : Int) ≠ 127) ∨ (v6 = 66 ∧ (127 : Int) ≠ 126))) 4 C7.out (by rw [Bool.eq_iff_iff]; simp <;> omega)).mono ?_
      rintro r w8 ⟨hr, h8, t8⟩
      have hle := say_le (decide ((v6 = 65 ∧ (127 : Int) ≠ 127) ∨ (v6 = 66 ∧ (127 : Int) ≠ 126))) 4 s7
      obtain ⟨s8, hv8⟩ : ∃ sz, sayM (decide ((v6 = 65 ∧ (127 : Int) ≠ 127) ∨ (v6 = 66 ∧ (127 : Int) ≠ 126))) 4 s7 = sz := ⟨_, rfl⟩
      have HM8 := hid (show P = glbE (127 : Int) ((v3 : Int) == 1) v6 s8 from HM7.out.trans (by unfold glbC; rw [hv8]))
      rw [hv8] at h8 hle
      subst hr
      have C8 := hid h8
      have S8 := hid (S7.out.le hle)
      have T8 := hid (T7.out.trans t8)
      have R8 := hid (R7.out.touch t8 hRB)
      have X8 := hid (X7.out.touch t8 hXB)
      clear h8 t8 hle hv8
      clear x0
      go_wp2_with fail
      refine (csigned_any _ B all s8 32 (.inl rfl) C8.out S8.out).mono ?_
      rintro r w9 ⟨hr, h9, t9⟩
      have hle := sgn_le (.inl rfl) s8
      obtain ⟨v9, s9, hv9⟩ : ∃ vz sz, sgnM 32 s8 = (vz, sz) := ⟨_, _, rfl⟩
      have HM9 := hid (show P = glbF (127 : Int) ((v3 : Int) == 1) (v9, s9) from HM8.out.trans (by unfold glbE; rw [if_pos h65, hv9]))
      rw [hv9] at hr h9 hle
      subst hr
      have C9 := hid h9
      have S9 := hid (S8.out.le hle)
      have T9 := hid (T8.out.trans t9)
      have R9 := hid (R8.out.touch t9 hRB)
      have X9 := hid (X8.out.touch t9 hXB)
      clear h9 t9 hle hv9
      have x2 := X9.out.cell (i := 2) rfl
      have xf := X9.out.free
      have X10 := hid (X9.out.set 2 (.int .i64 v9))
      have C10 := hid (C9.out.other (a := ⟨X, 2, none⟩) hXB (.int .i64 v9))
      have R10 := hid (R9.out.other (a := ⟨X, 2, none⟩) hXR (.int .i64 v9))
      have T10 := hid (T9.out.newCell (a := ⟨X, 2, none⟩) (by omega) (.int .i64 v9))
      have HM10 := HM9
      have S10 := S9
      go_wp2_with fail
      clear x2 xf
      refine (cmust_any _ B all s9 11 4 C10.out S10.out).mono ?_
      rintro r w11 ⟨hr, h11, t11⟩
      have hle := mst_le 11 4 s9
      obtain ⟨s11, hv11⟩ : ∃ sz, mustM 11 4 s9 = sz := ⟨_, rfl⟩
      have HM11 := hid (show P = (((127 : Int), ((v3 : Int) == 1), v9), s11) from HM10.out.trans (by unfold glbF; rw [hv11]))
      rw [hv11] at h11 hle
      subst hr
      have C11 := hid h11
      have S11 := hid (S10.out.le hle)
      have T11 := hid (T10.out.trans t11)
      have R11 := hid (R10.out.touch t11 hRB)
      have X11 := hid (X10.out.touch t11 hXB)
      clear h11 t11 hle hv11
      have x0 := X11.out.cell (i := 0) rfl
      have x1 := X11.out.cell (i := 1) rfl
      have x2 := X11.out.cell (i := 2) rfl
      have r0 := R11.out.cell (i := 0) rfl
      have r1 := R11.out.cell (i := 1) rfl
      have r2 := R11.out.cell (i := 2) rfl
      have rf := R11.out.free
      have hRw : w.heap.size ≤ R := by omega
      have CF := hid (((C11.out.other (a := ⟨R, 0, none⟩) hRB (.int .u8 (127 : Int))).other (a := ⟨R, 1, none⟩) hRB (.bool ((v3 : Int) == 1))).other (a := ⟨R, 2, none⟩) hRB (.int .i64 v9))
      have TF := hid (((T11.out.newCell (a := ⟨R, 0, none⟩) hRw (.int .u8 (127 : Int))).newCell (a := ⟨R, 1, none⟩) hRw (.bool ((v3 : Int) == 1))).newCell (a := ⟨R, 2, none⟩) hRw (.int .i64 v9))
      have RF := hid (((R11.out.set 0 (.int .u8 (127 : Int))).set 1 (.bool ((v3 : Int) == 1))).set 2 (.int .i64 v9))
      go_wp2_with fail
      clear r0 r1 r2 rf x0 x1 x2
      refine bodyPost_ret (glob_results _ R _ _ _ _ (by rfl) RF.out) rfl ?_
      exact ⟨by rw [HM11.out], by rw [HM11.out]; exact CF.out, TF.out⟩
    · skip
      have x0 := X6.out.cell (i := 0) rfl
      go_wp2_with fail
      refine (csay_as _ B all s6 _ (decide (v6 ≠ 65 ∧ v6 ≠ 66)) 6 C6.out (by rw [Bool.eq_iff_iff]; simp <;> omega)).mono ?_
      rintro r w7 ⟨hr, h7, t7⟩
      have hle := say_le (decide (v6 ≠ 65 ∧ v6 ≠ 66)) 6 s6
      obtain ⟨s7, hv7⟩ : ∃ sz, sayM (decide (v6 ≠ 65 ∧ v6 ≠ 66)) 6 s6 = sz := ⟨_, rfl⟩
      have HM7 := hid (show P = glbC v1 ((v3 : Int) == 1) v6 s7 from HM6.out.trans (by  rw [hv7]))
      rw [hv7] at h7 hle
      subst hr
      have C7 := hid h7
      have S7 := hid (S6.out.le hle)
      have T7 := hid (T6.out.trans t7)
      have R7 := hid (R6.out.touch t7 hRB)
      have X7 := hid (X6.out.touch t7 hXB)
      clear h7 t7 hle hv7
      clear x0
      have x0 := X7.out.cell (i := 0) rfl
      go_wp2_with fail
      refine (csay_as _ B all s7 _ (decide ((v6 = 65 ∧ v1 ≠ 127) ∨ (v6 = 66 ∧ v1 ≠ 126))) 4 C7.out (by rw [Bool.eq_iff_iff]; simp <;> omega)).mono ?_
      rintro r w8 ⟨hr, h8, t8⟩
      have hle := say_le (decide ((v6 = 65 ∧ v1 ≠ 127) ∨ (v6 = 66 ∧ v1 ≠ 126))) 4 s7
      obtain ⟨s8, hv8⟩ : ∃ sz, sayM (decide ((v6 = 65 ∧ v1 ≠ 127) ∨ (v6 = 66 ∧ v1 ≠ 126))) 4 s7 = sz := ⟨_, rfl⟩
      have HM8 := hid (show P = glbE v1 ((v3 : Int) == 1) v6 s8 from HM7.out.trans (by unfold glbC; rw [hv8]))
      rw [hv8] at h8 hle
      subst hr
      have C8 := hid h8
      have S8 := hid (S7.out.le hle)
      have T8 := hid (T7.out.trans t8)
      have R8 := hid (R7.out.touch t8 hRB)
      have X8 := hid (X7.out.touch t8 hXB)
      clear h8 t8 hle hv8
      clear x0
      go_wp2_with fail
      refine (csigned_any _ B all s8 32 (.inl rfl) C8.out S8.out).mono ?_
      rintro r w9 ⟨hr, h9, t9⟩
      have hle := sgn_le (.inl rfl) s8
      obtain ⟨v9, s9, hv9⟩ : ∃ vz sz, sgnM 32 s8 = (vz, sz) := ⟨_, _, rfl⟩
      have HM9 := hid (show P = glbF v1 ((v3 : Int) == 1) (v9, s9) from HM8.out.trans (by unfold glbE; rw [if_pos h65, hv9]))
      rw [hv9] at hr h9 hle
      subst hr
      have C9 := hid h9
      have S9 := hid (S8.out.le hle)
      have T9 := hid (T8.out.trans t9)
      have R9 := hid (R8.out.touch t9 hRB)
      have X9 := hid (X8.out.touch t9 hXB)
      clear h9 t9 hle hv9
      have x2 := X9.out.cell (i := 2) rfl
      have xf := X9.out.free
      have X10 := hid (X9.out.set 2 (.int .i64 v9))
      have C10 := hid (C9.out.other (a := ⟨X, 2, none⟩) hXB (.int .i64 v9))
      have R10 := hid (R9.out.other (a := ⟨X, 2, none⟩) hXR (.int .i64 v9))
      have T10 := hid (T9.out.newCell (a := ⟨X, 2, none⟩) (by omega) (.int .i64 v9))
      have HM10 := HM9
      have S10 := S9
      go_wp2_with fail
      clear x2 xf
      refine (cmust_any _ B all s9 11 4 C10.out S10.out).mono ?_
      rintro r w11 ⟨hr, h11, t11⟩
      have hle := mst_le 11 4 s9
      obtain ⟨s11, hv11⟩ : ∃ sz, mustM 11 4 s9 = sz := ⟨_, rfl⟩
      have HM11 := hid (show P = ((v1, ((v3 : Int) == 1), v9), s11) from HM10.out.trans (by unfold glbF; rw [hv11]))
      rw [hv11] at h11 hle
      subst hr
      have C11 := hid h11
      have S11 := hid (S10.out.le hle)
      have T11 := hid (T10.out.trans t11)
      have R11 := hid (R10.out.touch t11 hRB)
      have X11 := hid (X10.out.touch t11 hXB)
      clear h11 t11 hle hv11
      have x0 := X11.out.cell (i := 0) rfl
      have x1 := X11.out.cell (i := 1) rfl
      have x2 := X11.out.cell (i := 2) rfl
      have r0 := R11.out.cell (i := 0) rfl
      have r1 := R11.out.cell (i := 1) rfl
      have r2 := R11.out.cell (i := 2) rfl
      have rf := R11.out.free
      have hRw : w.heap.size ≤ R := by omega
      have CF := hid (((C11.out.other (a := ⟨R, 0, none⟩) hRB (.int .u8 v1)).other (a := ⟨R, 1, none⟩) hRB (.bool ((v3 : Int) == 1))).other (a := ⟨R, 2, none⟩) hRB (.int .i64 v9))
      have TF := hid (((T11.out.newCell (a := ⟨R, 0, none⟩) hRw (.int .u8 v1)).newCell (a := ⟨R, 1, none⟩) hRw (.bool ((v3 : Int) == 1))).newCell (a := ⟨R, 2, none⟩) hRw (.int .i64 v9))
      have RF := hid (((R11.out.set 0 (.int .u8 v1)).set 1 (.bool ((v3 : Int) == 1))).set 2 (.int .i64 v9))
      go_wp2_with fail
      clear r0 r1 r2 rf x0 x1 x2
      refine bodyPost_ret (glob_results _ R _ _ _ _ (by rfl) RF.out) rfl ?_
      exact ⟨by rw [HM11.out], by rw [HM11.out]; exact CF.out, TF.out⟩
  have hi65 : ¬ (v6 : Int) = 65 := by omega
  by_cases h66 : v6 = 66
  · have hi66 : (v6 : Int) = 66 := by omega
    by_cases h126 : v1 = 126
    · subst h126
      have x0 := X6.out.cell (i := 0) rfl
      go_wp2_with fail
      refine (csay_as _ B all s6 _ (decide (v6 ≠ 65 ∧ v6 ≠ 66)) 6 C6.out (by rw [Bool.eq_iff_iff]; simp <;> omega)).mono ?_
      rintro r w7 ⟨hr, h7, t7⟩
      have hle := say_le (decide (v6 ≠ 65 ∧ v6 ≠ 66)) 6 s6
      obtain ⟨s7, hv7⟩ : ∃ sz, sayM (decide (v6 ≠ 65 ∧ v6 ≠ 66)) 6 s6 = sz := ⟨_, rfl⟩
      have HM7 := hid (show P = glbC (126 : Int) ((v3 : Int) == 1) v6 s7 from HM6.out.trans (by  rw [hv7]))
      rw [hv7] at h7 hle
      subst hr
      have C7 := hid h7
      have S7 := hid (S6.out.le hle)
      have T7 := hid (T6.out.trans t7)
      have R7 := hid (R6.out.touch t7 hRB)
      have X7 := hid (X6.out.touch t7 hXB)
      clear h7 t7 hle hv7
      clear x0
      have x0 := X7.out.cell (i := 0) rfl
      go_wp2_with fail
      refine (csay_as _ B all s7 _ (decide ((v6 = 65 ∧ (126 : Int) ≠ 127) ∨ (v6 = 66 ∧ (126 : Int) ≠ 126))) 4 C7.out (by rw [Bool.eq_iff_iff]; simp <;> omega)).mono ?_
      rintro r w8 ⟨hr, h8, t8⟩
      have hle := say_le (decide ((v6 = 65 ∧ (126 : Int) ≠ 127) ∨ (v6 = 66 ∧ (126 : Int) ≠ 126))) 4 s7
      obtain ⟨s8, hv8⟩ : ∃ sz, sayM (decide ((v6 = 65 ∧ (126 : Int) ≠ 127) ∨ (v6 = 66 ∧ (126 : Int) ≠ 126))) 4 s7 = sz := ⟨_, rfl⟩
      have HM8 := hid (show P = glbE (126 : Int) ((v3 : Int) == 1) v6 s8 from HM7.out.trans (by unfold glbC; rw [hv8]))
      rw [hv8] at h8 hle
      subst hr
      have C8 := hid h8
      have S8 := hid (S7.out.le hle)
      have T8 := hid (T7.out.trans t8)
      have R8 := hid (R7.out.touch t8 hRB)
      have X8 := hid (X7.out.touch t8 hXB)
      clear h8 t8 hle hv8
      clear x0
      go_wp2_with fail
      refine (csigned_any _ B all s8 64 (.inr rfl) C8.out S8.out).mono ?_
      rintro r w9 ⟨hr, h9, t9⟩
      have hle := sgn_le (.inr rfl) s8
      obtain ⟨v9, s9, hv9⟩ : ∃ vz sz, sgnM 64 s8 = (vz, sz) := ⟨_, _, rfl⟩
      have HM9 := hid (show P = glbF (126 : Int) ((v3 : Int) == 1) (v9, s9) from HM8.out.trans (by unfold glbE; rw [if_neg h65, hv9]))
      rw [hv9] at hr h9 hle
      subst hr
      have C9 := hid h9
      have S9 := hid (S8.out.le hle)
      have T9 := hid (T8.out.trans t9)
      have R9 := hid (R8.out.touch t9 hRB)
      have X9 := hid (X8.out.touch t9 hXB)
      clear h9 t9 hle hv9
      have x2 := X9.out.cell (i := 2) rfl
      have xf := X9.out.free
      have X10 := hid (X9.out.set 2 (.int .i64 v9))
      have C10 := hid (C9.out.other (a := ⟨X, 2, none⟩) hXB (.int .i64 v9))
      have R10 := hid (R9.out.other (a := ⟨X, 2, none⟩) hXR (.int .i64 v9))
      have T10 := hid (T9.out.newCell (a := ⟨X, 2, none⟩) (by omega) (.int .i64 v9))
      have HM10 := HM9
      have S10 := S9
      go_wp2_with fail
      clear x2 xf
      refine (cmust_any _ B all s9 11 4 C10.out S10.out).mono ?_
      rintro r w11 ⟨hr, h11, t11⟩
      have hle := mst_le 11 4 s9
      obtain ⟨s11, hv11⟩ : ∃ sz, mustM 11 4 s9 = sz := ⟨_, rfl⟩
      have HM11 := hid (show P = (((126 : Int), ((v3 : Int) == 1), v9), s11) from HM10.out.trans (by unfold glbF; rw [hv11]))
      rw [hv11] at h11 hle
      subst hr
      have C11 := hid h11
      have S11 := hid (S10.out.le hle)
      have T11 := hid (T10.out.trans t11)
      have R11 := hid (R10.out.touch t11 hRB)
      have X11 := hid (X10.out.touch t11 hXB)
      clear h11 t11 hle hv11
      have x0 := X11.out.cell (i := 0) rfl
      have x1 := X11.out.cell (i := 1) rfl
      have x2 := X11.out.cell (i := 2) rfl
      have r0 := R11.out.cell (i := 0) rfl
      have r1 := R11.out.cell (i := 1) rfl
      have r2 := R11.out.cell (i := 2) rfl
      have rf := R11.out.free
      have hRw : w.heap.size ≤ R := by omega
      have CF := hid (((C11.out.other (a := ⟨R, 0, none⟩) hRB (.int .u8 (126 : Int))).other (a := ⟨R, 1, none⟩) hRB (.bool ((v3 : Int) == 1))).other (a := ⟨R, 2, none⟩) hRB (.int .i64 v9))
      have TF := hid (((T11.out.newCell (a := ⟨R, 0, none⟩) hRw (.int .u8 (126 : Int))).newCell (a := ⟨R, 1, none⟩) hRw (.bool ((v3 : Int) == 1))).newCell (a := ⟨R, 2, none⟩) hRw (.int .i64 v9))
      have RF := hid (((R11.out.set 0 (.int .u8 (126 : Int))).set 1 (.bool ((v3 : Int) == 1))).set 2 (.int .i64 v9))
      go_wp2_with fail
      clear r0 r1 r2 rf x0 x1 x2
      refine bodyPost_ret (glob_results _ R _ _ _ _ (by rfl) RF.out) rfl ?_
      exact ⟨by rw [HM11.out], by rw [HM11.out]; exact CF.out, TF.out⟩
    · skip
      have x0 := X6.out.cell (i := 0) rfl
      go_wp2_with fail
      refine (csay_as _ B all s6 _ (decide (v6 ≠ 65 ∧ v6 ≠ 66)) 6 C6.out (by rw [Bool.eq_iff_iff]; simp <;> omega)).mono ?_
      rintro r w7 ⟨hr, h7, t7⟩
      have hle := say_le (decide (v6 ≠ 65 ∧ v6 ≠ 66)) 6 s6
      obtain ⟨s7, hv7⟩ : ∃ sz, sayM (decide (v6 ≠ 65 ∧ v6 ≠ 66)) 6 s6 = sz := ⟨_, rfl⟩
      have HM7 := hid (show P = glbC v1 ((v3 : Int) == 1) v6 s7 from HM6.out.trans (by  rw [hv7]))
      rw [hv7] at h7 hle
      subst hr
      have C7 := hid h7
      have S7 := hid (S6.out.le hle)
      have T7 := hid (T6.out.trans t7)
      have R7 := hid (R6.out.touch t7 hRB)
      have X7 := hid (X6.out.touch t7 hXB)
      clear h7 t7 hle hv7
      clear x0
      have x0 := X7.out.cell (i := 0) rfl
      go_wp2_with fail
      refine (csay_as _ B all s7 _ (decide ((v6 = 65 ∧ v1 ≠ 127) ∨ (v6 = 66 ∧ v1 ≠ 126))) 4 C7.out (by rw [Bool.eq_iff_iff]; simp <;> omega)).mono ?_
      rintro r w8 ⟨hr, h8, t8⟩
      have hle := say_le (decide ((v6 = 65 ∧ v1 ≠ 127) ∨ (v6 = 66 ∧ v1 ≠ 126))) 4 s7
      obtain ⟨s8, hv8⟩ : ∃ sz, sayM (decide ((v6 = 65 ∧ v1 ≠ 127) ∨ (v6 = 66 ∧ v1 ≠ 126))) 4 s7 = sz := ⟨_, rfl⟩
      have HM8 := hid (show P = glbE v1 ((v3 : Int) == 1) v6 s8 from HM7.out.trans (by unfold glbC; rw [hv8]))
      rw [hv8] at h8 hle
      subst hr
      have C8 := hid h8
      have S8 := hid (S7.out.le hle)
      have T8 := hid (T7.out.trans t8)
      have R8 := hid (R7.out.touch t8 hRB)
      have X8 := hid (X7.out.touch t8 hXB)
      clear h8 t8 hle hv8
      clear x0
      go_wp2_with fail
      refine (csigned_any _ B all s8 64 (.inr rfl) C8.out S8.out).mono ?_
      rintro r w9 ⟨hr, h9, t9⟩
      have hle := sgn_le (.inr rfl) s8
      obtain ⟨v9, s9, hv9⟩ : ∃ vz sz, sgnM 64 s8 = (vz, sz) := ⟨_, _, rfl⟩
      have HM9 := hid (show P = glbF v1 ((v3 : Int) == 1) (v9, s9) from HM8.out.trans (by unfold glbE; rw [if_neg h65, hv9]))
      rw [hv9] at hr h9 hle
      subst hr
      have C9 := hid h9
      have S9 := hid (S8.out.le hle)
      have T9 := hid (T8.out.trans t9)
      have R9 := hid (R8.out.touch t9 hRB)
      have X9 := hid (X8.out.touch t9 hXB)
      clear h9 t9 hle hv9
      have x2 := X9.out.cell (i := 2) rfl
      have xf := X9.out.free
      have X10 := hid (X9.out.set 2 (.int .i64 v9))
      have C10 := hid (C9.out.other (a := ⟨X, 2, none⟩) hXB (.int .i64 v9))
      have R10 := hid (R9.out.other (a := ⟨X, 2, none⟩) hXR (.int .i64 v9))
      have T10 := hid (T9.out.newCell (a := ⟨X, 2, none⟩) (by omega) (.int .i64 v9))
      have HM10 := HM9
      have S10 := S9
      go_wp2_with fail
      clear x2 xf
      refine (cmust_any _ B all s9 11 4 C10.out S10.out).mono ?_
      rintro r w11 ⟨hr, h11, t11⟩
      have hle := mst_le 11 4 s9
      obtain ⟨s11, hv11⟩ : ∃ sz, mustM 11 4 s9 = sz := ⟨_, rfl⟩
      have HM11 := hid (show P = ((v1, ((v3 : Int) == 1), v9), s11) from HM10.out.trans (by unfold glbF; rw [hv11]))
      rw [hv11] at h11 hle
      subst hr
      have C11 := hid h11
      have S11 := hid (S10.out.le hle)
      have T11 := hid (T10.out.trans t11)
      have R11 := hid (R10.out.touch t11 hRB)
      have X11 := hid (X10.out.touch t11 hXB)
      clear h11 t11 hle hv11
      have x0 := X11.out.cell (i := 0) rfl
      have x1 := X11.out.cell (i := 1) rfl
      have x2 := X11.out.cell (i := 2) rfl
      have r0 := R11.out.cell (i := 0) rfl
      have r1 := R11.out.cell (i := 1) rfl
      have r2 := R11.out.cell (i := 2) rfl
      have rf := R11.out.free
      have hRw : w.heap.size ≤ R := by omega
      have CF := hid (((C11.out.other (a := ⟨R, 0, none⟩) hRB (.int .u8 v1)).other (a := ⟨R, 1, none⟩) hRB (.bool ((v3 : Int) == 1))).other (a := ⟨R, 2, none⟩) hRB (.int .i64 v9))
      have TF := hid (((T11.out.newCell (a := ⟨R, 0, none⟩) hRw (.int .u8 v1)).newCell (a := ⟨R, 1, none⟩) hRw (.bool ((v3 : Int) == 1))).newCell (a := ⟨R, 2, none⟩) hRw (.int .i64 v9))
      have RF := hid (((R11.out.set 0 (.int .u8 v1)).set 1 (.bool ((v3 : Int) == 1))).set 2 (.int .i64 v9))
      go_wp2_with fail
      clear r0 r1 r2 rf x0 x1 x2
      refine bodyPost_ret (glob_results _ R _ _ _ _ (by rfl) RF.out) rfl ?_
      exact ⟨by rw [HM11.out], by rw [HM11.out]; exact CF.out, TF.out⟩
  have hi66 : ¬ (v6 : Int) = 66 := by omega
  have x0 := X6.out.cell (i := 0) rfl
  go_wp2_with fail
  refine (csay_as _ B all s6 _ (decide (v6 ≠ 65 ∧ v6 ≠ 66)) 6 C6.out (by rw [Bool.eq_iff_iff]; simp <;> omega)).mono ?_
  rintro r w7 ⟨hr, h7, t7⟩
  have hle := say_le (decide (v6 ≠ 65 ∧ v6 ≠ 66)) 6 s6
  obtain ⟨s7, hv7⟩ : ∃ sz, sayM (decide (v6 ≠ 65 ∧ v6 ≠ 66)) 6 s6 = sz := ⟨_, rfl⟩
  have HM7 := hid (show P = glbC v1 ((v3 : Int) == 1) v6 s7 from HM6.out.trans (by  rw [hv7]))
  rw [hv7] at h7 hle
  subst hr
  have C7 := hid h7
  have S7 := hid (S6.out.le hle)
  have T7 := hid (T6.out.trans t7)
  have R7 := hid (R6.out.touch t7 hRB)
  have X7 := hid (X6.out.touch t7 hXB)
  clear h7 t7 hle hv7
  clear x0
  have x0 := X7.out.cell (i := 0) rfl
  go_wp2_with fail
  refine (csay_as _ B all s7 _ (decide ((v6 = 65 ∧ v1 ≠ 127) ∨ (v6 = 66 ∧ v1 ≠ 126))) 4 C7.out (by rw [Bool.eq_iff_iff]; simp <;> omega)).mono ?_
  rintro r w8 ⟨hr, h8, t8⟩
  have hle := say_le (decide ((v6 = 65 ∧ v1 ≠ 127) ∨ (v6 = 66 ∧ v1 ≠ 126))) 4 s7
  obtain ⟨s8, hv8⟩ : ∃ sz, sayM (decide ((v6 = 65 ∧ v1 ≠ 127) ∨ (v6 = 66 ∧ v1 ≠ 126))) 4 s7 = sz := ⟨_, rfl⟩
  have HM8 := hid (show P = glbE v1 ((v3 : Int) == 1) v6 s8 from HM7.out.trans (by unfold glbC; rw [hv8]))
  rw [hv8] at h8 hle
  subst hr
  have C8 := hid h8
  have S8 := hid (S7.out.le hle)
  have T8 := hid (T7.out.trans t8)
  have R8 := hid (R7.out.touch t8 hRB)
  have X8 := hid (X7.out.touch t8 hXB)
  clear h8 t8 hle hv8
  clear x0
  go_wp2_with fail
  refine (csigned_any _ B all s8 64 (.inr rfl) C8.out S8.out).mono ?_
  rintro r w9 ⟨hr, h9, t9⟩
  have hle := sgn_le (.inr rfl) s8
  obtain ⟨v9, s9, hv9⟩ : ∃ vz sz, sgnM 64 s8 = (vz, sz) := ⟨_, _, rfl⟩
  have HM9 := hid (show P = glbF v1 ((v3 : Int) == 1) (v9, s9) from HM8.out.trans (by unfold glbE; rw [if_neg h65, hv9]))
  rw [hv9] at hr h9 hle
  subst hr
  have C9 := hid h9
  have S9 := hid (S8.out.le hle)
  have T9 := hid (T8.out.trans t9)
  have R9 := hid (R8.out.touch t9 hRB)
  have X9 := hid (X8.out.touch t9 hXB)
  clear h9 t9 hle hv9
  have x2 := X9.out.cell (i := 2) rfl
  have xf := X9.out.free
  have X10 := hid (X9.out.set 2 (.int .i64 v9))
  have C10 := hid (C9.out.other (a := ⟨X, 2, none⟩) hXB (.int .i64 v9))
  have R10 := hid (R9.out.other (a := ⟨X, 2, none⟩) hXR (.int .i64 v9))
  have T10 := hid (T9.out.newCell (a := ⟨X, 2, none⟩) (by omega) (.int .i64 v9))
  have HM10 := HM9
  have S10 := S9
  go_wp2_with fail
  clear x2 xf
  refine (cmust_any _ B all s9 11 4 C10.out S10.out).mono ?_
  rintro r w11 ⟨hr, h11, t11⟩
  have hle := mst_le 11 4 s9
  obtain ⟨s11, hv11⟩ : ∃ sz, mustM 11 4 s9 = sz := ⟨_, rfl⟩
  have HM11 := hid (show P = ((v1, ((v3 : Int) == 1), v9), s11) from HM10.out.trans (by unfold glbF; rw [hv11]))
  rw [hv11] at h11 hle
  subst hr
  have C11 := hid h11
  have S11 := hid (S10.out.le hle)
  have T11 := hid (T10.out.trans t11)
  have R11 := hid (R10.out.touch t11 hRB)
  have X11 := hid (X10.out.touch t11 hXB)
  clear h11 t11 hle hv11
  have x0 := X11.out.cell (i := 0) rfl
  have x1 := X11.out.cell (i := 1) rfl
  have x2 := X11.out.cell (i := 2) rfl
  have r0 := R11.out.cell (i := 0) rfl
  have r1 := R11.out.cell (i := 1) rfl
  have r2 := R11.out.cell (i := 2) rfl
  have rf := R11.out.free
  have hRw : w.heap.size ≤ R := by omega
  have CF := hid (((C11.out.other (a := ⟨R, 0, none⟩) hRB (.int .u8 v1)).other (a := ⟨R, 1, none⟩) hRB (.bool ((v3 : Int) == 1))).other (a := ⟨R, 2, none⟩) hRB (.int .i64 v9))
  have TF := hid (((T11.out.newCell (a := ⟨R, 0, none⟩) hRw (.int .u8 v1)).newCell (a := ⟨R, 1, none⟩) hRw (.bool ((v3 : Int) == 1))).newCell (a := ⟨R, 2, none⟩) hRw (.int .i64 v9))
  have RF := hid (((R11.out.set 0 (.int .u8 v1)).set 1 (.bool ((v3 : Int) == 1))).set 2 (.int .i64 v9))
  go_wp2_with fail
  clear r0 r1 r2 rf x0 x1 x2
  refine bodyPost_ret (glob_results _ R _ _ _ _ (by rfl) RF.out) rfl ?_
  exact ⟨by rw [HM11.out], by rw [HM11.out]; exact CF.out, TF.out⟩
end Go.Proofs.YtakfineljffoaaaGreatDoor
