/-
  MODULES READ, the reference's sections 3, 6. Conditions: lengths in the form's reach. Printed by a program of mine.
-/
import Derived.Test.YtakfineljffoaaaGreatDoorGBinReads34
import Derived.Deep.Upon
namespace Go.Proofs.YtakfineljffoaaaGreatDoor
open Go.RowKit Go.Lib

set_option maxRecDepth 100000 in
set_option maxHeartbeats 8000000 in
theorem csec3_any (w : World) (H M K B : Nat) (all : Int) (s : SB) (vt vi vf vg vx ve vd kv : Value) (m : Mdl) (cs : List Cd) (h : RS w w H M K B all s vt vi vf vg vx ve vd kv m cs) (hs : okSc s) (hl : m.funcs.length ≤ 1000) :
    Calls Tryz.prog 24 #[.pointer (some ⟨B, 0, none⟩), .int .i64 3, .pointer (some ⟨M, 0, none⟩), .pointer (some ⟨K, 0, none⟩)] w fun e w' => e = .returned (.tuple #[]) ∧ ∃ vt vi vf vg vx ve vd kv, RS w w' H M K B all (secM 3 (m, cs) s).2 vt vi vf vg vx ve vd kv (secM 3 (m, cs) s).1.1 (secM 3 (m, cs) s).1.2 := by
  have A0 := hid h
  have S0 := hid hs
  have HB0 := hid (show m.funcs.length ≤ 1000 + 0 from hl)
  clear h hs hl
  obtain ⟨P, hP⟩ : ∃ P, secM 3 (m, cs) s = P := ⟨_, rfl⟩
  have HM0 := hid hP.symm
  rw [hP]
  clear hP
  have LB0 := hid (show Below w.heap.size w (w.alloc (.cells #[.int .i64 0, .int .i64 16, .int .i64 16, .int .i64 16, .int .i64 1, .int .i64 1, .int .i64 8, .int .i64 8, .int .i64 0, .int .i64 4, .int .i64 16, .int .i64 4] 114)) from (Below.refl _ _).alloc (Nat.le_refl _) _)
  have A0 := hid (A0.out.below LB0.out)
  clear LB0
  go_enter Tryz.func24, Tryz.ntmps24
  go_wp2_with fail
  have hcf := cntM_facts 16 (by decide) s
  refine (ccount_any _ B all s 16 A0.out.cu S0.out).mono ?_
  rintro r w1 ⟨hr, h1, t1⟩
  have hle := cnt_le 16 (by decide) s
  obtain ⟨v1, s1, hv1⟩ : ∃ vz sz, cntM 16 s = (vz, sz) := ⟨_, _, rfl⟩
  have HM1 := hid (show P = loopM 3 v1.toNat (m, cs) s1 from HM0.out.trans (by rw [secM, if_neg (by decide), show limM 3 = 16 from rfl, hv1]))
  rw [hv1] at hr h1 hle
  rw [hv1] at hcf
  subst hr
  have A1 := hid (A0.out.read t1 h1)
  have S1 := hid (S0.out.le hle)
  clear h1 t1 hle hv1
  obtain ⟨N, rfl⟩ := Int.eq_ofNat_of_zero_le hcf.1
  have hN : N ≤ 16 := by have := hcf.2.1; omega
  have HM1 := hid (show P = loopM 3 N (m, cs) s1 from HM1.out)
  clear hcf
  go_wp2_with fail
  obtain ⟨m0, hm0⟩ : ∃ m0 : Mdl, m0 = m := ⟨_, rfl⟩
  go_loopw [36] (fun i wr => ∃ (k : Nat) (vt vi vf vg vx ve vd kv : Value) (mm : Mdl) (cc : List Cd) (sz : SB), k ≤ N ∧ i = .int .i64 k ∧ Hid (mm.funcs.length ≤ 1000 + k) ∧ Hid (okSc sz) ∧ Hid (P = loopM 3 (N - k) (mm, cc) sz) ∧ Hid (RS w wr H M K B all sz vt vi vf vg vx ve vd kv mm cc)) (fun i _ => N - (RowKit.intOf i).toNat)
  case atStart => exact ⟨0, _, _, _, _, _, _, _, _, m, cs, s1, Nat.zero_le _, rfl, HB0, S1, HM1, A1⟩
  case round =>
    clear A0 A1 S1 S0 HM0 HM1
    obtain ⟨k, vt, vi, vf, vg, vx, ve, vd, kv, mm, cc, s2, hk, rfl, HBN, S2, HM2, A2⟩ := hrel
    have y2 := A2.out.cu.cell (i := 2) rfl
    by_cases hlt : k < N
    · by_cases hz : s2.2 ≠ 0
      · have hz2 : (s2.2 != 0) = true := by simpa using hz
        have HM3 := hid (show P = ((mm, cc), s2) from HM2.out.trans (loop_st hz))
        clear hz
        go_wp2_with fail
        first | go_end0 | refine bodyPost_ret (results_none rfl _ _ _) rfl ?_
        exact ⟨rfl, vt, vi, vf, vg, vx, ve, vd, kv, by rw [HM3.out]; exact A2.out⟩
      have hz2 : (s2.2 != 0) = false := by simpa using hz
      have HM2 := hid (show P = LG 3 up3 (N - (k + 1)) (mm, cc) (numM s2) from HM2.out.trans (by rw [show N - k = N - (k + 1) + 1 by omega]; exact loop_go (Classical.byContradiction hz) rfl))
      clear hz
      obtain ⟨n0, hn0⟩ : ∃ n, mm.funcs.length = n := ⟨_, rfl⟩
      obtain ⟨css0, -, hrow⟩ := A2.out.mo.f
      rw [hn0] at hrow
      obtain ⟨ao, cap, rfl, _⟩ := own_sl hrow
      have HN0 := hid hn0
      clear hrow hn0
      have A3 := hid A2.out.drew
      have HM3 := HM2
      have S3 := S2
      go_wp2_with fail
      refine wp_region_tail (S := (fun w' => w'.cell? ⟨M, 2, none⟩ = some (.slice ao n0 cap))) 12 (by kernel_rfl) (by kernel_rfl) ?_ (fun hHeld => ?_)
      · exact A3.out.mo.blk.cell (i := 2) rfl
      repeat ((first | refine tk 0 ?_ rfl ?_ ?_ | refine tk 1 ?_ rfl ?_ ?_ | refine tk 2 ?_ rfl ?_ ?_ | refine tk 3 ?_ rfl ?_ ?_ | refine tk 4 ?_ rfl ?_ ?_ | refine tk 5 ?_ rfl ?_ ?_ | refine tk 10 ?_ rfl ?_ ?_ | refine tk 11 ?_ rfl ?_ ?_); rotate_left; (intro wy hSw; (try dsimp only at hSw); (go_simp <;> with_reducible rfl)); (try simp only [List.getElem_toArray, List.getElem_cons_zero, List.getElem_cons_succ, Act.put, List.setIfInBounds_toArray, List.set_cons_zero, List.set_cons_succ]))
      refine wpT_one (k := 6) rfl (by kernel_rfl) (fun K hK => ?_)
      go_simp
      refine (cnum_any _ B all s2 A3.out.cu S3.out).mono ?_
      rintro r w4 ⟨hr, h4, t4⟩
      have hle := num_le s2
      obtain ⟨v4, s4, hv4⟩ : ∃ vz sz, numM s2 = (vz, sz) := ⟨_, _, rfl⟩
      have HM4 := hid (show P = LG 3 up3 (N - (k + 1)) (mm, cc) (v4, s4) from HM3.out.trans (by  rw [hv4]))
      rw [hv4] at hr h4 hle
      subst hr
      have A4 := hid (A3.out.read t4 h4)
      have S4 := hid (S3.out.le hle)
      clear h4 t4 hle hv4
      have HX4 := hid (show EFn w4 H [.int .i64 v4, .slice none 0 0, .slice none 0 0] (v4, [], []) from ⟨_, _, rfl, OwnI.nil _ _ _ _, OwnB.nil _ _⟩)
      refine hK.out _ _ ?_ (fun hHeld => ?_)
      · exact A4.out.mo.blk.cell (i := 2) rfl
      clear hK K
      (try simp only [Act.put, List.setIfInBounds_toArray, List.set_cons_zero, List.set_cons_succ])
      repeat ((first | refine tk 7 ?_ rfl ?_ ?_); rotate_left; (intro wy hSw; (try dsimp only at hSw); (go_simp <;> with_reducible rfl)); (try simp only [List.getElem_toArray, List.getElem_cons_zero, List.getElem_cons_succ, Act.put, List.setIfInBounds_toArray, List.set_cons_zero, List.set_cons_succ]))
      refine wpT_one (k := 8) rfl (by kernel_rfl) (fun K hK => ?_)
      go_simp
      refine hK.out _ _ ?_ (fun hHeld => ?_)
      · exact cell_alloc _ (A4.out.mo.blk.cell (i := 2) rfl)
      clear hK K
      (try simp only [Act.put, List.setIfInBounds_toArray, List.set_cons_zero, List.set_cons_succ])
      obtain ⟨css, HC, hrow⟩ := A4.out.mo.f
      have HBN2 := HBN.out
      have HN02 := HN0.out
      rw [HN02] at hrow HBN2
      refine wpT_one (k := 9) rfl (by kernel_rfl) (fun K hK => ?_)
      refine step_one1 elem_funcv (cs := [.int .i64 v4, .slice none 0 0, .slice none 0 0]) (by rfl) _ _ (by rfl) (by rfl) (by rfl) rfl hrow rfl (by intro c hc; simp at hc; rcases hc with rfl | rfl | rfl <;> rfl) (by omega) (by omega) A4.out.size ?_
      intro v' w6 ho6 hb6 hg6
      obtain ⟨az, cz, rfl, _⟩ := own_sl ho6
      have C4 := hid (A4.out.pushF HN02 HC hrow HX4.out hg6 ho6)
      have y0 := C4.out.1.1
      have yf := C4.out.1.2
      refine hK.out _ _ ?_ (fun hHeld => ?_)
      · exact y0
      clear hK K
      (try simp only [Act.put, List.setIfInBounds_toArray, List.set_cons_zero, List.set_cons_succ])
      repeat ((first | refine tk 0 ?_ rfl ?_ ?_ | refine tk 1 ?_ rfl ?_ ?_ | refine tk 2 ?_ rfl ?_ ?_ | refine tk 3 ?_ rfl ?_ ?_ | refine tk 4 ?_ rfl ?_ ?_ | refine tk 5 ?_ rfl ?_ ?_ | refine tk 10 ?_ rfl ?_ ?_ | refine tk 11 ?_ rfl ?_ ?_); rotate_left; (intro wy hSw; (try dsimp only at hSw); (go_simp <;> with_reducible rfl)); (try simp only [List.getElem_toArray, List.getElem_cons_zero, List.getElem_cons_succ, Act.put, List.setIfInBounds_toArray, List.set_cons_zero, List.set_cons_succ]))
      refine wpT_done (by kernel_rfl) ?_
      go_wp2_with fail
      go_roundw
      case rel => exact ⟨k + 1, _, _, _, _, _, _, _, _, _, _, s4, hlt, by go_num, hid (by have := HBN.out; simp; omega), S4, hid HM4.out, hid C4.out.2⟩
      case measure => simp [RowKit.intOf]; omega
    have HM3 := hid (show P = ((mm, cc), s2) from HM2.out.trans (by rw [show N - k = 0 by omega]; rfl))
    go_wp2_with fail
    first | go_end0 | refine bodyPost_ret (results_none rfl _ _ _) rfl ?_
    exact ⟨rfl, vt, vi, vf, vg, vx, ve, vd, kv, by rw [HM3.out]; exact A2.out⟩
set_option maxRecDepth 100000 in
set_option maxHeartbeats 8000000 in
theorem csec6_any (w : World) (H M K B : Nat) (all : Int) (s : SB) (vt vi vf vg vx ve vd kv : Value) (m : Mdl) (cs : List Cd) (h : RS w w H M K B all s vt vi vf vg vx ve vd kv m cs) (hs : okSc s) (hl : m.globals.length ≤ 1000) :
    Calls Tryz.prog 24 #[.pointer (some ⟨B, 0, none⟩), .int .i64 6, .pointer (some ⟨M, 0, none⟩), .pointer (some ⟨K, 0, none⟩)] w fun e w' => e = .returned (.tuple #[]) ∧ ∃ vt vi vf vg vx ve vd kv, RS w w' H M K B all (secM 6 (m, cs) s).2 vt vi vf vg vx ve vd kv (secM 6 (m, cs) s).1.1 (secM 6 (m, cs) s).1.2 := by
  have A0 := hid h
  have S0 := hid hs
  have HB0 := hid (show m.globals.length ≤ 1000 + 0 from hl)
  clear h hs hl
  obtain ⟨P, hP⟩ : ∃ P, secM 6 (m, cs) s = P := ⟨_, rfl⟩
  have HM0 := hid hP.symm
  rw [hP]
  clear hP
  have LB0 := hid (show Below w.heap.size w (w.alloc (.cells #[.int .i64 0, .int .i64 16, .int .i64 16, .int .i64 16, .int .i64 1, .int .i64 1, .int .i64 8, .int .i64 8, .int .i64 0, .int .i64 4, .int .i64 16, .int .i64 4] 114)) from (Below.refl _ _).alloc (Nat.le_refl _) _)
  have A0 := hid (A0.out.below LB0.out)
  clear LB0
  go_enter Tryz.func24, Tryz.ntmps24
  go_wp2_with fail
  have hcf := cntM_facts 8 (by decide) s
  refine (ccount_any _ B all s 8 A0.out.cu S0.out).mono ?_
  rintro r w1 ⟨hr, h1, t1⟩
  have hle := cnt_le 8 (by decide) s
  obtain ⟨v1, s1, hv1⟩ : ∃ vz sz, cntM 8 s = (vz, sz) := ⟨_, _, rfl⟩
  have HM1 := hid (show P = loopM 6 v1.toNat (m, cs) s1 from HM0.out.trans (by rw [secM, if_neg (by decide), show limM 6 = 8 from rfl, hv1]))
  rw [hv1] at hr h1 hle
  rw [hv1] at hcf
  subst hr
  have A1 := hid (A0.out.read t1 h1)
  have S1 := hid (S0.out.le hle)
  clear h1 t1 hle hv1
  obtain ⟨N, rfl⟩ := Int.eq_ofNat_of_zero_le hcf.1
  have hN : N ≤ 16 := by have := hcf.2.1; omega
  have HM1 := hid (show P = loopM 6 N (m, cs) s1 from HM1.out)
  clear hcf
  go_wp2_with fail
  obtain ⟨m0, hm0⟩ : ∃ m0 : Mdl, m0 = m := ⟨_, rfl⟩
  go_loopw [36] (fun i wr => ∃ (k : Nat) (vt vi vf vg vx ve vd kv : Value) (mm : Mdl) (cc : List Cd) (sz : SB), k ≤ N ∧ i = .int .i64 k ∧ Hid (mm.globals.length ≤ 1000 + k) ∧ Hid (okSc sz) ∧ Hid (P = loopM 6 (N - k) (mm, cc) sz) ∧ Hid (RS w wr H M K B all sz vt vi vf vg vx ve vd kv mm cc)) (fun i _ => N - (RowKit.intOf i).toNat)
  case atStart => exact ⟨0, _, _, _, _, _, _, _, _, m, cs, s1, Nat.zero_le _, rfl, HB0, S1, HM1, A1⟩
  case round =>
    clear A0 A1 S1 S0 HM0 HM1
    obtain ⟨k, vt, vi, vf, vg, vx, ve, vd, kv, mm, cc, s2, hk, rfl, HBN, S2, HM2, A2⟩ := hrel
    have y2 := A2.out.cu.cell (i := 2) rfl
    by_cases hlt : k < N
    · by_cases hz : s2.2 ≠ 0
      · have hz2 : (s2.2 != 0) = true := by simpa using hz
        have HM3 := hid (show P = ((mm, cc), s2) from HM2.out.trans (loop_st hz))
        clear hz
        go_wp2_with fail
        first | go_end0 | refine bodyPost_ret (results_none rfl _ _ _) rfl ?_
        exact ⟨rfl, vt, vi, vf, vg, vx, ve, vd, kv, by rw [HM3.out]; exact A2.out⟩
      have hz2 : (s2.2 != 0) = false := by simpa using hz
      have HM2 := hid (show P = LG 6 up6 (N - (k + 1)) (mm, cc) (glbM s2) from HM2.out.trans (by rw [show N - k = N - (k + 1) + 1 by omega]; exact loop_go (Classical.byContradiction hz) rfl))
      clear hz
      obtain ⟨n0, hn0⟩ : ∃ n, mm.globals.length = n := ⟨_, rfl⟩
      obtain ⟨css0, -, hrow⟩ := A2.out.mo.g
      rw [hn0] at hrow
      obtain ⟨ao, cap, rfl, _⟩ := own_sl hrow
      have HN0 := hid hn0
      clear hrow hn0
      have A3 := hid A2.out.drew
      have HM3 := HM2
      have S3 := S2
      go_wp2_with fail
      refine wp_region_tail (S := (fun w' => w'.cell? ⟨M, 6, none⟩ = some (.slice ao n0 cap))) 11 (by kernel_rfl) (by kernel_rfl) ?_ (fun hHeld => ?_)
      · exact A3.out.mo.blk.cell (i := 6) rfl
      repeat ((first | refine tk 0 ?_ rfl ?_ ?_ | refine tk 1 ?_ rfl ?_ ?_ | refine tk 2 ?_ rfl ?_ ?_ | refine tk 3 ?_ rfl ?_ ?_ | refine tk 4 ?_ rfl ?_ ?_ | refine tk 5 ?_ rfl ?_ ?_ | refine tk 9 ?_ rfl ?_ ?_ | refine tk 10 ?_ rfl ?_ ?_); rotate_left; (intro wy hSw; (try dsimp only at hSw); (go_simp <;> with_reducible rfl)); (try simp only [List.getElem_toArray, List.getElem_cons_zero, List.getElem_cons_succ, Act.put, List.setIfInBounds_toArray, List.set_cons_zero, List.set_cons_succ]))
      refine wpT_one (k := 6) rfl (by kernel_rfl) (fun K hK => ?_)
      go_simp
      refine (cglobal_any _ B all s2 A3.out.cu S3.out).mono ?_
      rintro r w4 ⟨hr, h4, t4⟩
      have hle := glb_le s2
      obtain ⟨v4, s4, hv4⟩ : ∃ vz sz, glbM s2 = (vz, sz) := ⟨_, _, rfl⟩
      have HM4 := hid (show P = LG 6 up6 (N - (k + 1)) (mm, cc) (v4, s4) from HM3.out.trans (by  rw [hv4]))
      rw [hv4] at hr h4 hle
      subst hr
      have A4 := hid (A3.out.read t4 h4)
      have S4 := hid (S3.out.le hle)
      clear h4 t4 hle hv4
      have HX4 := hid (show EGb w4 H [.int .u8 v4.1, .bool v4.2.1, .int .i64 v4.2.2] v4 from rfl)
      refine hK.out _ _ ?_ (fun hHeld => ?_)
      · exact A4.out.mo.blk.cell (i := 6) rfl
      clear hK K
      (try simp only [Act.put, List.setIfInBounds_toArray, List.set_cons_zero, List.set_cons_succ])
      refine wpT_one (k := 7) rfl (by kernel_rfl) (fun K hK => ?_)
      go_simp
      refine hK.out _ _ ?_ (fun hHeld => ?_)
      · exact cell_alloc _ (A4.out.mo.blk.cell (i := 6) rfl)
      clear hK K
      (try simp only [Act.put, List.setIfInBounds_toArray, List.set_cons_zero, List.set_cons_succ])
      obtain ⟨css, HC, hrow⟩ := A4.out.mo.g
      have HBN2 := HBN.out
      have HN02 := HN0.out
      rw [HN02] at hrow HBN2
      refine wpT_one (k := 8) rfl (by kernel_rfl) (fun K hK => ?_)
      refine step_one1 elem_globalv (cs := [.int .u8 v4.1, .bool v4.2.1, .int .i64 v4.2.2]) (by rfl) _ _ (by rfl) (by rfl) (by rfl) rfl hrow rfl (by intro c hc; simp at hc; rcases hc with rfl | rfl | rfl <;> rfl) (by omega) (by omega) A4.out.size ?_
      intro v' w6 ho6 hb6 hg6
      obtain ⟨az, cz, rfl, _⟩ := own_sl ho6
      have C4 := hid (A4.out.pushG HN02 HC hrow HX4.out hg6.1 ho6)
      have y0 := C4.out.1.1
      have yf := C4.out.1.2
      refine hK.out _ _ ?_ (fun hHeld => ?_)
      · exact y0
      clear hK K
      (try simp only [Act.put, List.setIfInBounds_toArray, List.set_cons_zero, List.set_cons_succ])
      repeat ((first | refine tk 0 ?_ rfl ?_ ?_ | refine tk 1 ?_ rfl ?_ ?_ | refine tk 2 ?_ rfl ?_ ?_ | refine tk 3 ?_ rfl ?_ ?_ | refine tk 4 ?_ rfl ?_ ?_ | refine tk 5 ?_ rfl ?_ ?_ | refine tk 9 ?_ rfl ?_ ?_ | refine tk 10 ?_ rfl ?_ ?_); rotate_left; (intro wy hSw; (try dsimp only at hSw); (go_simp <;> with_reducible rfl)); (try simp only [List.getElem_toArray, List.getElem_cons_zero, List.getElem_cons_succ, Act.put, List.setIfInBounds_toArray, List.set_cons_zero, List.set_cons_succ]))
      refine wpT_done (by kernel_rfl) ?_
      go_wp2_with fail
      go_roundw
      case rel => exact ⟨k + 1, _, _, _, _, _, _, _, _, _, _, s4, hlt, by go_num, hid (by have := HBN.out; simp; omega), S4, hid HM4.out, hid C4.out.2⟩
      case measure => simp [RowKit.intOf]; omega
    have HM3 := hid (show P = ((mm, cc), s2) from HM2.out.trans (by rw [show N - k = 0 by omega]; rfl))
    go_wp2_with fail
    first | go_end0 | refine bodyPost_ret (results_none rfl _ _ _) rfl ?_
    exact ⟨rfl, vt, vi, vf, vg, vx, ve, vd, kv, by rw [HM3.out]; exact A2.out⟩
end Go.Proofs.YtakfineljffoaaaGreatDoor
