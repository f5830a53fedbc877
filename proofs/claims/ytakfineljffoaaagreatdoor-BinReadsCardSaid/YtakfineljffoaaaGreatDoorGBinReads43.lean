/-
  MODULES READ, the reference's sections 4, 5. Conditions: lengths in the form's reach. Printed by a program of mine.
-/
import Derived.Test.YtakfineljffoaaaGreatDoorGBinReads2
import Derived.Test.YtakfineljffoaaaGreatDoorGBinReads15
import Derived.Test.YtakfineljffoaaaGreatDoorGBinReads27
import Derived.Test.YtakfineljffoaaaGreatDoorGBinReads34
import Derived.StillTailTactics
namespace Go.Proofs.YtakfineljffoaaaGreatDoor
open Go.RowKit Go.Lib

set_option maxRecDepth 100000 in
set_option maxHeartbeats 8000000 in
theorem csec4_any (w : World) (H M K B : Nat) (all : Int) (s : SB) (vt vi vf vg vx ve vd kv : Value) (m : Mdl) (cs : List Cd) (h : RS w w H M K B all s vt vi vf vg vx ve vd kv m cs) (hs : okSc s) :
    Calls Tryz.prog 24 #[.pointer (some ⟨B, 0, none⟩), .int .i64 4, .pointer (some ⟨M, 0, none⟩), .pointer (some ⟨K, 0, none⟩)] w fun e w' => e = .returned (.tuple #[]) ∧ ∃ vt vi vf vg vx ve vd kv, RS w w' H M K B all (secM 4 (m, cs) s).2 vt vi vf vg vx ve vd kv (secM 4 (m, cs) s).1.1 (secM 4 (m, cs) s).1.2 := by
  have A0 := hid h
  have S0 := hid hs
  have HB0 := hid True.intro
  clear h hs
  obtain ⟨P, hP⟩ : ∃ P, secM 4 (m, cs) s = P := ⟨_, rfl⟩
  have HM0 := hid hP.symm
  rw [hP]
  clear hP
  have LB0 := hid (show Below w.heap.size w (w.alloc (.cells #[.int .i64 0, .int .i64 16, .int .i64 16, .int .i64 16, .int .i64 1, .int .i64 1, .int .i64 8, .int .i64 8, .int .i64 0, .int .i64 4, .int .i64 16, .int .i64 4] 114)) from (Below.refl _ _).alloc (Nat.le_refl _) _)
  have A0 := hid (A0.out.below LB0.out)
  clear LB0
  go_enter Tryz.func24, Tryz.ntmps24
  go_wp2_with fail
  have hcf := cntM_facts 1 (by decide) s
  refine (ccount_any _ B all s 1 A0.out.cu S0.out).mono ?_
  rintro r w1 ⟨hr, h1, t1⟩
  have hle := cnt_le 1 (by decide) s
  obtain ⟨v1, s1, hv1⟩ : ∃ vz sz, cntM 1 s = (vz, sz) := ⟨_, _, rfl⟩
  have HM1 := hid (show P = loopM 4 v1.toNat (m, cs) s1 from HM0.out.trans (by rw [secM, if_neg (by decide), show limM 4 = 1 from rfl, hv1]))
  rw [hv1] at hr h1 hle
  rw [hv1] at hcf
  subst hr
  have A1 := hid (A0.out.read t1 h1)
  have S1 := hid (S0.out.le hle)
  clear h1 t1 hle hv1
  obtain ⟨N, rfl⟩ := Int.eq_ofNat_of_zero_le hcf.1
  have hN : N ≤ 16 := by have := hcf.2.1; omega
  have HM1 := hid (show P = loopM 4 N (m, cs) s1 from HM1.out)
  clear hcf
  go_wp2_with fail
  obtain ⟨m0, hm0⟩ : ∃ m0 : Mdl, m0 = m := ⟨_, rfl⟩
  go_loopw [36] (fun i wr => ∃ (k : Nat) (vt vi vf vg vx ve vd kv : Value) (mm : Mdl) (cc : List Cd) (sz : SB), k ≤ N ∧ i = .int .i64 k ∧ Hid (True) ∧ Hid (okSc sz) ∧ Hid (P = loopM 4 (N - k) (mm, cc) sz) ∧ Hid (RS w wr H M K B all sz vt vi vf vg vx ve vd kv mm cc)) (fun i _ => N - (RowKit.intOf i).toNat)
  case atStart => exact ⟨0, _, _, _, _, _, _, _, _, m, cs, s1, Nat.zero_le _, rfl, HB0, S1, HM1, A1⟩
  case round =>
    clear A0 A1 S1 S0 HM0 HM1
    obtain ⟨k, vt, vi, vf, vg, vx, ve, vd, kv, mm, cc, s2, hk, rfl, HBN, S2, HM2, A2⟩ := hrel
    have y2 := A2.out.cu.cell (i := 2) rfl
    by_cases hlt : k < N
    · by_cases hz : s2.2 ≠ 0
      · have hz2 : (s2.2 != 0) = true := by simpa using hz
        have HM3 := hid (show P = ((mm, cc), s2) from HM2.out.trans (loop_st hz))
        clear hz
        go_wp2_with fail
        first | go_end0 | refine bodyPost_ret (results_none rfl _ _ _) rfl ?_
        exact ⟨rfl, vt, vi, vf, vg, vx, ve, vd, kv, by rw [HM3.out]; exact A2.out⟩
      have hz2 : (s2.2 != 0) = false := by simpa using hz
      have HM2 := hid (show P = LG 4 up4 (N - (k + 1)) (mm, cc) (tblM s2) from HM2.out.trans (by rw [show N - k = N - (k + 1) + 1 by omega]; exact loop_go (Classical.byContradiction hz) rfl))
      clear hz
      go_wp2_with fail
      refine (cmust_any _ B all s2 112 6 A2.out.cu S2.out).mono ?_
      rintro r w3 ⟨hr, h3, t3⟩
      have hle := mst_le 112 6 s2
      obtain ⟨s3, hv3⟩ : ∃ sz, mustM 112 6 s2 = sz := ⟨_, rfl⟩
      have HM3 := hid (show P = LG 4 up4 (N - (k + 1)) (mm, cc) (tblA s3) from HM2.out.trans (by unfold tblM; rw [hv3]))
      rw [hv3] at h3 hle
      subst hr
      have A3 := hid (A2.out.read t3 h3)
      have S3 := hid (S2.out.le hle)
      clear h3 t3 hle hv3
      go_wp2_with fail
      refine (cmust_any _ B all s3 0 6 A3.out.cu S3.out).mono ?_
      rintro r w4 ⟨hr, h4, t4⟩
      have hle := mst_le 0 6 s3
      obtain ⟨s4, hv4⟩ : ∃ sz, mustM 0 6 s3 = sz := ⟨_, rfl⟩
      have HM4 := hid (show P = LG 4 up4 (N - (k + 1)) (mm, cc) (cntM 16 s4) from HM3.out.trans (by unfold tblA; rw [hv4]))
      rw [hv4] at h4 hle
      subst hr
      have A4 := hid (A3.out.read t4 h4)
      have S4 := hid (S3.out.le hle)
      clear h4 t4 hle hv4
      go_wp2_with fail
      refine (ccount_any _ B all s4 16 A4.out.cu S4.out).mono ?_
      rintro r w5 ⟨hr, h5, t5⟩
      have hle := cnt_le 16 (by decide) s4
      obtain ⟨v5, s5, hv5⟩ : ∃ vz sz, cntM 16 s4 = (vz, sz) := ⟨_, _, rfl⟩
      have HM5 := hid (show P = LG 4 up4 (N - (k + 1)) (mm, cc) (v5, s5) from HM4.out.trans (by  rw [hv5]))
      rw [hv5] at hr h5 hle
      subst hr
      have A5 := hid (A4.out.read t5 h5)
      have S5 := hid (S4.out.le hle)
      clear h5 t5 hle hv5
      have y0 := A5.out.mo.blk.cell (i := 3) rfl
      have yf := A5.out.mo.blk.free
      go_wp2_with fail
      go_roundw
      case rel => exact ⟨k + 1, _, _, _, _, _, _, _, _, _, _, s5, hlt, by go_num, hid True.intro, S5, hid HM5.out, hid (A5.out.set_table v5)⟩
      case measure => simp [RowKit.intOf]; omega
    have HM3 := hid (show P = ((mm, cc), s2) from HM2.out.trans (by rw [show N - k = 0 by omega]; rfl))
    go_wp2_with fail
    first | go_end0 | refine bodyPost_ret (results_none rfl _ _ _) rfl ?_
    exact ⟨rfl, vt, vi, vf, vg, vx, ve, vd, kv, by rw [HM3.out]; exact A2.out⟩
set_option maxRecDepth 100000 in
set_option maxHeartbeats 8000000 in
theorem csec5_any (w : World) (H M K B : Nat) (all : Int) (s : SB) (vt vi vf vg vx ve vd kv : Value) (m : Mdl) (cs : List Cd) (h : RS w w H M K B all s vt vi vf vg vx ve vd kv m cs) (hs : okSc s) :
    Calls Tryz.prog 24 #[.pointer (some ⟨B, 0, none⟩), .int .i64 5, .pointer (some ⟨M, 0, none⟩), .pointer (some ⟨K, 0, none⟩)] w fun e w' => e = .returned (.tuple #[]) ∧ ∃ vt vi vf vg vx ve vd kv, RS w w' H M K B all (secM 5 (m, cs) s).2 vt vi vf vg vx ve vd kv (secM 5 (m, cs) s).1.1 (secM 5 (m, cs) s).1.2 := by
  have A0 := hid h
  have S0 := hid hs
  have HB0 := hid True.intro
  clear h hs
  obtain ⟨P, hP⟩ : ∃ P, secM 5 (m, cs) s = P := ⟨_, rfl⟩
  have HM0 := hid hP.symm
  rw [hP]
  clear hP
  have LB0 := hid (show Below w.heap.size w (w.alloc (.cells #[.int .i64 0, .int .i64 16, .int .i64 16, .int .i64 16, .int .i64 1, .int .i64 1, .int .i64 8, .int .i64 8, .int .i64 0, .int .i64 4, .int .i64 16, .int .i64 4] 114)) from (Below.refl _ _).alloc (Nat.le_refl _) _)
  have A0 := hid (A0.out.below LB0.out)
  clear LB0
  go_enter Tryz.func24, Tryz.ntmps24
  go_wp2_with fail
  have hcf := cntM_facts 1 (by decide) s
  refine (ccount_any _ B all s 1 A0.out.cu S0.out).mono ?_
  rintro r w1 ⟨hr, h1, t1⟩
  have hle := cnt_le 1 (by decide) s
  obtain ⟨v1, s1, hv1⟩ : ∃ vz sz, cntM 1 s = (vz, sz) := ⟨_, _, rfl⟩
  have HM1 := hid (show P = loopM 5 v1.toNat (m, cs) s1 from HM0.out.trans (by rw [secM, if_neg (by decide), show limM 5 = 1 from rfl, hv1]))
  rw [hv1] at hr h1 hle
  rw [hv1] at hcf
  subst hr
  have A1 := hid (A0.out.read t1 h1)
  have S1 := hid (S0.out.le hle)
  clear h1 t1 hle hv1
  obtain ⟨N, rfl⟩ := Int.eq_ofNat_of_zero_le hcf.1
  have hN : N ≤ 16 := by have := hcf.2.1; omega
  have HM1 := hid (show P = loopM 5 N (m, cs) s1 from HM1.out)
  clear hcf
  go_wp2_with fail
  obtain ⟨m0, hm0⟩ : ∃ m0 : Mdl, m0 = m := ⟨_, rfl⟩
  go_loopw [36] (fun i wr => ∃ (k : Nat) (vt vi vf vg vx ve vd kv : Value) (mm : Mdl) (cc : List Cd) (sz : SB), k ≤ N ∧ i = .int .i64 k ∧ Hid (True) ∧ Hid (okSc sz) ∧ Hid (P = loopM 5 (N - k) (mm, cc) sz) ∧ Hid (RS w wr H M K B all sz vt vi vf vg vx ve vd kv mm cc)) (fun i _ => N - (RowKit.intOf i).toNat)
  case atStart => exact ⟨0, _, _, _, _, _, _, _, _, m, cs, s1, Nat.zero_le _, rfl, HB0, S1, HM1, A1⟩
  case round =>
    clear A0 A1 S1 S0 HM0 HM1
    obtain ⟨k, vt, vi, vf, vg, vx, ve, vd, kv, mm, cc, s2, hk, rfl, HBN, S2, HM2, A2⟩ := hrel
    have y2 := A2.out.cu.cell (i := 2) rfl
    by_cases hlt : k < N
    · by_cases hz : s2.2 ≠ 0
      · have hz2 : (s2.2 != 0) = true := by simpa using hz
        have HM3 := hid (show P = ((mm, cc), s2) from HM2.out.trans (loop_st hz))
        clear hz
        go_wp2_with fail
        first | go_end0 | refine bodyPost_ret (results_none rfl _ _ _) rfl ?_
        exact ⟨rfl, vt, vi, vf, vg, vx, ve, vd, kv, by rw [HM3.out]; exact A2.out⟩
      have hz2 : (s2.2 != 0) = false := by simpa using hz
      have HM2 := hid (show P = LG 5 up5 (N - (k + 1)) (mm, cc) (memM s2) from HM2.out.trans (by rw [show N - k = N - (k + 1) + 1 by omega]; exact loop_go (Classical.byContradiction hz) rfl))
      clear hz
      go_wp2_with fail
      refine (cmust_any _ B all s2 1 6 A2.out.cu S2.out).mono ?_
      rintro r w3 ⟨hr, h3, t3⟩
      have hle := mst_le 1 6 s2
      obtain ⟨s3, hv3⟩ : ∃ sz, mustM 1 6 s2 = sz := ⟨_, rfl⟩
      have HM3 := hid (show P = LG 5 up5 (N - (k + 1)) (mm, cc) (memA s3) from HM2.out.trans (by unfold memM; rw [hv3]))
      rw [hv3] at h3 hle
      subst hr
      have A3 := hid (A2.out.read t3 h3)
      have S3 := hid (S2.out.le hle)
      clear h3 t3 hle hv3
      go_wp2_with fail
      refine (cnum_any _ B all s3 A3.out.cu S3.out).mono ?_
      rintro r w4 ⟨hr, h4, t4⟩
      have hle := num_le s3
      obtain ⟨v4, s4, hv4⟩ : ∃ vz sz, numM s3 = (vz, sz) := ⟨_, _, rfl⟩
      have HM4 := hid (show P = LG 5 up5 (N - (k + 1)) (mm, cc) (memB v4 s4) from HM3.out.trans (by unfold memA; rw [hv4]))
      rw [hv4] at hr h4 hle
      subst hr
      have A4 := hid (A3.out.read t4 h4)
      have S4 := hid (S3.out.le hle)
      clear h4 t4 hle hv4
      have y4 := A4.out.mo.blk.cell (i := 4) rfl
      have yf := A4.out.mo.blk.free
      have A5 := hid (A4.out.set_pages v4)
      have S5 := S4
      have HM5 := HM4
      go_wp2_with fail
      clear y4 yf
      refine (cnum_any _ B all s4 A5.out.cu S5.out).mono ?_
      rintro r w6 ⟨hr, h6, t6⟩
      have hle := num_le s4
      obtain ⟨v6, s6, hv6⟩ : ∃ vz sz, numM s4 = (vz, sz) := ⟨_, _, rfl⟩
      have HM6 := hid (show P = LG 5 up5 (N - (k + 1)) (mm, cc) (memC v4 v6 s6) from HM5.out.trans (by unfold memB; rw [hv6]))
      rw [hv6] at hr h6 hle
      subst hr
      have A6 := hid (A5.out.read t6 h6)
      have S6 := hid (S5.out.le hle)
      clear h6 t6 hle hv6
      have y5 := A6.out.mo.blk.cell (i := 5) rfl
      have yf := A6.out.mo.blk.free
      have A7 := hid (A6.out.set_most v6)
      have z5 := A7.out.mo.blk.cell (i := 5) rfl
      have S7 := S6
      have HM7 := HM6
      go_wp2_with fail
      clear y5 yf z5
      refine (csay_as _ B all s6 _ (decide (8 < v6)) 2 A7.out.cu (by first | rfl | (rw [Bool.eq_iff_iff]; simp <;> omega))).mono ?_
      rintro r w8 ⟨hr, h8, t8⟩
      have hle := say_le (decide (8 < v6)) 2 s6
      obtain ⟨s8, hv8⟩ : ∃ sz, sayM (decide (8 < v6)) 2 s6 = sz := ⟨_, rfl⟩
      have HM8 := hid (show P = LG 5 up5 (N - (k + 1)) (mm, cc) (memD v4 v6 s8) from HM7.out.trans (by unfold memC; rw [hv8]))
      rw [hv8] at h8 hle
      subst hr
      have A8 := hid (A7.out.read t8 h8)
      have S8 := hid (S7.out.le hle)
      clear h8 t8 hle hv8
      have A9 := hid A8.out.drew
      have S9 := S8
      have HM9 := HM8
      go_wp2_with fail
      refine wp_region_tail (S := (fun w' => w'.cell? ⟨M, 4, none⟩ = some (.int .i64 v4) ∧ w'.cell? ⟨M, 5, none⟩ = some (.int .i64 v6))) 10 (by kernel_rfl) (by kernel_rfl) ?_ (fun hHeld => ?_)
      · exact ⟨A9.out.mo.blk.cell (i := 4) rfl, A9.out.mo.blk.cell (i := 5) rfl⟩
      repeat ((first | refine tk 0 ?_ rfl ?_ ?_ | refine tk 1 ?_ rfl ?_ ?_ | refine tk 2 ?_ rfl ?_ ?_ | refine tk 3 ?_ rfl ?_ ?_ | refine tk 4 ?_ rfl ?_ ?_ | refine tk 5 ?_ rfl ?_ ?_ | refine tk 6 ?_ rfl ?_ ?_ | refine tk 7 ?_ rfl ?_ ?_ | refine tk 8 ?_ rfl ?_ ?_ | refine tk 9 ?_ rfl ?_ ?_); rotate_left; (intro wy hSw; (try dsimp only at hSw); (go_simp <;> with_reducible rfl)); (try simp only [List.getElem_toArray, List.getElem_cons_zero, List.getElem_cons_succ, Act.put, List.setIfInBounds_toArray, List.set_cons_zero, List.set_cons_succ]))
      refine wpT_done (by kernel_rfl) ?_
      go_wp2_with fail
      refine (csay_as _ B all s8 _ (decide (v6 < v4)) 4 A9.out.cu (by first | rfl | (rw [Bool.eq_iff_iff]; simp <;> omega))).mono ?_
      rintro r w10 ⟨hr, h10, t10⟩
      have hle := say_le (decide (v6 < v4)) 4 s8
      obtain ⟨s10, hv10⟩ : ∃ sz, sayM (decide (v6 < v4)) 4 s8 = sz := ⟨_, rfl⟩
      have HM10 := hid (show P = LG 5 up5 (N - (k + 1)) (mm, cc) ((v4, v6), s10) from HM9.out.trans (by unfold memD; rw [hv10]))
      rw [hv10] at h10 hle
      subst hr
      have A10 := hid (A9.out.read t10 h10)
      have S10 := hid (S9.out.le hle)
      clear h10 t10 hle hv10
      go_wp2_with fail
      go_roundw
      case rel => exact ⟨k + 1, _, _, _, _, _, _, _, _, _, _, s10, hlt, by go_num, hid True.intro, S10, hid HM10.out, A10⟩
      case measure => simp [RowKit.intOf]; omega
    have HM3 := hid (show P = ((mm, cc), s2) from HM2.out.trans (by rw [show N - k = 0 by omega]; rfl))
    go_wp2_with fail
    first | go_end0 | refine bodyPost_ret (results_none rfl _ _ _) rfl ?_
    exact ⟨rfl, vt, vi, vf, vg, vx, ve, vd, kv, by rw [HM3.out]; exact A2.out⟩
end Go.Proofs.YtakfineljffoaaaGreatDoor
namespace Go.Proofs.YtakfineljffoaaaGreatDoor
open Go.RowKit Go.Lib

def encImp (x : Im) : List Value := [.string x.1, .int .i64 x.2]
theorem encImp_len (x : Im) : (encImp x).length = 2 := rfl
set_option maxRecDepth 100000 in
theorem neqs_Imp (x : Im) (w : World) : (binOp .neq 81 (.agg #[.string x.1, .int .i64 x.2]) (.agg #[.string x.1, .int .i64 x.2])).run Tryz.prog w = .ok (.bool false) w := by
  have h0 : Tryz.prog.stoodInHeld 81 = false := by kernel_rfl
  have h : (Op.equalIn 10000 81 (.agg #[.string x.1, .int .i64 x.2]) (.agg #[.string x.1, .int .i64 x.2])).run Tryz.prog w = .ok true w := by
    simp [go_sem, Program.fieldsOf, Tryz.underlying81, Tryz.underlying3, Tryz.underlying9, Op.eqFields, toList_inj, h0]
  rw [run_neq_struct, h]; rfl
set_option maxRecDepth 100000 in
set_option maxHeartbeats 1000000 in
theorem eqs_Imp (va vb : Value) (xs : List Im) (w : World) (ha : Lk encImp w va xs) (hb : Lk encImp w vb xs) :
    Calls Tryz.prog 31 #[va, vb] w fun e w' => e = .returned (.bool true) ∧ Below w.heap.size w w' := by
  rcases ha.open encImp_len (by decide) with ⟨ao, cap, rfl, rfl, _⟩ | ⟨b, off, cap, rfl, h0, hcap, hm, hc⟩
  · obtain ⟨ao', cap', rfl, _, _, _, _⟩ := hb
    clear ha
    go_enter Tryz.func31, Tryz.ntmps31
    go_wp2
    refine wp_loop_rounds 1 ?_; rw [rounds_succ]; go_wp2
    go_ret
    exact ⟨by simp, Below.refl _ _⟩
  · rcases hb.open encImp_len (by decide) with ⟨ao', cap', rfl, rfl, _⟩ | ⟨b', off', cap', rfl, h0', hcap', hm', hc'⟩
    · simp at h0
    have HA := hid ha
    have HB := hid hb
    clear ha hb hc hc'
    have hne : ((xs.length : Int) != xs.length) = false := by simp
    go_enter Tryz.func31, Tryz.ntmps31
    go_wp2
    go_loopw [14] (fun i wr => ∃ k : Nat, k ≤ xs.length ∧ i = .int .i64 k ∧ Hid (Below w.heap.size w wr)) (fun i _ => xs.length - (RowKit.intOf i).toNat)
    case atStart => exact ⟨0, Nat.zero_le _, rfl, hid (Below.refl _ _)⟩
    case round =>
      obtain ⟨k, hk, rfl, HBL⟩ := hrel
      by_cases hlt : k < xs.length
      · have hbel := HBL.out
        obtain ⟨_, _, _, hc⟩ := lk_cells (Lk.below HA.out hbel) encImp_len (by decide) h0
        obtain ⟨_, _, _, hc'⟩ := lk_cells (Lk.below HB.out hbel) encImp_len (by decide) h0'
        have hx0 := hc k hlt 0 (by decide)
        have hy0 := hc' k hlt 0 (by decide)
        rw [show (encImp xs[k])[0]? = some (.string xs[k].1) from rfl] at hx0 hy0
        have hx1 := hc k hlt 1 (by decide)
        have hy1 := hc' k hlt 1 (by decide)
        rw [show (encImp xs[k])[1]? = some (.int .i64 xs[k].2) from rfl] at hx1 hy1
        rw [Nat.add_zero] at hx0 hy0
        clear hc hc'
        have nn0 := fun o => cell_alloc o hy0
        have nn1 := fun o => cell_alloc o hy1
        have hcmp := neqs_Imp xs[k]
        have hbz := hbel.size
        go_wp2_with fail
        go_quiet (fail)
        go_wp2_with fail
        go_roundw
        case rel => exact ⟨k + 1, by omega, by go_num, hid (drew_bel' (hbel.alloc hbz _))⟩
        case measure => simp [RowKit.intOf]; omega
      · go_wp2
        go_ret
        exact ⟨rfl, HBL.out⟩
def encExp (x : Im) : List Value := [.string x.1, .int .i64 x.2]
theorem encExp_len (x : Im) : (encExp x).length = 2 := rfl
set_option maxRecDepth 100000 in
theorem neqs_Exp (x : Im) (w : World) : (binOp .neq 88 (.agg #[.string x.1, .int .i64 x.2]) (.agg #[.string x.1, .int .i64 x.2])).run Tryz.prog w = .ok (.bool false) w := by
  have h0 : Tryz.prog.stoodInHeld 88 = false := by kernel_rfl
  have h : (Op.equalIn 10000 88 (.agg #[.string x.1, .int .i64 x.2]) (.agg #[.string x.1, .int .i64 x.2])).run Tryz.prog w = .ok true w := by
    simp [go_sem, Program.fieldsOf, Tryz.underlying88, Tryz.underlying3, Tryz.underlying9, Op.eqFields, toList_inj, h0]
  rw [run_neq_struct, h]; rfl
set_option maxRecDepth 100000 in
set_option maxHeartbeats 1000000 in
theorem eqs_Exp (va vb : Value) (xs : List Im) (w : World) (ha : Lk encExp w va xs) (hb : Lk encExp w vb xs) :
    Calls Tryz.prog 34 #[va, vb] w fun e w' => e = .returned (.bool true) ∧ Below w.heap.size w w' := by
  rcases ha.open encExp_len (by decide) with ⟨ao, cap, rfl, rfl, _⟩ | ⟨b, off, cap, rfl, h0, hcap, hm, hc⟩
  · obtain ⟨ao', cap', rfl, _, _, _, _⟩ := hb
    clear ha
    go_enter Tryz.func34, Tryz.ntmps34
    go_wp2
    refine wp_loop_rounds 1 ?_; rw [rounds_succ]; go_wp2
    go_ret
    exact ⟨by simp, Below.refl _ _⟩
  · rcases hb.open encExp_len (by decide) with ⟨ao', cap', rfl, rfl, _⟩ | ⟨b', off', cap', rfl, h0', hcap', hm', hc'⟩
    · simp at h0
    have HA := hid ha
    have HB := hid hb
    clear ha hb hc hc'
    have hne : ((xs.length : Int) != xs.length) = false := by simp
    go_enter Tryz.func34, Tryz.ntmps34
    go_wp2
    go_loopw [14] (fun i wr => ∃ k : Nat, k ≤ xs.length ∧ i = .int .i64 k ∧ Hid (Below w.heap.size w wr)) (fun i _ => xs.length - (RowKit.intOf i).toNat)
    case atStart => exact ⟨0, Nat.zero_le _, rfl, hid (Below.refl _ _)⟩
    case round =>
      obtain ⟨k, hk, rfl, HBL⟩ := hrel
      by_cases hlt : k < xs.length
      · have hbel := HBL.out
        obtain ⟨_, _, _, hc⟩ := lk_cells (Lk.below HA.out hbel) encExp_len (by decide) h0
        obtain ⟨_, _, _, hc'⟩ := lk_cells (Lk.below HB.out hbel) encExp_len (by decide) h0'
        have hx0 := hc k hlt 0 (by decide)
        have hy0 := hc' k hlt 0 (by decide)
        rw [show (encExp xs[k])[0]? = some (.string xs[k].1) from rfl] at hx0 hy0
        have hx1 := hc k hlt 1 (by decide)
        have hy1 := hc' k hlt 1 (by decide)
        rw [show (encExp xs[k])[1]? = some (.int .i64 xs[k].2) from rfl] at hx1 hy1
        rw [Nat.add_zero] at hx0 hy0
        clear hc hc'
        have nn0 := fun o => cell_alloc o hy0
        have nn1 := fun o => cell_alloc o hy1
        have hcmp := neqs_Exp xs[k]
        have hbz := hbel.size
        go_wp2_with fail
        go_quiet (fail)
        go_wp2_with fail
        go_roundw
        case rel => exact ⟨k + 1, by omega, by go_num, hid (drew_bel' (hbel.alloc hbz _))⟩
        case measure => simp [RowKit.intOf]; omega
      · go_wp2
        go_ret
        exact ⟨rfl, HBL.out⟩
def encDat (x : Da) : List Value := [.int .i64 x.1, .string x.2]
theorem encDat_len (x : Da) : (encDat x).length = 2 := rfl
set_option maxRecDepth 100000 in
theorem neqs_Dat (x : Da) (w : World) : (binOp .neq 92 (.agg #[.int .i64 x.1, .string x.2]) (.agg #[.int .i64 x.1, .string x.2])).run Tryz.prog w = .ok (.bool false) w := by
  have h0 : Tryz.prog.stoodInHeld 92 = false := by kernel_rfl
  have h : (Op.equalIn 10000 92 (.agg #[.int .i64 x.1, .string x.2]) (.agg #[.int .i64 x.1, .string x.2])).run Tryz.prog w = .ok true w := by
    simp [go_sem, Program.fieldsOf, Tryz.underlying92, Tryz.underlying3, Tryz.underlying9, Op.eqFields, toList_inj, h0]
  rw [run_neq_struct, h]; rfl
set_option maxRecDepth 100000 in
set_option maxHeartbeats 1000000 in
theorem eqs_Dat (va vb : Value) (xs : List Da) (w : World) (ha : Lk encDat w va xs) (hb : Lk encDat w vb xs) :
    Calls Tryz.prog 36 #[va, vb] w fun e w' => e = .returned (.bool true) ∧ Below w.heap.size w w' := by
  rcases ha.open encDat_len (by decide) with ⟨ao, cap, rfl, rfl, _⟩ | ⟨b, off, cap, rfl, h0, hcap, hm, hc⟩
  · obtain ⟨ao', cap', rfl, _, _, _, _⟩ := hb
    clear ha
    go_enter Tryz.func36, Tryz.ntmps36
    go_wp2
    refine wp_loop_rounds 1 ?_; rw [rounds_succ]; go_wp2
    go_ret
    exact ⟨by simp, Below.refl _ _⟩
  · rcases hb.open encDat_len (by decide) with ⟨ao', cap', rfl, rfl, _⟩ | ⟨b', off', cap', rfl, h0', hcap', hm', hc'⟩
    · simp at h0
    have HA := hid ha
    have HB := hid hb
    clear ha hb hc hc'
    have hne : ((xs.length : Int) != xs.length) = false := by simp
    go_enter Tryz.func36, Tryz.ntmps36
    go_wp2
    go_loopw [14] (fun i wr => ∃ k : Nat, k ≤ xs.length ∧ i = .int .i64 k ∧ Hid (Below w.heap.size w wr)) (fun i _ => xs.length - (RowKit.intOf i).toNat)
    case atStart => exact ⟨0, Nat.zero_le _, rfl, hid (Below.refl _ _)⟩
    case round =>
      obtain ⟨k, hk, rfl, HBL⟩ := hrel
      by_cases hlt : k < xs.length
      · have hbel := HBL.out
        obtain ⟨_, _, _, hc⟩ := lk_cells (Lk.below HA.out hbel) encDat_len (by decide) h0
        obtain ⟨_, _, _, hc'⟩ := lk_cells (Lk.below HB.out hbel) encDat_len (by decide) h0'
        have hx0 := hc k hlt 0 (by decide)
        have hy0 := hc' k hlt 0 (by decide)
        rw [show (encDat xs[k])[0]? = some (.int .i64 xs[k].1) from rfl] at hx0 hy0
        have hx1 := hc k hlt 1 (by decide)
        have hy1 := hc' k hlt 1 (by decide)
        rw [show (encDat xs[k])[1]? = some (.string xs[k].2) from rfl] at hx1 hy1
        rw [Nat.add_zero] at hx0 hy0
        clear hc hc'
        have nn0 := fun o => cell_alloc o hy0
        have nn1 := fun o => cell_alloc o hy1
        have hcmp := neqs_Dat xs[k]
        have hbz := hbel.size
        go_wp2_with fail
        go_quiet (fail)
        go_wp2_with fail
        go_roundw
        case rel => exact ⟨k + 1, by omega, by go_num, hid (drew_bel' (hbel.alloc hbz _))⟩
        case measure => simp [RowKit.intOf]; omega
      · go_wp2
        go_ret
        exact ⟨rfl, HBL.out⟩
def encGlb (x : Gb) : List Value := [.int .u8 x.1, .bool x.2.1, .int .i64 x.2.2]
theorem encGlb_len (x : Gb) : (encGlb x).length = 3 := rfl
set_option maxRecDepth 100000 in
theorem neqs_Glb (x : Gb) (w : World) : (binOp .neq 85 (.agg #[.int .u8 x.1, .bool x.2.1, .int .i64 x.2.2]) (.agg #[.int .u8 x.1, .bool x.2.1, .int .i64 x.2.2])).run Tryz.prog w = .ok (.bool false) w := by
  have h0 : Tryz.prog.stoodInHeld 85 = false := by kernel_rfl
  have h : (Op.equalIn 10000 85 (.agg #[.int .u8 x.1, .bool x.2.1, .int .i64 x.2.2]) (.agg #[.int .u8 x.1, .bool x.2.1, .int .i64 x.2.2])).run Tryz.prog w = .ok true w := by
    simp [go_sem, Program.fieldsOf, Tryz.underlying85, Tryz.underlying68, Tryz.underlying4, Tryz.underlying2, Op.eqFields, toList_inj, h0]
  rw [run_neq_struct, h]; rfl
set_option maxRecDepth 100000 in
set_option maxHeartbeats 1000000 in
theorem eqs_Glb (va vb : Value) (xs : List Gb) (w : World) (ha : Lk encGlb w va xs) (hb : Lk encGlb w vb xs) :
    Calls Tryz.prog 33 #[va, vb] w fun e w' => e = .returned (.bool true) ∧ Below w.heap.size w w' := by
  rcases ha.open encGlb_len (by decide) with ⟨ao, cap, rfl, rfl, _⟩ | ⟨b, off, cap, rfl, h0, hcap, hm, hc⟩
  · obtain ⟨ao', cap', rfl, _, _, _, _⟩ := hb
    clear ha
    go_enter Tryz.func33, Tryz.ntmps33
    go_wp2
    refine wp_loop_rounds 1 ?_; rw [rounds_succ]; go_wp2
    go_ret
    exact ⟨by simp, Below.refl _ _⟩
  · rcases hb.open encGlb_len (by decide) with ⟨ao', cap', rfl, rfl, _⟩ | ⟨b', off', cap', rfl, h0', hcap', hm', hc'⟩
    · simp at h0
    have HA := hid ha
    have HB := hid hb
    clear ha hb hc hc'
    have hne : ((xs.length : Int) != xs.length) = false := by simp
    go_enter Tryz.func33, Tryz.ntmps33
    go_wp2
    go_loopw [14] (fun i wr => ∃ k : Nat, k ≤ xs.length ∧ i = .int .i64 k ∧ Hid (Below w.heap.size w wr)) (fun i _ => xs.length - (RowKit.intOf i).toNat)
    case atStart => exact ⟨0, Nat.zero_le _, rfl, hid (Below.refl _ _)⟩
    case round =>
      obtain ⟨k, hk, rfl, HBL⟩ := hrel
      by_cases hlt : k < xs.length
      · have hbel := HBL.out
        obtain ⟨_, _, _, hc⟩ := lk_cells (Lk.below HA.out hbel) encGlb_len (by decide) h0
        obtain ⟨_, _, _, hc'⟩ := lk_cells (Lk.below HB.out hbel) encGlb_len (by decide) h0'
        have hx0 := hc k hlt 0 (by decide)
        have hy0 := hc' k hlt 0 (by decide)
        rw [show (encGlb xs[k])[0]? = some (.int .u8 xs[k].1) from rfl] at hx0 hy0
        have hx1 := hc k hlt 1 (by decide)
        have hy1 := hc' k hlt 1 (by decide)
        rw [show (encGlb xs[k])[1]? = some (.bool xs[k].2.1) from rfl] at hx1 hy1
        have hx2 := hc k hlt 2 (by decide)
        have hy2 := hc' k hlt 2 (by decide)
        rw [show (encGlb xs[k])[2]? = some (.int .i64 xs[k].2.2) from rfl] at hx2 hy2
        rw [Nat.add_zero] at hx0 hy0
        clear hc hc'
        have nn0 := fun o => cell_alloc o hy0
        have nn1 := fun o => cell_alloc o hy1
        have nn2 := fun o => cell_alloc o hy2
        have hcmp := neqs_Glb xs[k]
        have hbz := hbel.size
        go_wp2_with fail
        go_quiet (fail)
        go_wp2_with fail
        go_roundw
        case rel => exact ⟨k + 1, by omega, by go_num, hid (drew_bel' (hbel.alloc hbz _))⟩
        case measure => simp [RowKit.intOf]; omega
      · go_wp2
        go_ret
        exact ⟨rfl, HBL.out⟩
end Go.Proofs.YtakfineljffoaaaGreatDoor
