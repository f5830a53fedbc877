/-
  MODULES AS BYTES, the program's writers of the sections' parts. Conditions: each part passes the check; unicode/utf8's two tables hold what the row lists.
-/
import Derived.Test.YthoalneknadheaaGreatDoorGBinWrites2
import Derived.Test.YthoalneknadheaaGreatDoorGBinWrites33
import Derived.Test.YthoalneknadheaaGreatDoorGBinWrites38
import Derived.Test.YthoalneknadheaaGreatDoorGBinWrites39
namespace Go.Proofs.YthoalneknadheaaGreatDoor
open Go.RowKit Go.Lib

set_option maxRecDepth 100000 in
theorem name_any (s : ByteArray) (hs : s.size ≤ 9223372036854775807) (w : World) (hT : UTabs w) :
    Calls Tryz.prog 18 #[.string s] w fun e w' => e = .returned (.string (nameX s)) ∧ Below w.heap.size w w' := by
  have HN := hid (fun wx (hx : Below w.heap.size w wx) => pname_any s hs wx (hT.below hx))
  go_enter Tryz.func18, Tryz.ntmps18
  go_wp2_with fail
  refine (HN.out _ (Below.refl _ _)).mono ?_
  rintro r w' ⟨rfl, hb⟩
  go_wp2_with fail
  go_ret
  exact ⟨rfl, hb⟩
theorem s_any (n : Int) (h1 : -9223372036854775808 ≤ n) (h2 : n < 9223372036854775808) (A : ByteArray) (hA : A = S (encS 9 n)) (w : World) :
    Calls Tryz.prog 28 #[.int .i64 n] w fun e w' => e = .returned (.string A) ∧ Below w.heap.size w w' := by
  subst hA
  exact lebS_any n w h1 h2
set_option maxRecDepth 100000 in
set_option maxHeartbeats 4000000 in
theorem wSig_any (W w : World) (cs : List Value) (y : D_api_Sig) (hb : Below W.heap.size W w) (hf : fSig y = 0) (hR : R_api_Sig W cs y) :
    Calls Tryz.prog 14 #[.agg cs.toArray] w fun e w' => e = .returned (.string (wSig y)) ∧ Below w.heap.size w w' := by
  obtain ⟨_, _, rfl, h1, _, _, rfl, h2, rfl⟩ := hR
  obtain ⟨u1, rfl⟩ := sl_one h1
  have K1 := hid h1
  obtain ⟨a1, k1, rfl, kb1, kc1, _⟩ := sl_shape h1
  clear h1
  obtain ⟨u2, rfl⟩ := sl_one h2
  have K2 := hid h2
  obtain ⟨a2, k2, rfl, kb2, kc2, _⟩ := sl_shape h2
  clear h2
  obtain ⟨g1, g2, g3, g4⟩ := gSig hf
  obtain ⟨A, hA⟩ : ∃ A, kindsB y.1 = A := ⟨_, rfl⟩
  have HA := hid (fun wx (hx : Below W.heap.size W wx) => kinds_any W wx _ y.1 hx (kinds_of K1.out) (by omega) g3)
  rw [hA] at HA
  have sA := kindsB_size y.1
  rw [hA] at sA
  have EA := hid hA
  clear hA
  obtain ⟨C, hC⟩ : ∃ C, kindsB y.2.1 = C := ⟨_, rfl⟩
  have HC := hid (fun wx (hx : Below W.heap.size W wx) => kinds_any W wx _ y.2.1 hx (kinds_of K2.out) (by omega) g4)
  rw [hC] at HC
  have sC := kindsB_size y.2.1
  rw [hC] at sC
  have EC := hid hC
  clear hC
  have HB := hid hb
  have hX := Blk.new w #[.slice a1 y.1.length k1, .slice a2 y.2.1.length k2] 47 _ rfl
  have X0 := hid (hX.below (Below.refl _ _).drew)
  have b0 := (Below.refl w.heap.size w).alloc (Nat.le_refl _) (.cells #[.slice a1 y.1.length k1, .slice a2 y.2.1.length k2] 47)
  have B0 := hid b0.drew
  have q1 : ¬ 9223372036854775807 < 1 + A.size := by omega
  have q2 : ¬ 9223372036854775807 < 1 + A.size + C.size := by omega
  clear sA sC g1 g2 g3 g4
  clear hX b0 hb hf
  go_enter Tryz.func14, Tryz.ntmps14
  go_wp2_with fail
  refine wp_region_tail (S := (fun w' => w'.cell? ⟨w.heap.size, 0, none⟩ = some (.slice a1 y.1.length k1) ∧ w'.cell? ⟨w.heap.size, 1, none⟩ = some (.slice a2 y.2.1.length k2) ∧ Hid (Blk w' w.heap.size 47 [.slice a1 y.1.length k1, .slice a2 y.2.1.length k2]) ∧ Hid (Below w.heap.size w w'))) 8 (by kernel_rfl) (by kernel_rfl) ?_ (fun hHeld => ?_)
  · exact ⟨X0.out.cell (i := 0) rfl, X0.out.cell (i := 1) rfl, X0, B0⟩
  repeat ((first | refine tk 0 ?_ rfl ?_ ?_ | refine tk 1 ?_ rfl ?_ ?_ | refine tk 3 ?_ rfl ?_ ?_ | refine tk 4 ?_ rfl ?_ ?_ | refine tk 5 ?_ rfl ?_ ?_ | refine tk 7 ?_ rfl ?_ ?_); rotate_left; (intro wy hSw; (try dsimp only at hSw); (go_simp <;> with_reducible rfl)); (try simp only [List.getElem_toArray, List.getElem_cons_zero, List.getElem_cons_succ, Act.put, List.setIfInBounds_toArray, List.set_cons_zero, List.set_cons_succ]))
  refine wpT_one (k := 2) rfl (by kernel_rfl) (fun K hK => ?_)
  go_simp
  refine (HA.out _ (HB.out.trans (B0.out.mono HB.out.size))).mono ?_
  rintro r w1 ⟨rfl, hb5⟩
  have X1 := hid (X0.out.below hb5)
  have B1 := hid (B0.out.trans (hb5.mono B0.out.size))
  clear hb5
  go_wp2_with fail
  refine hK.out _ _ ?_ (fun hHeld => ?_)
  · exact ⟨X1.out.cell (i := 0) rfl, X1.out.cell (i := 1) rfl, X1, B1⟩
  clear hK K
  (try simp only [Act.put, List.setIfInBounds_toArray, List.set_cons_zero, List.set_cons_succ])
  repeat ((first | refine tk 0 ?_ rfl ?_ ?_ | refine tk 1 ?_ rfl ?_ ?_ | refine tk 3 ?_ rfl ?_ ?_ | refine tk 4 ?_ rfl ?_ ?_ | refine tk 5 ?_ rfl ?_ ?_ | refine tk 7 ?_ rfl ?_ ?_); rotate_left; (intro wy hSw; (try dsimp only at hSw); (go_simp <;> with_reducible rfl)); (try simp only [List.getElem_toArray, List.getElem_cons_zero, List.getElem_cons_succ, Act.put, List.setIfInBounds_toArray, List.set_cons_zero, List.set_cons_succ]))
  refine wpT_one (k := 6) rfl (by kernel_rfl) (fun K hK => ?_)
  go_simp
  refine (HC.out _ (HB.out.trans (B1.out.mono HB.out.size))).mono ?_
  rintro r w2 ⟨rfl, hb5⟩
  have X2 := hid (X1.out.below hb5)
  have B2 := hid (B1.out.trans (hb5.mono B1.out.size))
  clear hb5
  go_wp2_with fail
  refine hK.out _ _ ?_ (fun hHeld => ?_)
  · exact ⟨X2.out.cell (i := 0) rfl, X2.out.cell (i := 1) rfl, X2, B2⟩
  clear hK K
  (try simp only [Act.put, List.setIfInBounds_toArray, List.set_cons_zero, List.set_cons_succ])
  repeat ((first | refine tk 0 ?_ rfl ?_ ?_ | refine tk 1 ?_ rfl ?_ ?_ | refine tk 3 ?_ rfl ?_ ?_ | refine tk 4 ?_ rfl ?_ ?_ | refine tk 5 ?_ rfl ?_ ?_ | refine tk 7 ?_ rfl ?_ ?_); rotate_left; (intro wy hSw; (try dsimp only at hSw); (go_simp <;> with_reducible rfl)); (try simp only [List.getElem_toArray, List.getElem_cons_zero, List.getElem_cons_succ, Act.put, List.setIfInBounds_toArray, List.set_cons_zero, List.set_cons_succ]))
  refine wpT_done (by kernel_rfl) ?_
  go_wp2_with fail
  go_ret
  exact ⟨by unfold wSig; rw [EA.out, EC.out]; rfl, B2.out⟩
set_option maxRecDepth 100000 in
set_option maxHeartbeats 4000000 in
theorem wImport_any (W w : World) (cs : List Value) (y : D_api_Import) (hb : Below W.heap.size W w) (hT : UTabs W) (hf : fImport y = 0) (hR : R_api_Import W cs y) :
    Calls Tryz.prog 17 #[.agg cs.toArray] w fun e w' => e = .returned (.string (wImport y)) ∧ Below w.heap.size w w' := by
  obtain ⟨_, _, rfl, ⟨rfl, hw1⟩, _, _, rfl, ⟨rfl, _⟩, rfl⟩ := hR
  obtain ⟨g1, g2, g3⟩ := gImport hf
  have HW := hid (show (0 : Nat) = (0 : Nat) from rfl)
  obtain ⟨A, hA⟩ : ∃ A, nameX y.1 = A := ⟨_, rfl⟩
  have HA := hid (fun wx (hx : Below W.heap.size W wx) => name_any y.1 (by have := (nameX_good g1).1; omega) wx (hT.below hx))
  rw [hA] at HA
  have sA := nameX_size y.1
  rw [hA] at sA
  have EA := hid hA
  clear hA
  obtain ⟨t, ht⟩ := Int.eq_ofNat_of_zero_le g2
  have HTT := hid ht
  rw [ht] at g3
  obtain ⟨C, hC⟩ : ∃ C, numB (t : Int) = C := ⟨_, rfl⟩
  have HC := hid (fun wx (hx : Below W.heap.size W wx) => num_any t (by omega) wx)
  rw [hC] at HC
  have sC := numB_size (t : Int)
  rw [hC] at sC
  have EC := hid hC
  clear hC
  have HWD := hid (show wImport y = S [4, 104, 111, 115, 116] ++ A ++ S [0] ++ C from by unfold wImport; rw [EA.out, HTT.out, EC.out])
  rw [HWD.out, ht]
  have HB := hid hb
  have hX := Blk.new w #[.string y.1, .int .i64 (t : Int)] 52 _ rfl
  have X0 := hid (hX.below (Below.refl _ _).drew)
  have b0 := (Below.refl w.heap.size w).alloc (Nat.le_refl _) (.cells #[.string y.1, .int .i64 (t : Int)] 52)
  have B0 := hid b0.drew
  have q1 : ¬ 9223372036854775807 < 5 + A.size := by omega
  have q2 : ¬ 9223372036854775807 < 5 + A.size + 1 := by omega
  have q3 : ¬ 9223372036854775807 < 5 + A.size + 1 + C.size := by omega
  clear sA sC g1 g2 g3 hw1 ht hT
  clear hX b0 hb hf
  go_enter Tryz.func17, Tryz.ntmps17
  go_wp2_with fail
  refine wp_region_tail (S := (fun w' => w'.cell? ⟨w.heap.size, 0, none⟩ = some (.string y.1) ∧ w'.cell? ⟨w.heap.size, 1, none⟩ = some (.int .i64 (t : Int)) ∧ Hid (Blk w' w.heap.size 52 [.string y.1, .int .i64 (t : Int)]) ∧ Hid (Below w.heap.size w w'))) 9 (by kernel_rfl) (by kernel_rfl) ?_ (fun hHeld => ?_)
  · exact ⟨X0.out.cell (i := 0) rfl, X0.out.cell (i := 1) rfl, X0, B0⟩
  repeat ((first | refine tk 0 ?_ rfl ?_ ?_ | refine tk 1 ?_ rfl ?_ ?_ | refine tk 3 ?_ rfl ?_ ?_ | refine tk 4 ?_ rfl ?_ ?_ | refine tk 5 ?_ rfl ?_ ?_ | refine tk 6 ?_ rfl ?_ ?_ | refine tk 8 ?_ rfl ?_ ?_); rotate_left; (intro wy hSw; (try dsimp only at hSw); (go_simp <;> with_reducible rfl)); (try simp only [List.getElem_toArray, List.getElem_cons_zero, List.getElem_cons_succ, Act.put, List.setIfInBounds_toArray, List.set_cons_zero, List.set_cons_succ]))
  refine wpT_one (k := 2) rfl (by kernel_rfl) (fun K hK => ?_)
  go_simp
  refine (HA.out _ (HB.out.trans (B0.out.mono HB.out.size))).mono ?_
  rintro r w1 ⟨rfl, hb5⟩
  have X1 := hid (X0.out.below hb5)
  have B1 := hid (B0.out.trans (hb5.mono B0.out.size))
  clear hb5
  go_wp2_with fail
  refine hK.out _ _ ?_ (fun hHeld => ?_)
  · exact ⟨X1.out.cell (i := 0) rfl, X1.out.cell (i := 1) rfl, X1, B1⟩
  clear hK K
  (try simp only [Act.put, List.setIfInBounds_toArray, List.set_cons_zero, List.set_cons_succ])
  repeat ((first | refine tk 0 ?_ rfl ?_ ?_ | refine tk 1 ?_ rfl ?_ ?_ | refine tk 3 ?_ rfl ?_ ?_ | refine tk 4 ?_ rfl ?_ ?_ | refine tk 5 ?_ rfl ?_ ?_ | refine tk 6 ?_ rfl ?_ ?_ | refine tk 8 ?_ rfl ?_ ?_); rotate_left; (intro wy hSw; (try dsimp only at hSw); (go_simp <;> with_reducible rfl)); (try simp only [List.getElem_toArray, List.getElem_cons_zero, List.getElem_cons_succ, Act.put, List.setIfInBounds_toArray, List.set_cons_zero, List.set_cons_succ]))
  refine wpT_one (k := 7) rfl (by kernel_rfl) (fun K hK => ?_)
  go_simp
  refine (HC.out _ (HB.out.trans (B1.out.mono HB.out.size))).mono ?_
  rintro r w2 ⟨rfl, hb5⟩
  have X2 := hid (X1.out.below hb5)
  have B2 := hid (B1.out.trans (hb5.mono B1.out.size))
  clear hb5
  go_wp2_with fail
  refine hK.out _ _ ?_ (fun hHeld => ?_)
  · exact ⟨X2.out.cell (i := 0) rfl, X2.out.cell (i := 1) rfl, X2, B2⟩
  clear hK K
  (try simp only [Act.put, List.setIfInBounds_toArray, List.set_cons_zero, List.set_cons_succ])
  repeat ((first | refine tk 0 ?_ rfl ?_ ?_ | refine tk 1 ?_ rfl ?_ ?_ | refine tk 3 ?_ rfl ?_ ?_ | refine tk 4 ?_ rfl ?_ ?_ | refine tk 5 ?_ rfl ?_ ?_ | refine tk 6 ?_ rfl ?_ ?_ | refine tk 8 ?_ rfl ?_ ?_); rotate_left; (intro wy hSw; (try dsimp only at hSw); (go_simp <;> with_reducible rfl)); (try simp only [List.getElem_toArray, List.getElem_cons_zero, List.getElem_cons_succ, Act.put, List.setIfInBounds_toArray, List.set_cons_zero, List.set_cons_succ]))
  refine wpT_done (by kernel_rfl) ?_
  go_wp2_with fail
  go_ret
  exact ⟨by rfl, B2.out⟩
set_option maxRecDepth 100000 in
set_option maxHeartbeats 4000000 in
theorem wExport_any (W w : World) (cs : List Value) (y : D_api_Export) (hb : Below W.heap.size W w) (hT : UTabs W) (hf : fExport y = 0) (hR : R_api_Export W cs y) :
    Calls Tryz.prog 25 #[.agg cs.toArray] w fun e w' => e = .returned (.string (wExport y)) ∧ Below w.heap.size w w' := by
  obtain ⟨_, _, rfl, ⟨rfl, hw1⟩, _, _, rfl, ⟨rfl, _⟩, rfl⟩ := hR
  obtain ⟨g1, g2, g3⟩ := gExport hf
  have HW := hid (show (0 : Nat) = (0 : Nat) from rfl)
  obtain ⟨A, hA⟩ : ∃ A, nameX y.1 = A := ⟨_, rfl⟩
  have HA := hid (fun wx (hx : Below W.heap.size W wx) => name_any y.1 (by have := (nameX_good g1).1; omega) wx (hT.below hx))
  rw [hA] at HA
  have sA := nameX_size y.1
  rw [hA] at sA
  have EA := hid hA
  clear hA
  obtain ⟨t, ht⟩ := Int.eq_ofNat_of_zero_le g2
  have HTT := hid ht
  rw [ht] at g3
  obtain ⟨C, hC⟩ : ∃ C, numB (t : Int) = C := ⟨_, rfl⟩
  have HC := hid (fun wx (hx : Below W.heap.size W wx) => num_any t (by omega) wx)
  rw [hC] at HC
  have sC := numB_size (t : Int)
  rw [hC] at sC
  have EC := hid hC
  clear hC
  have HWD := hid (show wExport y = A ++ S [0] ++ C from by unfold wExport; rw [EA.out, HTT.out, EC.out])
  rw [HWD.out, ht]
  have HB := hid hb
  have hX := Blk.new w #[.string y.1, .int .i64 (t : Int)] 68 _ rfl
  have X0 := hid (hX.below (Below.refl _ _).drew)
  have b0 := (Below.refl w.heap.size w).alloc (Nat.le_refl _) (.cells #[.string y.1, .int .i64 (t : Int)] 68)
  have B0 := hid b0.drew
  have q1 : ¬ 9223372036854775807 < A.size + 1 := by omega
  have q2 : ¬ 9223372036854775807 < A.size + 1 + C.size := by omega
  clear sA sC g1 g2 g3 hw1 ht hT
  clear hX b0 hb hf
  go_enter Tryz.func25, Tryz.ntmps25
  go_wp2_with fail
  refine wp_region_tail (S := (fun w' => w'.cell? ⟨w.heap.size, 0, none⟩ = some (.string y.1) ∧ w'.cell? ⟨w.heap.size, 1, none⟩ = some (.int .i64 (t : Int)) ∧ Hid (Blk w' w.heap.size 68 [.string y.1, .int .i64 (t : Int)]) ∧ Hid (Below w.heap.size w w'))) 8 (by kernel_rfl) (by kernel_rfl) ?_ (fun hHeld => ?_)
  · exact ⟨X0.out.cell (i := 0) rfl, X0.out.cell (i := 1) rfl, X0, B0⟩
  repeat ((first | refine tk 0 ?_ rfl ?_ ?_ | refine tk 1 ?_ rfl ?_ ?_ | refine tk 3 ?_ rfl ?_ ?_ | refine tk 4 ?_ rfl ?_ ?_ | refine tk 5 ?_ rfl ?_ ?_ | refine tk 7 ?_ rfl ?_ ?_); rotate_left; (intro wy hSw; (try dsimp only at hSw); (go_simp <;> with_reducible rfl)); (try simp only [List.getElem_toArray, List.getElem_cons_zero, List.getElem_cons_succ, Act.put, List.setIfInBounds_toArray, List.set_cons_zero, List.set_cons_succ]))
  refine wpT_one (k := 2) rfl (by kernel_rfl) (fun K hK => ?_)
  go_simp
  refine (HA.out _ (HB.out.trans (B0.out.mono HB.out.size))).mono ?_
  rintro r w1 ⟨rfl, hb5⟩
  have X1 := hid (X0.out.below hb5)
  have B1 := hid (B0.out.trans (hb5.mono B0.out.size))
  clear hb5
  go_wp2_with fail
  refine hK.out _ _ ?_ (fun hHeld => ?_)
  · exact ⟨X1.out.cell (i := 0) rfl, X1.out.cell (i := 1) rfl, X1, B1⟩
  clear hK K
  (try simp only [Act.put, List.setIfInBounds_toArray, List.set_cons_zero, List.set_cons_succ])
  repeat ((first | refine tk 0 ?_ rfl ?_ ?_ | refine tk 1 ?_ rfl ?_ ?_ | refine tk 3 ?_ rfl ?_ ?_ | refine tk 4 ?_ rfl ?_ ?_ | refine tk 5 ?_ rfl ?_ ?_ | refine tk 7 ?_ rfl ?_ ?_); rotate_left; (intro wy hSw; (try dsimp only at hSw); (go_simp <;> with_reducible rfl)); (try simp only [List.getElem_toArray, List.getElem_cons_zero, List.getElem_cons_succ, Act.put, List.setIfInBounds_toArray, List.set_cons_zero, List.set_cons_succ]))
  refine wpT_one (k := 6) rfl (by kernel_rfl) (fun K hK => ?_)
  go_simp
  refine (HC.out _ (HB.out.trans (B1.out.mono HB.out.size))).mono ?_
  rintro r w2 ⟨rfl, hb5⟩
  have X2 := hid (X1.out.below hb5)
  have B2 := hid (B1.out.trans (hb5.mono B1.out.size))
  clear hb5
  go_wp2_with fail
  refine hK.out _ _ ?_ (fun hHeld => ?_)
  · exact ⟨X2.out.cell (i := 0) rfl, X2.out.cell (i := 1) rfl, X2, B2⟩
  clear hK K
  (try simp only [Act.put, List.setIfInBounds_toArray, List.set_cons_zero, List.set_cons_succ])
  repeat ((first | refine tk 0 ?_ rfl ?_ ?_ | refine tk 1 ?_ rfl ?_ ?_ | refine tk 3 ?_ rfl ?_ ?_ | refine tk 4 ?_ rfl ?_ ?_ | refine tk 5 ?_ rfl ?_ ?_ | refine tk 7 ?_ rfl ?_ ?_); rotate_left; (intro wy hSw; (try dsimp only at hSw); (go_simp <;> with_reducible rfl)); (try simp only [List.getElem_toArray, List.getElem_cons_zero, List.getElem_cons_succ, Act.put, List.setIfInBounds_toArray, List.set_cons_zero, List.set_cons_succ]))
  refine wpT_done (by kernel_rfl) ?_
  go_wp2_with fail
  go_ret
  exact ⟨by rfl, B2.out⟩
set_option maxRecDepth 100000 in
set_option maxHeartbeats 4000000 in
theorem wFunc_any (W w : World) (cs : List Value) (y : D_api_Func) (_hb : Below W.heap.size W w) (hf : fFunc y = 0) (hR : R_api_Func W cs y) :
    Calls Tryz.prog 21 #[.agg cs.toArray] w fun e w' => e = .returned (.string (wFunc y)) ∧ Below w.heap.size w w' := by
  obtain ⟨_, _, rfl, ⟨rfl, hw1⟩, _, _, rfl, h1, _, _, rfl, h2, rfl⟩ := hR
  obtain ⟨u1, rfl⟩ := sl_one h1
  have K1 := hid h1
  obtain ⟨a1, k1, rfl, kb1, kc1, _⟩ := sl_shape h1
  clear h1
  obtain ⟨u2, rfl⟩ := sl_one h2
  have K2 := hid h2
  obtain ⟨a2, k2, rfl, kb2, kc2, _⟩ := sl_shape h2
  clear h2
  obtain ⟨g2, g3, _, _⟩ := gFunc hf
  obtain ⟨t, ht⟩ := Int.eq_ofNat_of_zero_le g2
  rw [ht] at g3
  have HC := hid (fun wx => num_any t (by omega) wx)
  unfold wFunc
  rw [ht]
  have b0 := (Below.refl w.heap.size w).alloc (Nat.le_refl _) (.cells #[.int .i64 (t : Int), .slice a1 y.2.1.length k1, .slice a2 y.2.2.1.length k2] 59)
  have B0 := hid b0
  clear b0 hf g2 g3 ht hw1
  go_enter Tryz.func21, Tryz.ntmps21
  go_wp2_with fail
  refine (HC.out _).mono ?_
  rintro r w1 ⟨rfl, hb1⟩
  go_wp2_with fail
  go_ret
  exact ⟨rfl, B0.out.trans (hb1.mono B0.out.size)⟩
theorem wCode_any (W w : World) (cs : List Value) (y : D_api_Func) (hb : Below W.heap.size W w) (hf : fFunc y = 0) (hR : R_api_Func W cs y) :
    Calls Tryz.prog 29 #[.agg cs.toArray] w fun e w' => e = .returned (.string (wCode y)) ∧ Below w.heap.size w w' := by
  obtain ⟨_, _, rfl, ⟨rfl, hw1⟩, _, _, rfl, h1, _, _, rfl, h2, rfl⟩ := hR
  obtain ⟨u1, rfl⟩ := sl_one h1
  have K1 := h1
  obtain ⟨a1, k1, rfl, kb1, kc1, _⟩ := sl_shape h1
  obtain ⟨u2, rfl⟩ := sl_one h2
  have K2 := h2
  obtain ⟨a2, k2, rfl, kb2, kc2, _⟩ := sl_shape h2
  obtain ⟨_, _, g1, g2⟩ := gFunc hf
  obtain ⟨hbd, hok⟩ := body_of K2
  exact code_any W w _ a1 k1 y.2.1 a2 y.2.2.1.length k2 (nwM (y.2.2.1.map itOf)) _ hb (kinds_of K1) g1 g2 (Nat.le_trans (nwM_size _) (by decide)) (fun wx hx => nwrite_any wx _ _ hok (hbd.below hx))
set_option maxRecDepth 100000 in
set_option maxHeartbeats 4000000 in
theorem wData_any (W w : World) (cs : List Value) (y : D_api_Data) (hb : Below W.heap.size W w) (hf : fData y = 0) (hR : R_api_Data W cs y) :
    Calls Tryz.prog 31 #[.agg cs.toArray] w fun e w' => e = .returned (.string (wData y)) ∧ Below w.heap.size w w' := by
  obtain ⟨_, _, rfl, ⟨rfl, _⟩, _, _, rfl, ⟨rfl, hw1⟩, rfl⟩ := hR
  obtain ⟨g1, g2, g3⟩ := gData hf
  obtain ⟨A, hA⟩ : ∃ A, S (encS 9 y.1) = A := ⟨_, rfl⟩
  have HA := hid (fun wx (hx : Below W.heap.size W wx) => s_any y.1 (by omega) (by omega) _ rfl wx)
  rw [hA] at HA
  have sA := encS9_size y.1
  rw [hA] at sA
  have EA := hid hA
  clear hA
  obtain ⟨C, hC⟩ : ∃ C, numB (y.2.1.size : Int) = C := ⟨_, rfl⟩
  have HC := hid (fun wx (hx : Below W.heap.size W wx) => num_any y.2.1.size (by omega) wx)
  rw [hC] at HC
  have sC := numB_size (y.2.1.size : Int)
  rw [hC] at sC
  have EC := hid hC
  clear hC
  have HWD := hid (show wData y = S [0, 65] ++ A ++ S [11] ++ C ++ y.2.1 from by unfold wData placeB; rw [EA.out, EC.out])
  rw [HWD.out]
  have HB := hid hb
  have hX := Blk.new w #[.int .i64 y.1, .string y.2.1] 78 _ rfl
  have X0 := hid (hX.below (Below.refl _ _).drew)
  have b0 := (Below.refl w.heap.size w).alloc (Nat.le_refl _) (.cells #[.int .i64 y.1, .string y.2.1] 78)
  have B0 := hid b0.drew
  have q1 : ¬ 9223372036854775807 < 2 + A.size := by omega
  have q2 : ¬ 9223372036854775807 < 2 + A.size + 1 := by omega
  have q3 : ¬ 9223372036854775807 < 2 + A.size + 1 + C.size := by omega
  have q4 : ¬ 9223372036854775807 < 2 + A.size + 1 + C.size + y.2.1.size := by omega
  clear sA sC g1 g2 g3 hw1
  clear hX b0 hb hf
  go_enter Tryz.func31, Tryz.ntmps31
  go_wp2_with fail
  refine wp_region_tail (S := (fun w' => w'.cell? ⟨w.heap.size, 0, none⟩ = some (.int .i64 y.1) ∧ w'.cell? ⟨w.heap.size, 1, none⟩ = some (.string y.2.1) ∧ Hid (Blk w' w.heap.size 78 [.int .i64 y.1, .string y.2.1]) ∧ Hid (Below w.heap.size w w'))) 13 (by kernel_rfl) (by kernel_rfl) ?_ (fun hHeld => ?_)
  · exact ⟨X0.out.cell (i := 0) rfl, X0.out.cell (i := 1) rfl, X0, B0⟩
  repeat ((first | refine tk 0 ?_ rfl ?_ ?_ | refine tk 1 ?_ rfl ?_ ?_ | refine tk 3 ?_ rfl ?_ ?_ | refine tk 4 ?_ rfl ?_ ?_ | refine tk 5 ?_ rfl ?_ ?_ | refine tk 6 ?_ rfl ?_ ?_ | refine tk 7 ?_ rfl ?_ ?_ | refine tk 9 ?_ rfl ?_ ?_ | refine tk 10 ?_ rfl ?_ ?_ | refine tk 11 ?_ rfl ?_ ?_ | refine tk 12 ?_ rfl ?_ ?_); rotate_left; (intro wy hSw; (try dsimp only at hSw); (go_simp <;> with_reducible rfl)); (try simp only [List.getElem_toArray, List.getElem_cons_zero, List.getElem_cons_succ, Act.put, List.setIfInBounds_toArray, List.set_cons_zero, List.set_cons_succ]))
  refine wpT_one (k := 2) rfl (by kernel_rfl) (fun K hK => ?_)
  go_simp
  refine (HA.out _ (HB.out.trans (B0.out.mono HB.out.size))).mono ?_
  rintro r w1 ⟨rfl, hb5⟩
  have X1 := hid (X0.out.below hb5)
  have B1 := hid (B0.out.trans (hb5.mono B0.out.size))
  clear hb5
  go_wp2_with fail
  refine hK.out _ _ ?_ (fun hHeld => ?_)
  · exact ⟨X1.out.cell (i := 0) rfl, X1.out.cell (i := 1) rfl, X1, B1⟩
  clear hK K
  (try simp only [Act.put, List.setIfInBounds_toArray, List.set_cons_zero, List.set_cons_succ])
  repeat ((first | refine tk 0 ?_ rfl ?_ ?_ | refine tk 1 ?_ rfl ?_ ?_ | refine tk 3 ?_ rfl ?_ ?_ | refine tk 4 ?_ rfl ?_ ?_ | refine tk 5 ?_ rfl ?_ ?_ | refine tk 6 ?_ rfl ?_ ?_ | refine tk 7 ?_ rfl ?_ ?_ | refine tk 9 ?_ rfl ?_ ?_ | refine tk 10 ?_ rfl ?_ ?_ | refine tk 11 ?_ rfl ?_ ?_ | refine tk 12 ?_ rfl ?_ ?_); rotate_left; (intro wy hSw; (try dsimp only at hSw); (go_simp <;> with_reducible rfl)); (try simp only [List.getElem_toArray, List.getElem_cons_zero, List.getElem_cons_succ, Act.put, List.setIfInBounds_toArray, List.set_cons_zero, List.set_cons_succ]))
  refine wpT_one (k := 8) rfl (by kernel_rfl) (fun K hK => ?_)
  go_simp
  refine (HC.out _ (HB.out.trans (B1.out.mono HB.out.size))).mono ?_
  rintro r w2 ⟨rfl, hb5⟩
  have X2 := hid (X1.out.below hb5)
  have B2 := hid (B1.out.trans (hb5.mono B1.out.size))
  clear hb5
  go_wp2_with fail
  refine hK.out _ _ ?_ (fun hHeld => ?_)
  · exact ⟨X2.out.cell (i := 0) rfl, X2.out.cell (i := 1) rfl, X2, B2⟩
  clear hK K
  (try simp only [Act.put, List.setIfInBounds_toArray, List.set_cons_zero, List.set_cons_succ])
  repeat ((first | refine tk 0 ?_ rfl ?_ ?_ | refine tk 1 ?_ rfl ?_ ?_ | refine tk 3 ?_ rfl ?_ ?_ | refine tk 4 ?_ rfl ?_ ?_ | refine tk 5 ?_ rfl ?_ ?_ | refine tk 6 ?_ rfl ?_ ?_ | refine tk 7 ?_ rfl ?_ ?_ | refine tk 9 ?_ rfl ?_ ?_ | refine tk 10 ?_ rfl ?_ ?_ | refine tk 11 ?_ rfl ?_ ?_ | refine tk 12 ?_ rfl ?_ ?_); rotate_left; (intro wy hSw; (try dsimp only at hSw); (go_simp <;> with_reducible rfl)); (try simp only [List.getElem_toArray, List.getElem_cons_zero, List.getElem_cons_succ, Act.put, List.setIfInBounds_toArray, List.set_cons_zero, List.set_cons_succ]))
  refine wpT_done (by kernel_rfl) ?_
  go_wp2_with fail
  go_ret
  exact ⟨by rfl, B2.out⟩
set_option maxRecDepth 100000 in
set_option maxHeartbeats 4000000 in
theorem wElem_any (W w : World) (cs : List Value) (y : D_api_Elem) (hb : Below W.heap.size W w) (hf : fElem y = 0) (hR : R_api_Elem W cs y) :
    Calls Tryz.prog 27 #[.agg cs.toArray] w fun e w' => e = .returned (.string (wElem y)) ∧ Below w.heap.size w w' := by
  obtain ⟨_, _, rfl, ⟨rfl, _⟩, _, _, rfl, h1, rfl⟩ := hR
  obtain ⟨u1, rfl⟩ := sl_one h1
  have K1 := hid h1
  obtain ⟨a1, k1, rfl, kb1, kc1, _⟩ := sl_shape h1
  clear h1
  obtain ⟨g1, g2, g3, g4⟩ := gElem hf
  obtain ⟨A, hA⟩ : ∃ A, S (encS 9 y.1) = A := ⟨_, rfl⟩
  have HA := hid (fun wx (hx : Below W.heap.size W wx) => s_any y.1 (by omega) (by omega) _ rfl wx)
  rw [hA] at HA
  have sA := encS9_size y.1
  rw [hA] at sA
  have EA := hid hA
  clear hA
  obtain ⟨C, hC⟩ : ∃ C, numB (y.2.1.length : Int) = C := ⟨_, rfl⟩
  have HC := hid (fun wx (hx : Below W.heap.size W wx) => num_any y.2.1.length (by omega) wx)
  rw [hC] at HC
  have sC := numB_size (y.2.1.length : Int)
  rw [hC] at sC
  have EC := hid hC
  clear hC
  have HWD := hid (show wElem y = S [0, 65] ++ A ++ S [11] ++ C ++ catB numB y.2.1 from by unfold wElem placeB; rw [EA.out, EC.out])
  rw [HWD.out]
  have HL := hid (ints_of K1.out)
  have HY := hid g4
  have HNX := hid (fun (b : ByteArray) k (hk : k < y.2.1.length) => catB_more numB y.2.1 k hk b)
  have HCS := hid (fun k => catB_size numB 10 (y.2.1.take k) (fun x _ => numB_size x))
  generalize hl : y.2.1 = ys at *
  obtain ⟨N, hN⟩ : ∃ N, ys.length = N := ⟨_, rfl⟩
  have HLN := hid hN
  rw [hN] at HC HL kb1 EC g3
  rw [hN]
  have HB := hid hb
  have hX := Blk.new w #[.int .i64 y.1, .slice a1 N k1] 73 _ rfl
  have X0 := hid (hX.below (Below.refl _ _).drew)
  have b0 := (Below.refl w.heap.size w).alloc (Nat.le_refl _) (.cells #[.int .i64 y.1, .slice a1 N k1] 73)
  have B0 := hid b0.drew
  have q1 : ¬ 9223372036854775807 < 2 + A.size := by omega
  have q2 : ¬ 9223372036854775807 < 2 + A.size + 1 := by omega
  have q3 : ¬ 9223372036854775807 < 2 + A.size + 1 + C.size := by omega
  have hs0 : (S [0, 65] ++ A ++ S [11] ++ C).size ≤ 50 := by rw [ba_size, ba_size, ba_size]; have h1 : (S [0, 65]).size = 2 := S_size _; have h2 : (S [11]).size = 1 := S_size _; omega
  have HS0 := hid hs0
  have hN9 : (N : Int) ≤ 16 := by omega
  clear sA sC g1 g2 g3 g4 hs0 hN hl
  clear hX b0 hb hf
  go_enter Tryz.func27, Tryz.ntmps27
  go_wp2_with fail
  refine wp_region_tail (S := (fun w' => w'.cell? ⟨w.heap.size, 0, none⟩ = some (.int .i64 y.1) ∧ w'.cell? ⟨w.heap.size, 1, none⟩ = some (.slice a1 N k1) ∧ Hid (Blk w' w.heap.size 73 [.int .i64 y.1, .slice a1 N k1]) ∧ Hid (Below w.heap.size w w'))) 10 (by kernel_rfl) (by kernel_rfl) ?_ (fun hHeld => ?_)
  · exact ⟨X0.out.cell (i := 0) rfl, X0.out.cell (i := 1) rfl, X0, B0⟩
  repeat ((first | refine tk 0 ?_ rfl ?_ ?_ | refine tk 1 ?_ rfl ?_ ?_ | refine tk 3 ?_ rfl ?_ ?_ | refine tk 4 ?_ rfl ?_ ?_ | refine tk 5 ?_ rfl ?_ ?_ | refine tk 6 ?_ rfl ?_ ?_ | refine tk 7 ?_ rfl ?_ ?_ | refine tk 9 ?_ rfl ?_ ?_); rotate_left; (intro wy hSw; (try dsimp only at hSw); (go_simp <;> with_reducible rfl)); (try simp only [List.getElem_toArray, List.getElem_cons_zero, List.getElem_cons_succ, Act.put, List.setIfInBounds_toArray, List.set_cons_zero, List.set_cons_succ]))
  refine wpT_one (k := 2) rfl (by kernel_rfl) (fun K hK => ?_)
  go_simp
  refine (HA.out _ (HB.out.trans (B0.out.mono HB.out.size))).mono ?_
  rintro r w1 ⟨rfl, hb5⟩
  have X1 := hid (X0.out.below hb5)
  have B1 := hid (B0.out.trans (hb5.mono B0.out.size))
  clear hb5
  go_wp2_with fail
  refine hK.out _ _ ?_ (fun hHeld => ?_)
  · exact ⟨X1.out.cell (i := 0) rfl, X1.out.cell (i := 1) rfl, X1, B1⟩
  clear hK K
  (try simp only [Act.put, List.setIfInBounds_toArray, List.set_cons_zero, List.set_cons_succ])
  repeat ((first | refine tk 0 ?_ rfl ?_ ?_ | refine tk 1 ?_ rfl ?_ ?_ | refine tk 3 ?_ rfl ?_ ?_ | refine tk 4 ?_ rfl ?_ ?_ | refine tk 5 ?_ rfl ?_ ?_ | refine tk 6 ?_ rfl ?_ ?_ | refine tk 7 ?_ rfl ?_ ?_ | refine tk 9 ?_ rfl ?_ ?_); rotate_left; (intro wy hSw; (try dsimp only at hSw); (go_simp <;> with_reducible rfl)); (try simp only [List.getElem_toArray, List.getElem_cons_zero, List.getElem_cons_succ, Act.put, List.setIfInBounds_toArray, List.set_cons_zero, List.set_cons_succ]))
  refine wpT_one (k := 8) rfl (by kernel_rfl) (fun K hK => ?_)
  go_simp
  refine (HC.out _ (HB.out.trans (B1.out.mono HB.out.size))).mono ?_
  rintro r w2 ⟨rfl, hb5⟩
  have X2 := hid (X1.out.below hb5)
  have B2 := hid (B1.out.trans (hb5.mono B1.out.size))
  clear hb5
  go_wp2_with fail
  refine hK.out _ _ ?_ (fun hHeld => ?_)
  · exact ⟨X2.out.cell (i := 0) rfl, X2.out.cell (i := 1) rfl, X2, B2⟩
  clear hK K
  (try simp only [Act.put, List.setIfInBounds_toArray, List.set_cons_zero, List.set_cons_succ])
  repeat ((first | refine tk 0 ?_ rfl ?_ ?_ | refine tk 1 ?_ rfl ?_ ?_ | refine tk 3 ?_ rfl ?_ ?_ | refine tk 4 ?_ rfl ?_ ?_ | refine tk 5 ?_ rfl ?_ ?_ | refine tk 6 ?_ rfl ?_ ?_ | refine tk 7 ?_ rfl ?_ ?_ | refine tk 9 ?_ rfl ?_ ?_); rotate_left; (intro wy hSw; (try dsimp only at hSw); (go_simp <;> with_reducible rfl)); (try simp only [List.getElem_toArray, List.getElem_cons_zero, List.getElem_cons_succ, Act.put, List.setIfInBounds_toArray, List.set_cons_zero, List.set_cons_succ]))
  refine wpT_done (by kernel_rfl) ?_
  go_wp2_with fail
  clear hHeld
  have c1 := X2.out.cell (i := 1) rfl
  go_wp2_with fail
  clear c1
  rw [show (ByteArray.mk #[0, 65] ++ A ++ ByteArray.mk #[11] ++ C) = S [0, 65] ++ A ++ S [11] ++ C from rfl]
  generalize hP : S [0, 65] ++ A ++ S [11] ++ C = P at *
  have HP := hid hP
  clear hP
  go_loopw [3, 5, 19] (fun o _ i wr => ∃ (k : Nat) (b : ByteArray), k ≤ N ∧ i = .int .i64 k ∧ o = .string b ∧ Hid (b = P ++ catB numB (ys.take k)) ∧ Hid (Below w.heap.size w wr)) (fun _ _ i _ => N - (RowKit.intOf i).toNat)
  case atStart => exact ⟨0, _, Nat.zero_le _, rfl, rfl, hid (ba_nil _).symm, B2⟩
  case round =>
    obtain ⟨k, b, hk, rfl, rfl, HBK, BW⟩ := hrel
    by_cases hlt : k < N
    · have hkl : k < ys.length := by rw [HLN.out]; exact hlt
      have hI := L1.below HL.out (HB.out.trans (BW.out.mono HB.out.size))
      rcases hI.open with ⟨_, _, _, e, _⟩ | ⟨lb, lo, cap', hv, _, hcap3, hcap2, hc⟩
      · rw [e] at hkl; simp at hkl
      simp only [Value.slice.injEq] at hv
      obtain ⟨rfl, -, rfl⟩ := hv
      have y0 := hc k hkl
      have HNK := hid (HNX.out P k hkl)
      have hy1 := HY.out _ (List.getElem_mem hkl)
      have hbs : b.size ≤ 300 := by
        rw [HBK.out, ba_size]
        have h1 := HS0.out
        have h2 := HCS.out k
        rw [List.length_take] at h2
        omega
      clear hc hI hcap3
      generalize ys[k] = z at *
      clear hkl
      obtain ⟨t, rfl⟩ := Int.eq_ofNat_of_zero_le hy1.1
      have hn1 := num_any t (by omega)
      have HNT := hid hn1
      have hsz := numB_size (t : Int)
      have hcat : ¬ 9223372036854775807 < b.size + (numB (t : Int)).size := by omega
      clear hy1 hbs hn1 hsz
      go_wp2_with fail
      refine (HNT.out _).mono ?_
      rintro r w3 ⟨rfl, hb3⟩
      have B3 := hid (BW.out.trans (hb3.mono BW.out.size))
      clear hb3
      go_wp2_with fail
      go_roundw
      case rel => exact ⟨k + 1, _, by omega, by go_num, rfl, hid (by rw [HBK.out, ← HNK.out]), B3⟩
      case measure => simp [RowKit.intOf]; omega
    · obtain rfl : k = N := by omega
      go_wp2_with fail
      go_ret
      exact ⟨congrArg (fun x => Ending.returned (.string x)) (show b = _ from by rw [HBK.out, ← HLN.out, List.take_length, ← HP.out]), BW.out⟩
end Go.Proofs.YthoalneknadheaaGreatDoor
