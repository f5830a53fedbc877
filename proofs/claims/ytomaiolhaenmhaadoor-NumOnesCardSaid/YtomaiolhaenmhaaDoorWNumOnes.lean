/-
  THE LAW NumOnes: the program's instructions of one number, and Fit, and the reference's are one, for all numbers. Condition: math/bits' two tables hold what the row lists.
-/
import Derived.Test.YtomaiolhaenmhaaDoorOne
import Derived.Test.YtomaiolhaenmhaaDoorDec
import Derived.Test.YtomaiolhaenmhaaDoorRows
import Derived.Lib.LaidU8
namespace Go.Proofs.YtomaiolhaenmhaaDoor
open Go.RowKit

theorem tab_of_reads {P : Program} {w : World} {n : String} {k : IntKind} {zs : List Int} {g t e N : Nat} (hg : P.globalNamed n = some g) (hty : (P.globals[g]?).map (·.type) = some t) (ht : P.underlying t = some (.array N e)) (he : P.underlying e = some (.int k)) (hce : P.cellsOf e = 1) (hct : P.cellsOf t = N) (h : Lib.VarReads P w n (Lib.tabData k zs)) (j : Nat) (hj : j < zs.length) : w.cell? ⟨g, j, none⟩ = some (.int k (zs.getD j 0)) := by
  obtain ⟨g', t', cs, fuel, p, hg', hty', hvar, hd⟩ := h
  obtain rfl := Option.some.inj (hg.symm.trans hg')
  obtain rfl := Option.some.inj (hty.symm.trans hty')
  have hcs := Lib.cells_of_tab ht he hce hct hd
  have := World.var?_cell hg hvar j
  rw [this, ← Array.getElem?_toList, hcs]
  simp [List.getD, hj]
theorem laid32 : (Rows.laid_math_bits_deBruijn32tab : DataW Unit) = Lib.tabData .u8 (Lib.deBruijn32tab.map (fun n : Nat => (n : Int))) := by kernel_rfl
theorem laid64 : (Rows.laid_math_bits_deBruijn64tab : DataW Unit) = Lib.tabData .u8 (Lib.deBruijn64tab.map (fun n : Nat => (n : Int))) := by kernel_rfl
theorem tabs_of_laid {W : World} (hL : laidMet Tryd.prog Rows.numOnesRow.laid W) : Tabs W := by
  constructor
  · intro j hj
    have h := Lib.laidMet.reads hL (n := "math/bits.deBruijn32tab") (d := Rows.laid_math_bits_deBruijn32tab) (by simp [Rows.numOnesRow])
    rw [laid32] at h
    have h2 := tab_of_reads (g := 2) (t := 64) (e := 5) (N := 32) (by kernel_rfl) (by kernel_rfl) (by kernel_rfl) (by kernel_rfl) (by kernel_rfl) (by kernel_rfl) h j (by rw [List.length_map]; exact hj)
    rw [h2, List.getD_eq_getElem?_getD, List.getElem?_map, List.getD_eq_getElem?_getD, List.getElem?_eq_getElem hj]
    rfl
  · intro j hj
    have h := Lib.laidMet.reads hL (n := "math/bits.deBruijn64tab") (d := Rows.laid_math_bits_deBruijn64tab) (by simp [Rows.numOnesRow])
    rw [laid64] at h
    have h2 := tab_of_reads (g := 3) (t := 65) (e := 5) (N := 64) (by kernel_rfl) (by kernel_rfl) (by kernel_rfl) (by kernel_rfl) (by kernel_rfl) (by kernel_rfl) h j (by rw [List.length_map]; exact hj)
    rw [h2, List.getD_eq_getElem?_getD, List.getElem?_map, List.getD_eq_getElem?_getD, List.getElem?_eq_getElem hj]
    rfl

set_option maxRecDepth 100000 in
set_option maxHeartbeats 1000000 in
theorem law_NumOnes (v0 v1 v2 : Value) (x0 x1 x2 : Int) (W : World) (i0 : IsInt .u8 W v0 x0) (i1 : IsInt .i64 W v1 x1) (i2 : IsInt .u8 W v2 x2) (hL : laidMet Tryd.prog Rows.numOnesRow.laid W) :
    Calls Tryd.prog 4 #[v0, v1, v2] W fun e w' => e = .returned (.bool true) ∧ Below W.heap.size W w' := by
  obtain ⟨rfl, h0⟩ := i0
  obtain ⟨rfl, h1⟩ := i1
  obtain ⟨rfl, h2⟩ := i2
  have h0' : 0 ≤ x0 ∧ x0 < 256 := by simp [Lit.wf, IntKind.min, IntKind.max, IntKind.signed, IntKind.bits] at h0; omega
  have h1' : -9223372036854775808 ≤ x1 ∧ x1 < 9223372036854775808 := by simp [Lit.wf, IntKind.min, IntKind.max, IntKind.signed, IntKind.bits] at h1; omega
  clear h0 h1 h2
  have hT := hid (tabs_of_laid hL)
  clear hL
  obtain ⟨n, rfl⟩ := Int.eq_ofNat_of_zero_le h0'.1
  obtain ⟨x, y, c1, c2⟩ := one_both n x1 h1'
  have C1 := hid c1
  have C2 := hid c2
  have C3 := hid (fun w => fit_any x2 x1 w)
  have C4 := hid (fun w => rfit_any x2 x1 w)
  generalize fitM x2 x1 = z at *
  clear c1 c2 h0' h1'
  go_enter Tryd.func4, Tryd.ntmps4
  go_wp2_with fail
  refine (C1.out _ hT.out).mono ?_
  rintro e w1 ⟨rfl, b1⟩
  have B1 := hid b1
  clear b1
  go_wp2_with fail
  refine (C2.out _).mono ?_
  rintro e w2 ⟨rfl, b2⟩
  have B2 := hid (B1.out.trans (b2.mono B1.out.size))
  clear b2
  go_wp2_with (first | (go_at_call 11; refine (C3.out _).mono ?_; rintro r w3 ⟨rfl, rfl⟩) | (go_at_call 12; refine (C4.out _).mono ?_; rintro r w4 ⟨rfl, b4⟩; have B4 := hid (B2.out.trans (b4.mono B2.out.size)); clear b4))
  go_ret
  exact ⟨rfl, B4.out⟩
end Go.Proofs.YtomaiolhaenmhaaDoor
