/-
  THE LAW NumTwos: the program's instructions of two numbers and the reference's are one, for all numbers. No condition.
-/
import Derived.Test.YtomaiolhaenmhaaWbj
import Derived.Test.YtomaiolhaenmhaaWbk
import Derived.Test.YtomaiolhaenmhaaDec
namespace Go.Proofs.Ytomaiolhaenmhaa
open Go.RowKit

set_option maxRecDepth 100000 in
set_option maxHeartbeats 1000000 in
theorem law_NumTwos (v0 v1 v2 : Value) (x0 x1 x2 : Int) (W : World) (i0 : IsInt .u8 W v0 x0) (i1 : IsInt .i64 W v1 x1) (i2 : IsInt .i64 W v2 x2) :
    Calls Try.prog 4 #[v0, v1, v2] W fun e w' => e = .returned (.bool true) ∧ Below W.heap.size W w' := by
  obtain ⟨rfl, h0⟩ := i0
  obtain ⟨rfl, h1⟩ := i1
  obtain ⟨rfl, h2⟩ := i2
  have h0' : 0 ≤ x0 ∧ x0 < 256 := by simp [Lit.wf, IntKind.min, IntKind.max, IntKind.signed, IntKind.bits] at h0; omega
  have h1' : -9223372036854775808 ≤ x1 ∧ x1 < 9223372036854775808 := by simp [Lit.wf, IntKind.min, IntKind.max, IntKind.signed, IntKind.bits] at h1; omega
  have h2' : -9223372036854775808 ≤ x2 ∧ x2 < 9223372036854775808 := by simp [Lit.wf, IntKind.min, IntKind.max, IntKind.signed, IntKind.bits] at h2; omega
  clear h0 h1 h2
  obtain ⟨n, rfl⟩ := Int.eq_ofNat_of_zero_le h0'.1
  have hn : n < 256 := by omega
  have c1 := fun w => ptwo_any n hn x1 x2 h1' h2' w
  have c2 := fun w => rtwo_any n hn x1 x2 w
  generalize twoN n x1 x2 = a at *
  generalize twoE n x1 x2 = b at *
  have C1 := hid c1
  have C2 := hid c2
  clear c1 c2 hn h0' h1' h2'
  go_enter Try.func4, Try.ntmps4
  go_wp2_with fail
  refine (C1.out _).mono ?_
  rintro e w1 ⟨rfl, b1⟩
  have B1 := hid b1
  clear b1
  go_wp2_with fail
  refine (C2.out _).mono ?_
  rintro e w2 ⟨rfl, b2⟩
  have B2 := hid b2
  clear b2
  go_wp2_with fail
  go_ret
  exact ⟨rfl, B1.out.trans (B2.out.mono B1.out.size)⟩
end Go.Proofs.Ytomaiolhaenmhaa
