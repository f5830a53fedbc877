/-
  THE LAW FrameSums: Sum is the reference's FrameSum, for texts of at most 2^20 bytes.
-/
import Derived.Test.YtbjhedfgnocflaaFsum
import Derived.Test.YtbjhedfgnocflaaOpen
namespace Go.Proofs.Ytbjhedfgnocflaa
open Go.RowKit

set_option maxRecDepth 100000 in
theorem law_FrameSums (v0 : Value) (x0 : ByteArray) (W : World) (i0 : IsStr W v0 x0) (hB : x0.size + 1 + 0 ≤ 1048576) :
    Calls Try.prog 4 #[v0] W fun e w' => e = .returned (.bool true) ∧ Below W.heap.size W w' := by
  obtain ⟨rfl, h0⟩ := i0
  go_enter Try.func4, Try.ntmps4
  go_wp2_with fail
  refine (sum_any _ _ h0).mono ?_
  rintro e w1 ⟨rfl, rfl⟩
  go_wp2_with fail
  refine (fsum_any _ _ (by omega)).mono ?_
  rintro e w1 ⟨rfl, hb⟩
  unfold u32V
  go_wp2_with fail
  go_ret
  exact ⟨rfl, hb⟩
end Go.Proofs.Ytbjhedfgnocflaa
