/-
  THE REFERENCE's outside. No condition.
-/
import Derived.Test.YtalookaaogiinaaBase
namespace Go.Proofs.Ytalookaaogiinaa
open Go.RowKit

set_option maxRecDepth 100000 in
theorem outs_any (n lo hi : Int) (w : World) : Calls Try.prog 42 #[.int .i64 n, .int .i64 lo, .int .i64 hi] w fun e w' => e = .returned (.bool (decide (n < lo ∨ hi < n))) ∧ w = w' := by
  by_cases h : n < lo
  · have e : decide (n < lo ∨ hi < n) = true := decide_eq_true (.inl h)
    rw [e]
    go_enter Try.func42, Try.ntmps42
    go_wp2_with fail
    go_ret
    exact ⟨retB (by simp <;> omega), rfl⟩
  · have h1 : lo ≤ n := by omega
    have e : decide (n < lo ∨ hi < n) = decide (hi < n) := decide_eq_decide.2 (by omega)
    rw [e]
    go_enter Try.func42, Try.ntmps42
    go_wp2_with fail
    go_ret
    exact ⟨retB (by simp <;> omega), rfl⟩
end Go.Proofs.Ytalookaaogiinaa
