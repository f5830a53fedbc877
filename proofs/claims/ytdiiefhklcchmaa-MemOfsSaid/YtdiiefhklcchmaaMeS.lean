/-
  MEMORIES: isSigned, low. Condition: numbers of their kinds.
-/
import Derived.Test.YtdiiefhklcchmaaMeA
import Derived.Laws.ShiftsVarLaws
import Derived.IntWalk
namespace Go.Proofs.Ytdiiefhklcchmaa
open Go.RowKit Go.Lib
attribute [local go_sem ↓] Go.wp_at_zero Go.wp_at_succ

set_option maxRecDepth 100000 in
set_option maxHeartbeats 2000000 in
theorem msg_any (op : Nat) (w : World) : Calls Try.prog 26 #[.int .u8 op] w fun e w' => e = .returned (.bool (isSg op)) ∧ w = w' := by
  by_cases h : op = 40 ∨ op = 41 ∨ op = 44 ∨ op = 46 ∨ op = 48 ∨ op = 50 ∨ op = 52
  · rcases h with rfl | rfl | rfl | rfl | rfl | rfl | rfl
    all_goals
      go_enter Try.func26, Try.ntmps26
      go_wp2_with fail
      go_ret
      exact ⟨rfl, rfl⟩
  · have HR := hid (show isSg op = false from by unfold isSg; exact decide_eq_false (by omega))
    have e40 : ((op : Int) == 40) = false := beq_eq_false_iff_ne.2 (by omega)
    have e41 : ((op : Int) == 41) = false := beq_eq_false_iff_ne.2 (by omega)
    have e44 : ((op : Int) == 44) = false := beq_eq_false_iff_ne.2 (by omega)
    have e46 : ((op : Int) == 46) = false := beq_eq_false_iff_ne.2 (by omega)
    have e48 : ((op : Int) == 48) = false := beq_eq_false_iff_ne.2 (by omega)
    have e50 : ((op : Int) == 50) = false := beq_eq_false_iff_ne.2 (by omega)
    have e52 : ((op : Int) == 52) = false := beq_eq_false_iff_ne.2 (by omega)
    clear h
    go_enter Try.func26, Try.ntmps26
    go_wp2_with fail
    go_ret
    rw [HR.out]
    exact ⟨rfl, rfl⟩
theorem low1 {n : Int} : wrap64 (n * 72057594037927936) / 72057594037927936 = n.bmod 256 := by rw [Int.bmod_def]; unfold wrap64; split <;> omega
theorem low2 {n : Int} : wrap64 (n * 281474976710656) / 281474976710656 = n.bmod 65536 := by rw [Int.bmod_def]; unfold wrap64; split <;> omega
theorem low4 {n : Int} : wrap64 (n * 4294967296) / 4294967296 = n.bmod 4294967296 := by rw [Int.bmod_def]; unfold wrap64; split <;> omega
theorem low8 {n : Int} : wrap64 n = n.bmod 18446744073709551616 := by rw [Int.bmod_def]; unfold wrap64; split <;> omega
set_option maxRecDepth 100000 in
set_option maxHeartbeats 2000000 in
theorem mlow_any (n : Int) (wd : Nat) (hw : wd = 1 ∨ wd = 2 ∨ wd = 4 ∨ wd = 8) (h0 : 0 ≤ n) (h1 : n < 2 ^ (8 * wd)) (w : World) : Calls Try.prog 27 #[.int .u64 n, .int .i64 wd] w fun e w' => e = .returned (.int .i64 (n.bmod (2 ^ (8 * wd)))) ∧ w = w' := by
  rcases hw with rfl | rfl | rfl | rfl
  all_goals
    go_enter Try.func27, Try.ntmps27
    go_wp2_with fail
    go_ret
    first
      | exact ⟨by rw [show n.bmod (2 ^ (8 * 1)) = n.bmod 256 from rfl, ← low1]; rfl, rfl⟩
      | exact ⟨by rw [show n.bmod (2 ^ (8 * 2)) = n.bmod 65536 from rfl, ← low2]; rfl, rfl⟩
      | exact ⟨by rw [show n.bmod (2 ^ (8 * 4)) = n.bmod 4294967296 from rfl, ← low4]; rfl, rfl⟩
      | exact ⟨by rw [show n.bmod (2 ^ (8 * 8)) = n.bmod 18446744073709551616 from rfl, ← low8]; rfl, rfl⟩
end Go.Proofs.Ytdiiefhklcchmaa
