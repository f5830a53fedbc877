/-
  INSTRUCTIONS: Write, both sides, whole. Conditions: the number is a byte; for the reference: the library's variable that strings.Contains reads holds some number.
-/
import Derived.Test.YtomaiolhaenmhaaInX
import Derived.Test.YtomaiolhaenmhaaInS
namespace Go.Proofs.Ytomaiolhaenmhaa
open Go.RowKit Go.Lib

/-- what Write says, whole -/
def wrT (op : Nat) (A B : Int) (xs : List Int) : ByteArray := if chkI (tB op) A B xs = 0 then S (wrI (tB op) op A B xs) else ⟨#[]⟩
theorem pinsW_any (op : Nat) (hop : op < 256) (A B : Int) (hA : -9223372036854775808 ≤ A ∧ A ≤ 9223372036854775807) (xs : List Int) (v : Value) (w : World) (hx : Ints w .i64 v xs) :
    Calls Try.prog 52 #[insV op A B v] w fun e w' => e = .returned (.tuple #[.string (wrT op A B xs), .int .i64 (chkI (tB op) A B xs)]) ∧ Below w.heap.size w w' := by
  unfold wrT
  by_cases hc : chkI (tB op) A B xs = 0
  · rw [if_pos hc, hc]
    have hle := tB_le ⟨op, hop⟩
    simp only at hle
    obtain ⟨h0, _⟩ := chk_ok hc
    rcases (by omega : tB op = 1 ∨ tB op = 2 ∨ tB op = 3 ∨ tB op = 4 ∨ tB op = 5 ∨ tB op = 6 ∨ tB op = 7 ∨ tB op = 8 ∨ tB op = 9) with hk | hk | hk | hk | hk | hk | hk | hk | hk
    all_goals rw [hk] at hc ⊢
    · exact pwr_1 op hop hk A B hA xs v w hx hc
    · exact pwr_2 op hop hk A B hA xs v w hx hc
    · exact pwr_3 op hop hk A B hA xs v w hx hc
    · exact pwr_4 op hop hk A B hA xs v w hx hc
    · exact pwr_5 op hop hk A B hA xs v w hx hc
    · exact pwr_6 op hop hk A B hA xs v w hx hc
    · exact pwr_7 op hop hk A B hA xs v w hx hc
    · exact pwr_8 op hop hk A B hA xs v w hx hc
    · exact pwr_9 op hop hk A B hA xs v w hx hc
  · rw [if_neg hc]
    exact pwr_bad op hop A B hA xs v w hx hc
theorem rinsW_any (op : Nat) (hop : op < 256) (A B : Int) (hA : -9223372036854775808 ≤ A ∧ A ≤ 9223372036854775807) (xs : List Int) (v : Value) (w : World) (hM : MaxL w) (hx : Ints w .i64 v xs) :
    Calls Try.prog 53 #[insV op A B v] w fun e w' => e = .returned (.tuple #[.string (wrT op A B xs), .int .i64 (chkI (tB op) A B xs)]) ∧ Below w.heap.size w w' := by
  unfold wrT
  by_cases hc : chkI (tB op) A B xs = 0
  · rw [if_pos hc, hc]
    have hle := tB_le ⟨op, hop⟩
    simp only at hle
    obtain ⟨h0, _⟩ := chk_ok hc
    rcases (by omega : tB op = 1 ∨ tB op = 2 ∨ tB op = 3 ∨ tB op = 4 ∨ tB op = 5 ∨ tB op = 6 ∨ tB op = 7 ∨ tB op = 8 ∨ tB op = 9) with hk | hk | hk | hk | hk | hk | hk | hk | hk
    all_goals rw [hk] at hc ⊢
    · exact rwr_1 op hop hk A B hA xs v w hM hx hc
    · exact rwr_2 op hop hk A B hA xs v w hM hx hc
    · exact rwr_3 op hop hk A B hA xs v w hM hx hc
    · exact rwr_4 op hop hk A B hA xs v w hM hx hc
    · exact rwr_5 op hop hk A B hA xs v w hM hx hc
    · exact rwr_6 op hop hk A B hA xs v w hM hx hc
    · exact rwr_7 op hop hk A B hA xs v w hM hx hc
    · exact rwr_8 op hop hk A B hA xs v w hM hx hc
    · exact rwr_9 op hop hk A B hA xs v w hM hx hc
  · rw [if_neg hc]
    exact rwr_bad op hop A B xs v w hM hx hc

end Go.Proofs.Ytomaiolhaenmhaa
