/-
  INSTRUCTIONS: the reference's InsCheck. Conditions: the number is a byte; the variable of the library that strings.Contains reads holds some number.
-/
import Derived.Test.YtdiiefhklcchmaaDoorInE
import Derived.Test.YtdiiefhklcchmaaDoorInD
namespace Go.Proofs.YtdiiefhklcchmaaDoor
open Go.RowKit Go.Lib
attribute [local go_sem ↓] Go.wp_at_zero Go.wp_at_succ

theorem wide_any (n : Int) (w : World) : Calls Tryd.prog 68 #[.int .i64 n] w fun e w' => e = .returned (.bool (!isIx n)) ∧ w = w' := by
  unfold isIx
  by_cases h1 : n < 0
  · rw [decide_eq_false (show ¬ (0 ≤ n ∧ n ≤ 4294967295) from fun h => by omega)]
    go_enter Tryd.func68, Tryd.ntmps68
    go_wp2_with fail
    go_ret
    exact ⟨rfl, rfl⟩
  · by_cases h2 : 4294967295 < n
    · rw [decide_eq_false (show ¬ (0 ≤ n ∧ n ≤ 4294967295) from fun h => by omega)]
      go_enter Tryd.func68, Tryd.ntmps68
      go_wp2_with fail
      go_ret
      exact ⟨rfl, rfl⟩
    · rw [decide_eq_true (show 0 ≤ n ∧ n ≤ 4294967295 from by omega)]
      go_enter Tryd.func68, Tryd.ntmps68
      go_wp2_with fail
      go_ret
      exact ⟨rfl, rfl⟩
theorem ascii_of (s : ByteArray) (h : s.data.toList.all (fun b => decide (b.toNat < 128)) = true) : ∀ (j : Nat) b, s.data.toList[j]? = some b → b.toNat < 128 := by
  intro j b hb
  exact of_decide_eq_true (List.all_eq_true.1 h b (List.mem_of_getElem? hb))
theorem chk_end (k : Nat) (A B : Int) (xs : List Int) (h0 : k ≠ 0) (h : ¬ 16 < xs.length) (a b t : Bool) (ha : okA k A = a) (hb : okB k B = b) (ht : okT k xs = t) : chkI k A B xs = if (a && b && t) = true then 0 else 1 := by
  rw [chk_rest h0 h, ha, hb, ht]

end Go.Proofs.YtdiiefhklcchmaaDoor
