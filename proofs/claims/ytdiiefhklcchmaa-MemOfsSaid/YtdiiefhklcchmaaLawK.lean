/-
  WHAT THE LAWS OVER STEPS SHARE: a list of flat structs as an argument; the number of a step. No condition.
-/
import Derived.Test.YtdiiefhklcchmaaRowK
import Derived.Test.YtdiiefhklcchmaaDec
import Derived.IntWalk
namespace Go.Proofs.Ytdiiefhklcchmaa
open Go.RowKit

theorem flat_of {α : Type} (enc : α → List Value) : ∀ (css : List (List Value)) (ys : List α), css.length = ys.length → (∀ i (h1 : i < css.length) (h2 : i < ys.length), css[i] = enc ys[i]) → css.flatten = ys.flatMap enc := by
  intro css
  induction css with
  | nil => intro ys hl _; cases ys with
    | nil => rfl
    | cons _ _ => simp at hl
  | cons c r ih =>
    intro ys hl h
    cases ys with
    | nil => simp at hl
    | cons y ys =>
      have h0 := h 0 (by simp) (by simp)
      simp only [List.getElem_cons_zero] at h0
      rw [List.flatten_cons, List.flatMap_cons, h0, ih ys (by simpa using hl) (fun i h1 h2 => by have := h (i + 1) (by simpa using h1) (by simpa using h2); simpa using this)]
theorem slice_flat {W : World} {s bytes : Nat} {α : Type} {R : List Value → α → Prop} {v : Value} {ys : List α} (enc : α → List Value) (Q : α → Prop) (h : ∀ cs y, R cs y → cs = enc y ∧ Q y) (hs : sliceR W s bytes R [v] ys) : Lk enc W v ys ∧ (∀ y ∈ ys, Q y) ∧ ys.length * bytes ≤ 140737488351232 := by
  obtain ⟨v', css, hv, hsl, hl, hb, hel⟩ := hs
  simp only [List.cons.injEq, and_true] at hv
  subst hv
  refine ⟨?_, ?_, hb⟩
  · rw [flat_of enc css ys hl (fun i h1 h2 => (h _ _ (hel i h1 h2).2).1)] at hsl
    exact hsl
  · intro y hy
    obtain ⟨i, hi, rfl⟩ := List.getElem_of_mem hy
    exact (h _ _ (hel i (by omega) hi).2).2

theorem wf_i64 {n : Int} (h : (Lit.int .i64 n).wf = true) : -9223372036854775808 ≤ n ∧ n ≤ 9223372036854775807 := by
  simpa [Lit.wf, IntKind.min, IntKind.max, IntKind.signed, IntKind.bits] using h
theorem wf_u64 {n : Int} (h : (Lit.int .u64 n).wf = true) : 0 ≤ n ∧ n ≤ 18446744073709551615 := by
  simpa [Lit.wf, IntKind.min, IntKind.max, IntKind.signed, IntKind.bits] using h

theorem rest_neg {n m : Int} (hm : 1 ≤ m) (h : n.tmod m < 0) : n % m = n.tmod m + m := by
  rw [Int.emod_eq_tmod]
  have hn : ¬ (0 ≤ n ∨ m ∣ n) := by
    rintro (h1 | h1)
    · have := Int.tmod_nonneg m h1; omega
    · have := Int.tmod_eq_zero_of_dvd h1; omega
  rw [if_neg hn]
  omega
theorem rest_pos {n m : Int} (_ : 1 ≤ m) (h : 0 ≤ n.tmod m) : n % m = n.tmod m := by
  rw [Int.emod_eq_tmod]
  by_cases hn : 0 ≤ n ∨ m ∣ n
  · rw [if_pos hn]; omega
  · have h1 : ¬ 0 ≤ n := fun h => hn (.inl h)
    have h2 : ¬ m ∣ n := fun h => hn (.inr h)
    have h3 : n.tmod m ≤ 0 := by
      have := Int.tmod_nonneg m (by omega : 0 ≤ -n)
      rw [Int.neg_tmod] at this; omega
    have h4 : n.tmod m = 0 := by omega
    exact absurd (Int.dvd_of_tmod_eq_zero h4) h2

set_option maxRecDepth 100000 in
set_option maxHeartbeats 1000000 in
theorem rest_any (n m : Int) (w : World) (_h0 : -9223372036854775808 ≤ n) (_h1 : n ≤ 9223372036854775807) (h2 : 1 ≤ m) (h3 : m ≤ 9223372036854775807) :
    Calls Try.prog 23 #[.int .i64 n, .int .i64 m] w fun e w' => e = .returned (.int .i64 (n % m)) ∧ w = w' := by
  have hm0 : (m == 0) = false := by simp; omega
  have hlt := Int.tmod_lt_of_pos n (by omega : 0 < m)
  have hgt := Int.lt_tmod_of_pos n (by omega : 0 < m)
  go_enter Try.func23, Try.ntmps23
  go_wp2_with fail
  · go_ret
    exact ⟨ret1 (by rw [rest_neg h2 (by omega)]), rfl⟩
  · go_ret
    exact ⟨ret1 (by rw [rest_pos h2 (by omega)]), rfl⟩

set_option maxRecDepth 100000 in
theorem step_no (n m : Int) (w : World) (h0 : -9223372036854775808 ≤ n) (h1 : n ≤ 9223372036854775807) (h2 : 1 ≤ m) (h3 : m ≤ 9223372036854775807) :
    Calls Try.prog 12 #[.int .i64 n, .int .i64 m] w fun e w' => e = .returned (.int .i64 (n % m)) ∧ w = w' := by
  have hr := rest_any n m w h0 h1 h2 h3
  have HR := hid hr
  have b1 := Int.emod_nonneg n (by omega : m ≠ 0)
  have b2 := Int.emod_lt_of_pos n (by omega : 0 < m)
  generalize n % m = q at *
  clear hr
  go_enter Try.func12, Try.ntmps12
  go_wp2_with fail
  refine HR.out.mono ?_
  rintro e w1 ⟨rfl, rfl⟩
  go_wp2_with fail
  go_ret
  exact ⟨rfl, rfl⟩
end Go.Proofs.Ytdiiefhklcchmaa
