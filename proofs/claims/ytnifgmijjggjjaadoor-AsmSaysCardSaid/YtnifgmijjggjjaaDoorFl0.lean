/-
  FAULTS AS A LIST; numbers as bytes: the plain words of both sides' writers. No condition.
-/
import Derived.Test.YtnifgmijjggjjaaDoorStepS
import Derived.Test.YtnifgmijjggjjaaDoorLebU
namespace Go.Proofs.YtnifgmijjggjjaaDoor
open Go.RowKit Go.Lib

def failB (is : Bool) (e b : Int) : Int := if is = true ∧ b = 0 then e else b
theorem encS_length (f : Nat) : ∀ n : Int, (encS f n).length ≤ f + 1 := by
  induction f with
  | zero => intro n; simp [encS]
  | succ f ih =>
    intro n
    rw [encS]
    split
    · simp
    · have := ih (n / 128); simp; omega
/-- a number as a count without sign -/
def u64of (n : Int) : Nat := (n % 18446744073709551616).toNat
theorem u64of_lt (n : Int) : u64of n < 18446744073709551616 := by unfold u64of; omega
theorem u64of_wrap (n : Int) : IntKind.u64.wrap n = (u64of n : Int) := by rw [IntKind.wrap_u64]; unfold u64of; omega
theorem u64of_nat (n : Nat) (h : n < 18446744073709551616) : u64of (n : Int) = n := by unfold u64of; omega
def encN (n : Int) : List UInt8 := encU 9 (u64of n)
def idxBad (n : Int) : Bool := decide (n < 0 ∨ 4294967295 < n)
theorem idx_cases (n : Int) : (n < 0 ∧ idxBad n = true) ∨ (0 ≤ n ∧ 4294967295 < n ∧ idxBad n = true) ∨ (0 ≤ n ∧ n ≤ 4294967295 ∧ decide (n < 0) = false ∧ decide (4294967295 < n) = false ∧ idxBad n = false) := by
  unfold idxBad
  by_cases h : n < 0
  · exact .inl ⟨h, decide_eq_true (.inl h)⟩
  by_cases h2 : 4294967295 < n
  · exact .inr (.inl ⟨by omega, h2, decide_eq_true (.inr h2)⟩)
  · exact .inr (.inr ⟨by omega, by omega, decide_eq_false (by omega), decide_eq_false (by omega), decide_eq_false (by omega)⟩)
/-- the first fault, or 0 -/
def firstF : List Int → Int
  | [] => 0
  | x :: _ => x
def flt (is : Bool) (e : Int) : List Int := if is = true then [e] else []
theorem firstF_add {L : List Int} (h : ∀ x ∈ L, x ≠ 0) (is : Bool) (e : Int) : failB is e (firstF L) = firstF (L ++ flt is e) := by
  cases L with
  | nil => cases is <;> rfl
  | cons x r =>
    have := h x (by simp)
    show failB is e x = x
    unfold failB
    rw [if_neg (fun h => this h.2)]
theorem flt_ok {is : Bool} {e : Int} (h : e ≠ 0) : ∀ x ∈ flt is e, x ≠ 0 := by
  intro x hx
  cases is
  · cases hx
  · simp [flt] at hx; subst hx; exact h
theorem app_ok {a b : List Int} (ha : ∀ x ∈ a, x ≠ 0) (hb : ∀ x ∈ b, x ≠ 0) : ∀ x ∈ a ++ b, x ≠ 0 := by
  intro x hx
  rcases List.mem_append.1 hx with h | h
  · exact ha x h
  · exact hb x h
theorem firstF_zero {L : List Int} (h : ∀ x ∈ L, x ≠ 0) : firstF L = 0 ↔ L = [] := by
  cases L with
  | nil => simp [firstF]
  | cons x r => have := h x (by simp); simp [firstF, this]
theorem firstF_prefix {L M : List Int} (hL : L ≠ []) : firstF (L ++ M) = firstF L := by
  cases L with
  | nil => exact absurd rfl hL
  | cons x r => rfl
def valO (zs : List Int) : List UInt8 := encN zs.length ++ zs.flatMap (encS 9)
def atBad (n : Int) : Bool := decide (n < -2147483648 ∨ 2147483647 < n)
def i64L (zs : List Int) : Prop := ∀ z ∈ zs, -9223372036854775808 ≤ z ∧ z ≤ 9223372036854775807
theorem flatten_get {s : Nat} (css : List (List Value)) (hs : ∀ c ∈ css, c.length = s) : ∀ (j f : Nat) (_ : f < s) (h : j < css.length), css.flatten[j * s + f]? = (css[j])[f]? := by
  induction css with
  | nil => intro j f _ h; simp at h
  | cons c r ih =>
    intro j f hf h
    have hc := hs c (by simp)
    rw [List.flatten_cons]
    cases j with
    | zero => rw [List.getElem?_append_left (by omega)]; simp
    | succ j =>
      rw [List.getElem?_append_right (by rw [hc, Nat.succ_mul]; omega), hc, show (j + 1) * s + f - s = j * s + f by rw [Nat.succ_mul]; omega, ih (fun c hc => hs c (by simp [hc])) j f hf (by simpa using h)]
      simp
theorem flatten_len {s : Nat} (css : List (List Value)) (hs : ∀ c ∈ css, c.length = s) : css.flatten.length = css.length * s := by
  induction css with
  | nil => simp
  | cons c r ih => rw [List.flatten_cons, List.length_append, ih (fun c hc => hs c (by simp [hc])), hs c (by simp), List.length_cons, Nat.succ_mul]; omega
theorem at_form (n : Int) : (n != wrap64 (wrap32 n)) = atBad n := by
  unfold atBad wrap64 wrap32
  by_cases h : n < -2147483648 ∨ 2147483647 < n
  · rw [decide_eq_true h]; simp; omega
  · rw [decide_eq_false h]; simp; omega
theorem flatMap_ok {α : Type} {f : α → List Int} (h : ∀ a, ∀ x ∈ f a, x ≠ 0) (l : List α) : ∀ x ∈ l.flatMap f, x ≠ 0 := by
  intro x hx
  obtain ⟨a, _, ha⟩ := List.mem_flatMap.1 hx
  exact h a x ha
theorem two_flt (L : List Int) (p q : Bool) : firstF (L ++ flt p 2 ++ flt q 2) = firstF (L ++ flt (p || q) 2) := by
  cases L <;> cases p <;> cases q <;> rfl
theorem Blk.under2 {w w' : World} {b B : Nat} {ty : TypeId} {cs : List Value} (h : Blk w b ty cs) (hb : Below B w w') (hlt : b < B) : Blk w' b ty cs := by
  unfold Blk
  rw [hb.block b hlt]; exact h
/-- integers that stay while nothing below base turns -/
def IntsB (w : World) (base : Nat) (v : Value) (zs : List Int) : Prop := ∀ w', Below base w w' → Ints w' .i64 v zs
theorem IntsB.mono {w w' : World} {base : Nat} {v : Value} {zs : List Int} (h : IntsB w base v zs) (hb : Below base w w') : IntsB w' base v zs := fun w2 h2 => h w2 (hb.trans h2)
end Go.Proofs.YtnifgmijjggjjaaDoor
