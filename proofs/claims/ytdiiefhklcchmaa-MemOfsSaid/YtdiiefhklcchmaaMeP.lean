/-
  MEMORIES, the program's: what Put leaves. Conditions: the object's own invariant.
-/
import Derived.Test.YtdiiefhklcchmaaMeC
namespace Go.Proofs.Ytdiiefhklcchmaa
open Go.RowKit Go.Lib

/-- bytes are put from k on -/
def putL : List Int → Nat → List UInt8 → List Int
  | m, _, [] => m
  | m, k, x :: r => putL (m.set k (x.toNat : Int)) (k + 1) r
theorem putL_len (xs : List UInt8) : ∀ (m : List Int) (k : Nat), (putL m k xs).length = m.length := by
  induction xs with
  | nil => intro m k; rfl
  | cons x r ih => intro m k; rw [putL, ih, List.length_set]
theorem putL_app (xs ys : List UInt8) : ∀ (m : List Int) (k : Nat), putL m k (xs ++ ys) = putL (putL m k xs) (k + xs.length) ys := by
  induction xs with
  | nil => intro m k; rfl
  | cons x r ih =>
    intro m k
    rw [List.cons_append, putL, ih, putL, List.length_cons, show k + 1 + r.length = k + (r.length + 1) by omega]
theorem putL_byte (xs : List UInt8) : ∀ (m : List Int) (k : Nat), (∀ x ∈ m, 0 ≤ x ∧ x ≤ 255) → ∀ x ∈ putL m k xs, 0 ≤ x ∧ x ≤ 255 := by
  induction xs with
  | nil => intro m k h; exact h
  | cons y r ih =>
    intro m k h
    rw [putL]
    refine ih _ _ (fun x hx => ?_)
    rcases List.mem_or_eq_of_mem_set hx with e | e
    · exact h x e
    · subst e
      have := y.toNat_lt
      omega
theorem MP.puts {base B p g cap : Nat} {most : Int} (xs : List UInt8) : ∀ {w : World} {m : List Int} (k : Nat), MP w base B (.slice (some ⟨g, 0, none⟩) p cap) p most m → MP (w.setCells g k (xs.map fun x => Value.int .u8 (x.toNat : Int))) base B (.slice (some ⟨g, 0, none⟩) p cap) p most (putL m k xs) := by
  induction xs with
  | nil => intro w m k h; exact h
  | cons x r ih => intro w m k h; exact ih (k + 1) (h.put k (x.toNat : Int))
theorem touch_puts {g : Nat} (cs : List Value) : ∀ (w : World) (k : Nat), Touch (fun j => j = g) w (w.setCells g k cs) := by
  induction cs with
  | nil => intro w k; exact Touch.refl _ _
  | cons x r ih => intro w k; exact (Touch.setCell (F := fun j => j = g) (a := ⟨g, k, none⟩) rfl x).trans (ih _ (k + 1))
end Go.Proofs.Ytdiiefhklcchmaa
