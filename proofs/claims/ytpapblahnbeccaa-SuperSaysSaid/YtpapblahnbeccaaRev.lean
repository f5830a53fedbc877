/-
  slices.Reverse OVER A ROW OF INTEGERS THAT THE CALL OWNS: the shelf's contract at this dump, and what it does to what is owned. No condition beside the length's bound.
-/
import Derived.Shelf.Slices.Reverse
import Derived.Shelf.Slices.Cells
import Derived.Test.YtpapblahnbeccaaBase
import Derived.Deep.Upon
namespace Go.Proofs.Ytpapblahnbeccaa
open Go.RowKit

section
open Go.Shelf
def lays112_ren : Go.Shelf.Ren := ⟨fun | 112 => 163 | n => n, fun | 28 => 51 | 3 => 3 | 4 => 4 | 0 => 0 | n => n, fun | n => n⟩
theorem lays112 : Go.Proofs.Lays.n112 Try.prog lays112_ren := {
  mixed := by kernel_rfl
  f112 := Try.func163.trans (congrArg some (by kernel_rfl))
  t0 := Try.underlying0
  a0 := Try.isAgg0
  z0 := Try.sizeOf0
  v0 := Try.zeroValue0
  t3 := Try.underlying3
  a3 := Try.isAgg3
  z3 := Try.sizeOf3
  v3 := Try.zeroValue3
  t4 := Try.underlying4
  a4 := Try.isAgg4
  z4 := Try.sizeOf4
  v4 := Try.zeroValue4
  t28 := Try.underlying51
  a28 := Try.isAgg51
  z28 := Try.sizeOf51
  v28 := Try.zeroValue51 }
end

def setL (xs : List Value) (o : Nat) : List Value → List Value
  | [] => xs
  | v :: r => setL (xs.set o v) (o + 1) r
theorem setL_all (vs : List Value) : ∀ (pre rest : List Value), rest.length = vs.length → setL (pre ++ rest) pre.length vs = pre ++ vs := by
  induction vs with
  | nil => intro pre rest h; have : rest = [] := by simpa using h
           subst this; rfl
  | cons v r ih =>
    intro pre rest h
    cases rest with
    | nil => simp at h
    | cons x rest =>
      have e : (pre ++ x :: rest).set pre.length v = (pre ++ [v]) ++ rest := by
        rw [List.set_append_right _ _ (Nat.le_refl _)]; simp
      have := ih (pre ++ [v]) rest (by simpa using h)
      rw [List.length_append] at this
      rw [setL, e]
      simpa using this

theorem own_setCells {e : TypeId} {size base g n cap : Nat} (vs : List Value) : ∀ (o : Nat) (w : World) (xs : List Value), w.ownsRow base e size (.slice (some ⟨g, 0, none⟩) n cap) n xs →
    (w.setCells g o vs).ownsRow base e size (.slice (some ⟨g, 0, none⟩) n cap) n (setL xs o vs) ∧ w.grownBy (w.setCells g o vs) (some g) := by
  induction vs with
  | nil => intro o w xs h; exact ⟨h, World.grownBy.refl _ _⟩
  | cons v r ih =>
    intro o w xs h
    have h1 := h.stored o v
    have h2 := ih (o + 1) _ _ h1.1
    refine ⟨h2.1, ⟨h2.2.os.trans h1.2.os, h2.2.tape.trans h1.2.tape, h2.2.output.trans h1.2.output, Nat.le_trans h1.2.size h2.2.size, fun k hk hne => ?_⟩⟩
    exact (h2.2.block k (Nat.lt_of_lt_of_le hk h1.2.size) hne).trans (h1.2.block k hk hne)

theorem drewN_own {w : World} {base : Nat} {e : TypeId} {size : Nat} {v : Value} {n : Nat} {cs : List Value} (q : Nat) (h : w.ownsRow base e size v n cs) : (w.drewN q).ownsRow base e size v n cs := h

/-- slices.Reverse of integers that the call owns -/
theorem reverse_own {base : Nat} {v : Value} {xs : List Int} {w : World} (h : OwnI w base .i64 3 v xs) (hl : xs.length ≤ 9223372036854775807) :
    Calls Try.prog 163 #[v] w fun e w' => e = .returned (.tuple #[]) ∧ OwnI w' base .i64 3 v xs.reverse ∧ Grew w v w' v := by
  cases hx : xs with
  | nil =>
    obtain ⟨ao, cap, rfl, _⟩ := own_sl h
    subst hx
    refine (Go.Proofs.Any.slices_Reverse_int_empty lays112 ao cap w).mono ?_
    rintro e w' ⟨rfl, rfl⟩
    exact ⟨rfl, h, World.grownBy.refl _ _, .inl rfl⟩
  | cons y r =>
    rw [← hx]
    have hne : 0 < xs.length := by rw [hx]; simp
    obtain ⟨g, cap, rfl, hg, hlc, hcm, hcell⟩ := O1.head h hne
    have hfr : ∀ j, w.frozen? ⟨g, 0 + j, none⟩ = false := fun j => by rw [Nat.zero_add]; exact h.frozenAt j
    refine (Go.Proofs.Any.slices_Reverse_int_cells lays112 g 0 xs.length cap xs w (Nat.le_refl _) hl (fun j hj => by rw [Nat.zero_add, hcell j hj, List.getD_eq_getElem?_getD, List.getElem?_eq_getElem hj]; rfl) (fun j _ => hfr j)).mono ?_
    rintro e w' ⟨rfl, q, rfl⟩
    obtain ⟨h1, h2⟩ := own_setCells ((xs.take xs.length).reverse.map (Value.int .i64)) 0 _ _ (drewN_own q h)
    refine ⟨rfl, ?_, ⟨⟨h2.os, h2.tape, h2.output, h2.size, fun k hk hne => h2.block k hk hne⟩, .inl rfl⟩⟩
    have e2 := setL_all ((xs.take xs.length).reverse.map (Value.int .i64)) [] (xs.map (Value.int .i64)) (by simp)
    simp only [List.nil_append, List.length_nil] at e2
    rw [e2] at h1
    show World.ownsRow _ _ _ _ _ xs.reverse.length (xs.reverse.map (Value.int .i64))
    rw [List.length_reverse]
    have e3 : (xs.take xs.length).reverse = xs.reverse := by rw [List.take_length]
    rw [← e3]
    exact h1
end Go.Proofs.Ytpapblahnbeccaa
