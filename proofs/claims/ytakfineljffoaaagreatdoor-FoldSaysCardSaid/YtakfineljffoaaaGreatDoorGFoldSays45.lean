/-
  BODIES: the program's Match. No condition.
-/
import Derived.Test.YtakfineljffoaaaGreatDoorGFoldSays10
import Derived.Deep.RegionLaw
namespace Go.Proofs.YtakfineljffoaaaGreatDoor
open Go.RowKit Go.Lib
attribute [local go_sem ↓] Go.wp_at_zero Go.wp_at_succ

def mkM (l : List It) : AB := matR It.op l 0 ([(-1, 2)], false) (List.replicate l.length 0, List.replicate l.length 0)
theorem OwnI.at1 {w : World} {base : Nat} {k : IntKind} {e : TypeId} {g n : Nat} {xs : List Int} (h : OwnI w base k e (.slice (some ⟨g, 0, none⟩) n n) xs) (hn : xs.length = n) (j : Nat) (hj : j < xs.length) : ∃ v, w.cell? ⟨g, j, none⟩ = some v ∧ ∀ i, w.frozen? ⟨g, i, none⟩ = false := by
  obtain ⟨g', cap, h1, _, _, _, h5, h6, _⟩ := h.at hn (by omega)
  simp only [Value.slice.injEq, Option.some.injEq, Addr.mk.injEq, and_true, true_and] at h1
  obtain ⟨rfl, _⟩ := h1
  exact ⟨_, h5 j _ (List.getElem?_eq_getElem hj), h6⟩
theorem own_setCell2 {w : World} {base : Nat} {k : IntKind} {e : TypeId} {g n m : Nat} {xs : List Int} (h : OwnI w base k e (.slice (some ⟨g, 0, none⟩) n m) xs) {b : Nat} (hne : g ≠ b) (x : Nat × Value) : OwnI (w.setCell ⟨b, x.1, none⟩ x.2) base k e (.slice (some ⟨g, 0, none⟩) n m) xs := ownsRow_setCell_other (a := ⟨b, x.1, none⟩) h (fun e => hne (by injection e)) x.2
theorem WkB.put {w : World} {B base : Nat} {vo vl : Value} {st : Stk × Bool} (h : WkB w B base vo vl st) {g : Nat} (hg : g < base) (j : Nat) (x : Value) : WkB (w.setCell ⟨g, j, none⟩ x) B base vo vl st :=
  ⟨h.blk.other (by have := h.le; simp only; omega) _, ownsRow_setCell_below h.op hg _, ownsRow_setCell_below h.la hg _, h.le, h.full, h.most⟩
end Go.Proofs.YtakfineljffoaaaGreatDoor
