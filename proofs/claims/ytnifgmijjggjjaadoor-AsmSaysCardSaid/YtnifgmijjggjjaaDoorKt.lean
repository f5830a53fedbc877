/-
  BLOCKS OF EVERY TYPE BUT ONE STAY. No condition.
-/
import Derived.Test.YtnifgmijjggjjaaDoorPart
namespace Go.Proofs.YtnifgmijjggjjaaDoor
open Go.RowKit Go.Lib

/-- blocks of every type but one stay -/
def KT (bad : TypeId) (w w' : World) : Prop := w.heap.size ≤ w'.heap.size ∧ ∀ (k : Nat) (cs : Array Value) (ty : TypeId) (fr : Nat × Nat), (ty == bad) = false → w.heap[k]? = some (.cells cs ty fr) → w'.heap[k]? = w.heap[k]?
theorem KT.blk {bad ty : TypeId} {w w' : World} {b : Nat} {cs : List Value} (h : KT bad w w') (hb : Blk w b ty cs) (ht : (ty == bad) = false) : Blk w' b ty cs := hb.same (h.2 b _ ty _ ht hb)
theorem KT.own {bad E : TypeId} {w w' : World} {base size n : Nat} {v : Value} {cs : List Value} (h : KT bad w w') (ho : w.ownsRow base E size v n cs) (ht : (E == bad) = false) : w'.ownsRow base E size v n cs := by
  refine own_same ho (fun k hk => ?_)
  rcases ho.2 with ⟨e, _⟩ | ⟨g, cap, cur, e, _, hh, _⟩
  · rw [e] at hk; simp [Value.ownBlock] at hk
  · rw [e] at hk
    simp only [Value.ownBlock, Option.some.injEq] at hk
    subst hk
    exact h.2 g _ E _ ht hh
theorem KT.touch {w w' : World} {B : Nat} {bad : TypeId} {cs : List Value} (h : Blk w B bad cs) (ht : Touch (fun k => k = B) w w') : KT bad w w' := by
  refine ⟨ht.size, fun k cs' ty fr hne hk => ht.block k (lt_of_block hk) (fun e => ?_)⟩
  subst e
  unfold Blk at h
  rw [h] at hk
  simp only [Option.some.injEq, Obj.cells.injEq] at hk
  rw [hk.2.1] at hne
  simp at hne
theorem KT.below {w w' : World} {bad : TypeId} (h : Below w.heap.size w w') : KT bad w w' := ⟨h.size, fun k _ _ _ _ hk => h.block k (lt_of_block hk)⟩
theorem KT.trans {w1 w2 w3 : World} {bad : TypeId} (h : KT bad w1 w2) (g : KT bad w2 w3) : KT bad w1 w3 :=
  ⟨Nat.le_trans h.1 g.1, fun k cs ty fr hne hk => by
    have e := h.2 k cs ty fr hne hk
    exact (g.2 k cs ty fr hne (e.trans hk)).trans e⟩
theorem KT.grown {w w' : World} {bad : TypeId} {base size n : Nat} {v : Value} {cs : List Value} (hg : w.grownBy w' v.ownBlock) (ho : w.ownsRow base bad size v n cs) : KT bad w w' := by
  refine ⟨hg.size, fun k cs' ty fr hne hk => hg.block k (lt_of_block hk) (fun e => ?_)⟩
  rcases ho.2 with ⟨e2, _⟩ | ⟨g, cap, cur, e2, _, hh, _⟩
  · rw [e2] at e; simp [Value.ownBlock] at e
  · rw [e2] at e
    simp only [Value.ownBlock, Option.some.injEq] at e
    subst e
    rw [hh] at hk
    simp only [Option.some.injEq, Obj.cells.injEq] at hk
    rw [hk.2.1] at hne
    simp at hne

theorem KT.set {w : World} {B i : Nat} {bad : TypeId} {cs : List Value} (h : Blk w B bad cs) (v : Value) : KT bad w (w.setCell ⟨B, i, none⟩ v) := KT.touch h (Touch.setCell (F := fun k => k = B) (a := ⟨B, i, none⟩) rfl v)
theorem KT.drewn {w w' : World} {bad : TypeId} (h : KT bad w w') (n : Nat) : KT bad w (w'.drewN n) := h
theorem own_mono' {w : World} {b c : Nat} {e : TypeId} {size : Nat} {v : Value} {n : Nat} {cs : List Value} (h : w.ownsRow c e size v n cs) (hb : b ≤ c) : w.ownsRow b e size v n cs := by
  obtain ⟨h1, h2⟩ := h
  refine ⟨h1, ?_⟩
  rcases h2 with h2 | ⟨g, cap, cur, hv, hg, r⟩
  · exact .inl h2
  · exact .inr ⟨g, cap, cur, hv, Nat.le_trans hb hg, r⟩

end Go.Proofs.YtnifgmijjggjjaaDoor
