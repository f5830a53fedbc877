/-
  PARTS OF MEMORY: a description that looks at its own blocks alone, and two such parts side by side. No condition.
-/
import Derived.Test.YtnifgmijjggjjaaDoorRowK
namespace Go.Proofs.YtnifgmijjggjjaaDoor
open Go.RowKit

/-- a part of memory: the blocks F, described by R, which looks at no other block -/
structure Part (base : Nat) (F : Nat → Prop) (R : World → Prop) (w : World) : Prop where
  holds : R w
  le : base ≤ w.heap.size
  lt : ∀ k, F k → base ≤ k ∧ k < w.heap.size
  keep : ∀ w', w.heap.size ≤ w'.heap.size → (∀ k, F k → w'.heap[k]? = w.heap[k]?) → R w'
theorem Part.same {base : Nat} {F : Nat → Prop} {R : World → Prop} {w w' : World} (h : Part base F R w) (hs : w.heap.size ≤ w'.heap.size) (hb : ∀ k, F k → w'.heap[k]? = w.heap[k]?) : Part base F R w' :=
  ⟨h.keep w' hs hb, Nat.le_trans h.le hs, fun k hk => ⟨(h.lt k hk).1, Nat.lt_of_lt_of_le (h.lt k hk).2 hs⟩, fun w2 h2 hk2 => h.keep w2 (Nat.le_trans hs h2) (fun k hk => (hk2 k hk).trans (hb k hk))⟩
theorem Part.below {base : Nat} {F : Nat → Prop} {R : World → Prop} {w w' : World} (h : Part base F R w) (hb : Below w.heap.size w w') : Part base F R w' :=
  h.same hb.size (fun k hk => hb.block k (h.lt k hk).2)
theorem Part.touch {base : Nat} {F G : Nat → Prop} {R : World → Prop} {w w' : World} (h : Part base F R w) (ht : Touch G w w') (hd : ∀ k, F k → ¬ G k) : Part base F R w' :=
  h.same ht.size (fun k hk => ht.block k (h.lt k hk).2 (hd k hk))
theorem Part.drew {base : Nat} {F : Nat → Prop} {R : World → Prop} {w : World} (h : Part base F R w) (n : Nat) : Part base F R (w.drewN n) :=
  h.same (Nat.le_refl _) (fun _ _ => rfl)
theorem Part.drew1 {base : Nat} {F : Nat → Prop} {R : World → Prop} {w : World} (h : Part base F R w) : Part base F R w.drew :=
  h.same (Nat.le_refl _) (fun _ _ => rfl)
theorem own_same {w w' : World} {base : Nat} {e : TypeId} {size : Nat} {v : Value} {n : Nat} {cs : List Value} (h : w.ownsRow base e size v n cs) (hb : ∀ k, v.ownBlock = some k → w'.heap[k]? = w.heap[k]?) : w'.ownsRow base e size v n cs := by
  obtain ⟨h1, h2⟩ := h
  refine ⟨h1, ?_⟩
  rcases h2 with h2 | ⟨g, cap, cur, hv, hg, hh, r⟩
  · exact .inl h2
  · refine .inr ⟨g, cap, cur, hv, hg, ?_, r⟩
    rw [hb g (by rw [hv]; rfl)]; exact hh
theorem Blk.same {w w' : World} {b : Nat} {ty : TypeId} {cs : List Value} (h : Blk w b ty cs) (hb : w'.heap[b]? = w.heap[b]?) : Blk w' b ty cs := by
  unfold Blk
  rw [hb]; exact h

theorem Touch.of_new {F : Nat → Prop} {w w' : World} (h : Touch (fun k => F k ∨ w.heap.size ≤ k) w w') : Touch F w w' :=
  ⟨h.os, h.tape, h.output, h.size, fun k hk hF => h.block k hk (fun e => e.elim hF (fun h2 => by omega))⟩
theorem Touch.put {F : Nat → Prop} {w w1 : World} (h : Touch F w w1) {a : Addr} (hF : F a.block) (v : Value) : Touch F w (w1.setCell a v) := h.trans (Touch.setCell hF v)
theorem Touch.drew1 {F : Nat → Prop} {w w1 : World} (h : Touch F w w1) : Touch F w w1.drew := ⟨h.os, h.tape, h.output, h.size, h.block⟩

/-- two parts side by side -/
structure Duo (base : Nat) (F G : Nat → Prop) (R S : World → Prop) (w : World) : Prop where
  p : Part base F R w
  q : Part base G S w
  apart : ∀ k, F k → ¬ G k
theorem Duo.below {base : Nat} {F G : Nat → Prop} {R S : World → Prop} {w w' : World} (h : Duo base F G R S w) (hb : Below w.heap.size w w') : Duo base F G R S w' := ⟨h.p.below hb, h.q.below hb, h.apart⟩
theorem Duo.drew {base : Nat} {F G : Nat → Prop} {R S : World → Prop} {w : World} (h : Duo base F G R S w) (n : Nat) : Duo base F G R S (w.drewN n) := ⟨h.p.drew n, h.q.drew n, h.apart⟩
theorem Duo.drew1 {base : Nat} {F G : Nat → Prop} {R S : World → Prop} {w : World} (h : Duo base F G R S w) : Duo base F G R S w.drew := ⟨h.p.drew1, h.q.drew1, h.apart⟩
theorem Duo.alloc {base : Nat} {F G : Nat → Prop} {R S : World → Prop} {w : World} (h : Duo base F G R S w) (o : Obj) : Duo base F G R S (w.alloc o) := h.below ((Below.refl _ _).alloc (Nat.le_refl _) _)
/-- the first part has turned -/
theorem Duo.left {base : Nat} {F F' G : Nat → Prop} {R R' S : World → Prop} {w w' : World} (h : Duo base F G R S w) (hp : Part base F' R' w') (ht : Touch F w w') (hf : ∀ k, F' k → F k ∨ w.heap.size ≤ k) : Duo base F' G R' S w' := by
  refine ⟨hp, h.q.touch ht (fun k hg hF => h.apart k hF hg), fun k hF hg => ?_⟩
  rcases hf k hF with e | e
  · exact h.apart k e hg
  · have := (h.q.lt k hg).2; omega
theorem Duo.swap {base : Nat} {F G : Nat → Prop} {R S : World → Prop} {w : World} (h : Duo base F G R S w) : Duo base G F S R w := ⟨h.q, h.p, fun k h1 h2 => h.apart k h2 h1⟩
/-- the second part has turned -/
theorem Duo.right {base : Nat} {F G G' : Nat → Prop} {R S S' : World → Prop} {w w' : World} (h : Duo base F G R S w) (hp : Part base G' S' w') (ht : Touch G w w') (hf : ∀ k, G' k → G k ∨ w.heap.size ≤ k) : Duo base F G' R S' w' := (h.swap.left hp ht hf).swap
/-- what a call of the first leaves below the base -/
theorem Part.under {base B : Nat} {F : Nat → Prop} {R : World → Prop} {w w' : World} (h : Part base F R w) (ht : Touch F w w') (hB : B ≤ base) : Below B w w' :=
  ht.below (Nat.le_trans hB h.le) (fun k hk => Nat.le_trans hB (h.lt k hk).1)
/-- a newer block stays -/
theorem Part.newer {base b : Nat} {F : Nat → Prop} {R : World → Prop} {w w1 w2 : World} {ty : TypeId} {cs : List Value} (h : Part base F R w) (hb : w.heap.size ≤ b) (hk : Blk w1 b ty cs) (ht : Touch F w1 w2) : Blk w2 b ty cs :=
  hk.touch ht (fun e => by have := (h.lt b e).2; omega)
end Go.Proofs.YtnifgmijjggjjaaDoor
