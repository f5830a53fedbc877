/-
  TIMERS: both clocks side by side in one memory. No condition.
-/
import Derived.Test.YtalookaaogiinaaTmV
import Derived.Test.YtalookaaogiinaaLawK
import Derived.Test.YtalookaaogiinaaDecT
namespace Go.Proofs.Ytalookaaogiinaa
open Go.RowKit Go.Lib

abbrev DuoT (w : World) (base B1 B2 : Nat) (v u : Value) (p : PT) (r : RT) : Prop :=
  Duo base (footT B1 v) (footT B2 u) (fun w => TB w base B1 p.now p.turn v p.set) (fun w => RB w base B2 u r) w
theorem FreshT.foot {w : World} {B : Nat} {v v' : Value} (h : FreshT w v v') : ∀ k, footT B v' k → footT B v k ∨ w.heap.size ≤ k := by
  rintro k (e | e)
  · exact .inl (.inl e)
  · rcases h k e with e | e
    · exact .inl (.inr e)
    · exact .inr e
theorem tm_left {w w' : World} {base B1 B2 : Nat} {v u : Value} {p p' : PT} {r : RT} (h : DuoT w base B1 B2 v u p r) (hp : TPs w base B1 v p' w') : ∃ v', DuoT w' base B1 B2 v' u p' r ∧ Touch (footT B1 v) w w' := by
  obtain ⟨v', hm, ht, hf⟩ := hp
  exact ⟨v', h.left hm.part ht hf.foot, ht⟩
theorem tm_right {w w' : World} {base B1 B2 : Nat} {v u : Value} {p : PT} {r r' : RT} (h : DuoT w base B1 B2 v u p r) (hp : RPost w base B2 u r' w') : ∃ u', DuoT w' base B1 B2 v u' p r' ∧ Touch (footT B2 u) w w' := by
  obtain ⟨v', hm, ht, hf⟩ := hp
  exact ⟨v', h.right hm.part ht hf.foot, ht⟩
/-- what holds after k calls -/
structure SideT (p : PT) (r : RT) (k : Nat) : Prop where
  rel : ∃ ts, RelT p r ts
  pos : ∀ t ∈ p.set, 0 ≤ t.due
  turn : 0 ≤ p.turn ∧ p.turn ≤ k
def InvT (w : World) (base B1 B2 k : Nat) : Prop := ∃ v u p r, DuoT w base B1 B2 v u p r ∧ SideT p r k
theorem InvT.below {w w' : World} {base B1 B2 k : Nat} (h : InvT w base B1 B2 k) (hb : Below w.heap.size w w') : InvT w' base B1 B2 k := by
  obtain ⟨v, u, p, r, hD, hS⟩ := h
  exact ⟨v, u, p, r, hD.below hb, hS⟩
theorem SideT.few {p : PT} {r : RT} {k : Nat} (h : SideT p r k) : p.set.length ≤ 32 ∧ r.L.length ≤ 32 := by
  obtain ⟨ts, R⟩ := h.rel
  have := rel_len R
  have := R.few
  omega
theorem SideT.now {p : PT} {r : RT} {k : Nat} (h : SideT p r k) : r.now = p.now ∧ 0 ≤ p.now ∧ p.now ≤ 1099511627776 := by
  obtain ⟨ts, R⟩ := h.rel
  exact ⟨R.now, R.now0⟩
theorem SideT.dueP {p : PT} {r : RT} {k : Nat} (h : SideT p r k) : ∀ t ∈ p.set, 0 ≤ t.due ∧ t.due ≤ 1099511627776 := by
  obtain ⟨ts, R⟩ := h.rel
  exact fun t ht => ⟨h.pos t ht, (R.last t (R.perm.mem_iff.1 ht)).2⟩
theorem SideT.dueR {p : PT} {r : RT} {k : Nat} (h : SideT p r k) : ∀ x ∈ r.L, 0 ≤ x.2 ∧ x.2 ≤ 1099511627776 := by
  obtain ⟨ts, R⟩ := h.rel
  intro x hx
  rw [R.list] at hx
  obtain ⟨t, ht, rfl⟩ := List.mem_map.1 hx
  exact h.dueP t (R.perm.mem_iff.2 ht)
theorem SideT.next {p : PT} {r : RT} {k : Nat} (h : SideT p r k) : nextRr r = nextP p := by
  obtain ⟨ts, R⟩ := h.rel
  have hl := rel_len R
  unfold nextRr nextP
  by_cases h0 : p.set.length = 0
  · rw [if_pos h0, if_pos (by omega)]
  · rw [if_neg h0, if_neg (by omega), rel_next R (Nat.pos_of_ne_zero h0), R.now]
theorem side_set {p : PT} {r : RT} {k : Nat} (h : SideT p r k) (id wait : Int) : SideT (setP p id wait) (setR r id wait) (k + 1) ∧ setE r.now wait (decide (0 ≤ findR r id)) r.L.length = setE p.now wait (decide (0 ≤ findP p id)) p.set.length := by
  obtain ⟨ts, R⟩ := h.rel
  obtain ⟨g1, g2⟩ := rel_set R id wait
  have ht := h.turn
  have hn := R.now0
  refine ⟨⟨g1, ?_, ?_⟩, g2⟩
  · unfold setP
    split
    · rename_i he
      intro t hm
      have hp := (push_heap R.heap ⟨id, p.now + wait, p.turn + 1⟩).2
      rcases List.mem_cons.1 (hp.mem_iff.1 hm) with e | e
      · subst e
        show 0 ≤ p.now + wait
        unfold setE at he
        split at he
        · simp at he
        · omega
      · exact h.pos t e
    · exact h.pos
  · unfold setP
    split
    · show 0 ≤ p.turn + 1 ∧ p.turn + 1 ≤ _
      omega
    · omega
theorem side_drop {p : PT} {r : RT} {k : Nat} (h : SideT p r k) (id : Int) : SideT (dropP p id) (dropR r id) (k + 1) ∧ decide (0 ≤ findR r id) = decide (0 ≤ findP p id) := by
  obtain ⟨ts, R⟩ := h.rel
  obtain ⟨g1, g2⟩ := rel_drop R id
  have ht := h.turn
  refine ⟨⟨g1, ?_, ?_⟩, g2⟩
  · unfold dropP
    split
    · rename_i he
      intro t hm
      have hb := fstI_bounds (fun t : Tm => decide (t.id = id)) p.set
      have hp := (rem_heap R.heap (findP p id).toNat (by unfold findP at *; omega)).2
      exact h.pos t (hp.mem_iff.1 (List.mem_cons_of_mem _ hm))
    · exact h.pos
  · unfold dropP
    split
    · show 0 ≤ p.turn ∧ p.turn ≤ _
      omega
    · omega
theorem pops_sub (n : Nat) : ∀ (l : List Tm) (now : Int), Heap l l.length → ∀ t ∈ (popsP n l now).2, t ∈ l := by
  induction n with
  | zero => intro l now _ t ht; exact ht
  | succ n ih =>
    intro l now hh t ht
    rw [popsP] at ht
    split at ht
    · rename_i g
      obtain ⟨h1, h2⟩ := pop_heap hh g.1
      exact h2.mem_iff.1 (List.mem_cons_of_mem _ (ih _ _ h1 t ht))
    · exact ht
theorem side_tickT {p : PT} {r : RT} {k : Nat} (h : SideT p r k) (n : Int) : SideT (tickP p n) (tickRr r n) (k + 1) ∧ tickTE r.now n = tickTE p.now n ∧ (tickTE p.now n = 0 → (popsR r.L.length { r with now := r.now + n }).1 = (popsP p.set.length p.set (p.now + n)).1) := by
  obtain ⟨ts, R⟩ := h.rel
  have e : tickTE r.now n = tickTE p.now n := by rw [R.now]
  have ht := h.turn
  refine ⟨?_, e, ?_⟩
  · unfold tickP tickRr
    rw [e]
    by_cases g : tickTE p.now n = 0
    · rw [if_pos g, if_pos g, rel_len R]
      have hn : 0 ≤ n ∧ p.now + n ≤ 1099511627776 := by
        unfold tickTE at g
        split at g
        · simp at g
        · omega
      obtain ⟨q1, _⟩ := rel_pops p.set.length (rel_tickT R n hn)
      exact ⟨q1, fun t hm => h.pos t (pops_sub _ _ _ R.heap t hm), by show 0 ≤ p.turn ∧ p.turn ≤ _; omega⟩
    · rw [if_neg g, if_neg g]
      exact ⟨⟨ts, R⟩, h.pos, by omega⟩
  · intro g
    have hn : 0 ≤ n ∧ p.now + n ≤ 1099511627776 := by
      unfold tickTE at g
      split at g
      · simp at g
      · omega
    rw [rel_len R]
    exact (rel_pops p.set.length (rel_tickT R n hn)).2
theorem side_newT : SideT ⟨0, 0, []⟩ ⟨0, []⟩ 0 := ⟨⟨[], rel_newT⟩, (fun t ht => by cases ht), Int.le_refl _, Int.le_refl _⟩
/-- a row of numbers that is newer than the reference's clock stays while that one works -/
theorem own_pastT {w0 w1 w2 : World} {base B2 e size n : Nat} {v u : Value} {cs : List Value} {R : World → Prop} (hq : Part base (footT B2 v) R w0) (ho : w1.ownsRow w0.heap.size e size u n cs) (ht : Touch (footT B2 v) w1 w2) : w2.ownsRow w0.heap.size e size u n cs :=
  own_same ho (fun k hk => ht.block k (World.ownsRow.lt ho k hk).2 (fun hf => by
    have h1 := (World.ownsRow.lt ho k hk).1
    have h2 := (hq.lt k hf).2
    omega))
end Go.Proofs.Ytalookaaogiinaa
