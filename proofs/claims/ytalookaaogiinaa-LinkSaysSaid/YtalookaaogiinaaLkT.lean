/-
  LINKS, the reference's end: Out. Conditions: the object's own invariant; lengths.
-/
import Derived.Test.YtalookaaogiinaaLkS
import Derived.Test.YtalookaaogiinaaLkP
import Derived.Test.YtalookaaogiinaaOwn
namespace Go.Proofs.Ytalookaaogiinaa
open Go.RowKit Go.Lib
attribute [local go_sem ↓] Go.wp_at_zero Go.wp_at_succ

theorem own_tyL {w : World} {base size n : Nat} {e : TypeId} {v : Value} {cs : List Value} (ho : w.ownsRow base e size v n cs) {k : Nat} (hk : v.ownBlock = some k) : ∃ cur fr, w.heap[k]? = some (.cells cur e fr) := by
  rcases ho.2 with ⟨e, _⟩ | ⟨g, cap, cur, e, _, hh, _⟩
  · rw [e] at hk; simp [Value.ownBlock] at hk
  · rw [e] at hk
    simp only [Value.ownBlock, Option.some.injEq] at hk
    subst hk
    exact ⟨_, _, hh⟩
def dueR (s : RE) (k : Nat) (t : Int) : Prop := s.acked ≤ k ∧ (k : Int) < s.acked + 4 ∧ (t < 0 ∨ t + 3 ≤ s.now)
instance (s : RE) (k : Nat) (t : Int) : Decidable (dueR s k t) := by unfold dueR; infer_instance
def refQ (s : RE) : Nat → List Frm × List Int
  | 0 => ([], s.sent)
  | k + 1 => match s.sent[k]? with
    | none => refQ s k
    | some t => if dueR s k t then ((refQ s k).1 ++ [⟨s.me, s.other, k + 1, s.came.length, s.offered.getD k ByteArray.empty⟩], (refQ s k).2.set k s.now) else refQ s k
theorem refQ_len (s : RE) (k : Nat) : (refQ s k).2.length = s.sent.length := by
  induction k with
  | zero => rfl
  | succ k ih =>
    unfold refQ
    split
    · exact ih
    · split
      · simpa using ih
      · exact ih
theorem refQ_far (s : RE) (k j : Nat) (h : k ≤ j) : (refQ s k).2[j]? = s.sent[j]? := by
  induction k with
  | zero => rfl
  | succ k ih =>
    unfold refQ
    split
    · exact ih (by omega)
    · split
      · simp only
        rw [List.getElem?_set_ne (by omega)]
        exact ih (by omega)
      · exact ih (by omega)
theorem refQ_few (s : RE) (k : Nat) : (refQ s k).1.length ≤ k := by
  induction k with
  | zero => simp [refQ]
  | succ k ih =>
    unfold refQ
    split
    · omega
    · split
      · simp; omega
      · omega
theorem refQ_skip {s : RE} {k : Nat} {t : Int} (hx : s.sent[k]? = some t) (h : ¬ dueR s k t) : refQ s (k + 1) = refQ s k := by
  rw [refQ, hx]; exact if_neg h
theorem refQ_send {s : RE} {k : Nat} {t : Int} (hx : s.sent[k]? = some t) (h : dueR s k t) : refQ s (k + 1) = ((refQ s k).1 ++ [⟨s.me, s.other, k + 1, s.came.length, s.offered.getD k ByteArray.empty⟩], (refQ s k).2.set k s.now) := by
  rw [refQ, hx]; exact if_pos h
def refF (s : RE) : List Frm := if s.owed = true ∧ (refQ s s.sent.length).1 = [] then [⟨s.me, s.other, 0, s.came.length, ByteArray.empty⟩] else (refQ s s.sent.length).1
def refS (s : RE) : RE := { s with sent := (refQ s s.sent.length).2, owed := s.owed && decide (refF s = []) }
/-- when a body was sent turns -/
theorem REB.send {w : World} {base B : Nat} {p : RV} {s : RE} (h : REB w base B p s) {g cap n : Nat} (hv : p.vs = .slice (some ⟨g, 0, none⟩) n cap) (hn : n = s.sent.length) (k : Nat) (hk : k < s.sent.length) (t : Int) :
    REB (w.setCell ⟨g, k, none⟩ (.int .i64 t)) base B p { s with sent := s.sent.set k t } := by
  obtain ⟨vo, vs, vc, M⟩ := p
  simp only at hv
  subst hv
  have hrs := h.rs
  simp only at hrs
  obtain ⟨cur, fr, hg⟩ := own_tyL hrs rfl
  have hB : g ≠ B := fun e => h.ne.2.1 (by rw [e]; rfl)
  have hd : ∀ {v : Value} {m : Nat} {cs : List Value}, w.ownsRow base 9 1 v m cs → v.ownBlock ≠ some g := by
    intro v m cs ho hk
    obtain ⟨cur2, fr2, h2⟩ := own_tyL ho hk
    rw [hg] at h2
    simp only [Option.some.injEq, Obj.cells.injEq] at h2
    exact absurd h2.2.1 (by decide)
  have hM : M ≠ g := fun e => by
    obtain ⟨_, ⟨es, c, h1, _⟩, _⟩ := h.rm
    simp only at h1
    rw [e, hg] at h1
    simp at h1
  refine ⟨h.blk.other (a := ⟨g, k, none⟩) hB _, ownsRow_setCell_other (a := ⟨g, k, none⟩) h.ro (hd h.ro) _, hrs.put hn k t hk, ownsRow_setCell_other (a := ⟨g, k, none⟩) h.rc (hd h.rc) _, h.rm.same (Below.heap_setCell _ _ _ _ hM), h.ap, h.le, h.lm, by have := h.base; simp; omega⟩
theorem REB.grow {w w' : World} {base B : Nat} {p : RV} {s : RE} (h : REB w base B p s) {base2 n : Nat} {u : Value} {cs : List Value} (hg : w.drew.grownBy w' u.ownBlock) (ho : w.drew.ownsRow base2 31 5 u n cs) : REB w' base B p s := by
  have kt : KT 31 w.drew w' := KT.grown hg ho
  have hM : w'.heap[p.M]? = w.heap[p.M]? := by
    refine hg.block p.M h.rm.lt (fun e => ?_)
    obtain ⟨cur, fr, h2⟩ := own_tyL ho e.symm
    obtain ⟨_, ⟨es, c, h1, _⟩, _⟩ := h.rm
    have h3 : w.heap[p.M]? = some (.cells cur 31 fr) := h2
    rw [h1] at h3
    simp at h3
  exact ⟨kt.blk (w := w.drew) h.blk rfl, kt.own (w := w.drew) h.ro rfl, kt.own (w := w.drew) h.rs rfl, kt.own (w := w.drew) h.rc rfl, h.rm.same hM, h.ap, h.le, h.lm, Nat.le_trans h.base kt.1⟩
end Go.Proofs.Ytalookaaogiinaa
