/-
  SUPERVISORS: the state of both objects, what Down answers. No condition.
-/
import Derived.Test.YtpapblahnbeccaaKd
import Derived.Test.YtpapblahnbeccaaSupPa
import Derived.Test.YtpapblahnbeccaaPart
namespace Go.Proofs.Ytpapblahnbeccaa
open Go.RowKit Go.Lib

structure SSt where
  strategy : Int
  most : Int
  window : Int
  kids : List Kd
  past : List Int
  last : Int
  over : Bool
def kdAt (ks : List Kd) (i : Nat) : Kd := ks.getD i ⟨false, false⟩
def setR (b : Bool) (ks : List Kd) (i : Int) : List Kd := ks.set i.toNat ⟨b, (kdAt ks i.toNat).keep⟩
def setAll (b : Bool) (ks : List Kd) (l : List Int) : List Kd := l.foldl (setR b) ks
theorem setR_len (b : Bool) (ks : List Kd) (i : Int) : (setR b ks i).length = ks.length := by unfold setR; rw [List.length_set]
theorem setAll_len (b : Bool) (l : List Int) : ∀ ks : List Kd, (setAll b ks l).length = ks.length := by
  induction l with
  | nil => intro ks; rfl
  | cons i r ih => intro ks; unfold setAll; rw [List.foldl_cons]; exact (ih (setR b ks i)).trans (setR_len b ks i)
theorem setAll_snoc (b : Bool) (ks : List Kd) (l : List Int) (i : Int) : setAll b ks (l ++ [i]) = setR b (setAll b ks l) i := by unfold setAll; rw [List.foldl_append]; rfl
def prs (ks : List Kd) : List (Bool × Bool) := ks.map fun k => (k.runs, k.keep)
theorem prs_len (ks : List Kd) : (prs ks).length = ks.length := List.length_map _
theorem kids_of {w : World} {v : Value} {ks : List Kd} (h : Lk encKd w v ks) : Kids w v (prs ks) := by
  unfold Kids Lk prs
  rw [List.length_map, List.flatMap_map]
  exact h
/-- who runs, from n - 1 down to a -/
def runsDown (ks : List Kd) (a n : Nat) : List Int := ((List.range' a (n - a)).filter fun i => (kdAt ks i).runs).reverse.map fun i : Nat => (i : Int)
theorem runsDown_step (ks : List Kd) (a n : Nat) (h : a < n) : runsDown ks a n = runsDown ks (a + 1) n ++ (if (kdAt ks a).runs = true then [(a : Int)] else []) := by
  unfold runsDown
  rw [show n - a = (n - (a + 1)) + 1 from by omega, List.range'_succ, List.filter_cons]
  by_cases hr : (kdAt ks a).runs = true
  · rw [if_pos hr, if_pos hr, List.reverse_cons, List.map_append]; rfl
  · rw [if_neg hr, if_neg hr, List.append_nil]
theorem runsDown_all (ks : List Kd) (n : Nat) : runsDown ks n n = [] := by unfold runsDown; rw [Nat.sub_self]; rfl
theorem runsDown_mem {ks : List Kd} {a n : Nat} {i : Int} (h : i ∈ runsDown ks a n) : (a : Int) ≤ i ∧ i < n := by
  unfold runsDown at h
  obtain ⟨j, hj, rfl⟩ := List.mem_map.1 h
  have := List.mem_range'_1.1 (List.mem_filter.1 (List.mem_reverse.1 hj)).1
  omega
theorem setAll_get (b : Bool) (l : List Int) (j : Nat) : ∀ ks : List Kd, (∀ i ∈ l, (j : Int) < i) → kdAt (setAll b ks l) j = kdAt ks j := by
  induction l with
  | nil => intro ks _; rfl
  | cons i r ih =>
    intro ks h
    have h1 := ih (setR b ks i) (fun x hx => h x (by simp [hx]))
    have h2 : kdAt (setR b ks i) j = kdAt ks j := by
      have := h i (by simp)
      unfold kdAt setR
      rw [List.getD_eq_getElem?_getD, List.getD_eq_getElem?_getD, List.getElem?_set_ne (by omega)]
    unfold setAll at h1 ⊢
    rw [List.foldl_cons, h1, h2]

def downH (s : SSt) (ks : List Kd) (p : List Int) (q : List Int × List Int × Int) (now : Int) : (List Int × List Int × Bool × Int) × SSt :=
  ((q.1, q.2.1, false, 0), { s with last := now, kids := setAll true (setAll false ks q.1) q.2.1, past := p })
def downO (s : SSt) (ks : List Kd) (p : List Int) (now : Int) : (List Int × List Int × Bool × Int) × SSt :=
  ((runsDown ks 0 ks.length, [], true, 0), { s with last := now, kids := setAll false ks (runsDown ks 0 ks.length), past := p, over := true })
def downG (s : SSt) (ks : List Kd) (p : List Int × Bool × Int) (kid now : Int) : (List Int × List Int × Bool × Int) × SSt :=
  if p.2.1 = true then downO s ks p.1 now else downH s ks p.1 (planF s.strategy (prs ks) kid) now
/-- what Down answers: who is stopped, who is started, over, the fault; the state behind -/
def downF (s : SSt) (kid now : Int) : (List Int × List Int × Bool × Int) × SSt :=
  if s.over = true then (([], [], false, 15), s)
  else if kid < 0 ∨ (s.kids.length : Int) ≤ kid ∨ ¬ isT now ∨ now < s.last then (([], [], false, 1), s)
  else if (kdAt s.kids kid.toNat).runs = false then (([], [], false, 13), s)
  else if (kdAt s.kids kid.toNat).keep = false then (([], [], false, 0), { s with last := now, kids := setR false s.kids kid })
  else downG s (setR false s.kids kid) (pastF s.past now s.most s.window) kid now

structure SBox (ty : TypeId) (w : World) (base B : Nat) (kv pv : Value) (s : SSt) : Prop where
  blk : Blk w B ty [.int .i64 s.strategy, .int .i64 s.most, .int .i64 s.window, kv, pv, .int .i64 s.last, .bool s.over]
  kids : Ok encKd 2 w base 74 kv s.kids
  past : OwnI w base .i64 3 pv s.past
  le : base ≤ B
  base : base ≤ w.heap.size
def footS (B : Nat) (kv pv : Value) (k : Nat) : Prop := k = B ∨ kv.ownBlock = some k ∨ pv.ownBlock = some k
theorem blk_ne2 {w : World} {B : Nat} {ty E : TypeId} {cs : List Value} {base size : Nat} {v : Value} {n : Nat} {xs : List Value} (h : Blk w B ty cs) (ho : w.ownsRow base E size v n xs) (hne : (ty == E) = false) : v.ownBlock ≠ some B := by
  intro e
  rcases ho.2 with ⟨e2, _⟩ | ⟨g, cap, cur, e2, _, hh, _⟩
  · rw [e2] at e; simp [Value.ownBlock] at e
  · rw [e2] at e
    simp only [Value.ownBlock, Option.some.injEq] at e
    subst e
    unfold Blk at h
    rw [h] at hh
    simp only [Option.some.injEq, Obj.cells.injEq] at hh
    rw [hh.2.1] at hne
    simp at hne
/-- rows of two types lie apart -/
theorem row_ne {w : World} {b1 b2 s1 s2 n1 n2 : Nat} {E1 E2 : TypeId} {v1 v2 : Value} {x1 x2 : List Value} (h1 : w.ownsRow b1 E1 s1 v1 n1 x1) (h2 : w.ownsRow b2 E2 s2 v2 n2 x2) (hne : (E1 == E2) = false) : ∀ k, v1.ownBlock = some k → v2.ownBlock ≠ some k := by
  intro k e1 e2
  rcases h1.2 with ⟨e, _⟩ | ⟨g, cap, cur, e, _, hh, _⟩
  · rw [e] at e1; simp [Value.ownBlock] at e1
  · rcases h2.2 with ⟨e', _⟩ | ⟨g', cap', cur', e', _, hh', _⟩
    · rw [e'] at e2; simp [Value.ownBlock] at e2
    · rw [e] at e1; rw [e'] at e2
      simp only [Value.ownBlock, Option.some.injEq] at e1 e2
      subst e1 e2
      rw [hh] at hh'
      simp only [Option.some.injEq, Obj.cells.injEq] at hh'
      rw [hh'.2.1] at hne
      simp at hne
theorem SBox.below {ty : TypeId} {w w' : World} {base B : Nat} {kv pv : Value} {s : SSt} (h : SBox ty w base B kv pv s) (hb : Below w.heap.size w w') : SBox ty w' base B kv pv s :=
  ⟨h.blk.below hb, own_below h.kids hb, h.past.below hb, h.le, Nat.le_trans h.base hb.size⟩
/-- the kids' row: a store of who runs -/
theorem kd_set (ks : List Kd) (k : Nat) (b : Bool) (hk : k < ks.length) : (ks.flatMap encKd).set (k * 2) (.bool b) = (setR b ks k).flatMap encKd := by
  unfold setR kdAt
  rw [show ((k : Int).toNat) = k from by omega, List.getD_eq_getElem?_getD, List.getElem?_eq_getElem hk]
  show _ = (ks.set k ⟨b, ks[k].keep⟩).flatMap encKd
  induction ks generalizing k with
  | nil => simp at hk
  | cons x r ih =>
    cases k with
    | zero => simp [encKd]
    | succ k =>
      have := ih k (by simpa using hk)
      rw [List.flatMap_cons, List.set_cons_succ, List.flatMap_cons, List.getElem_cons_succ, ← this, show (k + 1) * 2 = k * 2 + 1 + 1 from by omega]
      simp [encKd]
theorem kd_stored {w : World} {base g cap : Nat} {ks : List Kd} (h : Ok encKd 2 w base 74 (.slice (some ⟨g, 0, none⟩) ks.length cap) ks) (k : Nat) (b : Bool) (hk : k < ks.length) :
    Ok encKd 2 (w.setCell ⟨g, k * 2, none⟩ (.bool b)) base 74 (.slice (some ⟨g, 0, none⟩) ks.length cap) (setR b ks k) := by
  have h0 : w.ownsRow base 74 2 (.slice (some ⟨g, 0, none⟩) ks.length cap) ks.length (ks.flatMap encKd) := h
  obtain ⟨h1, _⟩ := h0.stored (k * 2) (.bool b)
  rw [kd_set ks k b hk] at h1
  show World.ownsRow _ _ _ _ _ (setR b ks k).length _
  rw [setR_len]
  exact h1
theorem kd_cells {w : World} {base g cap n : Nat} {ks : List Kd} (h : Ok encKd 2 w base 74 (.slice (some ⟨g, 0, none⟩) n cap) ks) (k : Nat) (hk : k < ks.length) :
    w.cell? ⟨g, k * 2, none⟩ = some (.bool (kdAt ks k).runs) ∧ w.cell? ⟨g, k * 2 + 1, none⟩ = some (.bool (kdAt ks k).keep) ∧ w.frozen? ⟨g, k * 2, none⟩ = false := by
  have hl := h.lk
  obtain ⟨rfl, _, _, hc⟩ := lk_cells hl encKd_len (by decide) (by omega)
  have h0 : w.ownsRow base 74 2 (.slice (some ⟨g, 0, none⟩) ks.length cap) ks.length (ks.flatMap encKd) := h
  have e : kdAt ks k = ks[k] := by unfold kdAt; rw [List.getD_eq_getElem?_getD, List.getElem?_eq_getElem hk]; rfl
  rw [e]
  refine ⟨?_, ?_, h0.frozenAt _⟩
  · have := hc k hk 0 (by decide); simpa [encKd] using this
  · have := hc k hk 1 (by decide); simpa [encKd] using this
end Go.Proofs.Ytpapblahnbeccaa
