/-
  TIMERS, the plain law: the program's clock and the reference's tell the same. No condition.
-/
import Derived.Test.YtalookaaogiinaaTmN
namespace Go.Proofs.Ytalookaaogiinaa

structure PT where
  now : Int
  turn : Int
  set : List Tm
structure RT where
  now : Int
  L : List (Int × Int)
def fstI {α : Type} (q : α → Bool) (l : List α) : Int := match l.findIdx? q with
  | none => -1
  | some i => i
theorem fstI_bounds {α : Type} (q : α → Bool) (l : List α) : -1 ≤ fstI q l ∧ fstI q l < l.length := by
  unfold fstI
  cases h : l.findIdx? q with
  | none => simp only; omega
  | some i =>
    have := (List.findIdx?_eq_some_iff_getElem.1 h).1
    simp only; omega
theorem fstI_neg {α : Type} (q : α → Bool) (l : List α) : fstI q l < 0 ↔ ∀ x ∈ l, q x = false := by
  unfold fstI
  cases h : l.findIdx? q with
  | none =>
    simp only
    rw [List.findIdx?_eq_none_iff] at h
    exact ⟨fun _ => h, fun _ => by decide⟩
  | some i =>
    simp only
    obtain ⟨h1, h2, _⟩ := List.findIdx?_eq_some_iff_getElem.1 h
    refine ⟨fun g => by omega, fun g => ?_⟩
    rw [g _ (List.getElem_mem h1)] at h2
    simp at h2
theorem fstI_some {α : Type} (q : α → Bool) (l : List α) (h : ¬ fstI q l < 0) : ∃ (i : Nat) (hi : i < l.length), fstI q l = i ∧ q l[i] = true ∧ ∀ j (hj : j < i), q (l[j]'(by omega)) = false := by
  unfold fstI at *
  cases g : l.findIdx? q with
  | none => rw [g] at h; simp at h
  | some i =>
    obtain ⟨h1, h2, h3⟩ := List.findIdx?_eq_some_iff_getElem.1 g
    exact ⟨i, h1, rfl, h2, fun j hj => by simpa using h3 j hj⟩
def setE (now wait : Int) (busy : Bool) (n : Nat) : Int :=
  if wait < 1 ∨ 1099511627776 < wait then 1 else if busy = true then 14 else if 32 ≤ n then 16 else if 1099511627776 - now < wait then 2 else 0
def tickTE (now n : Int) : Int := if n < 0 ∨ 1099511627776 - now < n then 1 else 0
/-! the program's -/
def findP (s : PT) (id : Int) : Int := fstI (fun t => decide (t.id = id)) s.set
def setP (s : PT) (id wait : Int) : PT := if setE s.now wait (decide (0 ≤ findP s id)) s.set.length = 0 then { s with turn := s.turn + 1, set := pushL s.set ⟨id, s.now + wait, s.turn + 1⟩ } else s
def dropP (s : PT) (id : Int) : PT := if 0 ≤ findP s id then { s with set := remL s.set (findP s id).toNat } else s
def popsP : Nat → List Tm → Int → List Int × List Tm
  | 0, l, _ => ([], l)
  | n + 1, l, now => if 0 < l.length ∧ (at0 l 0).due ≤ now then ((at0 l 0).id :: (popsP n (popL l) now).1, (popsP n (popL l) now).2) else ([], l)
/-! the reference's -/
def findR (r : RT) (id : Int) : Int := fstI (fun t => decide (t.1 = id)) r.L
def setR (r : RT) (id wait : Int) : RT := if setE r.now wait (decide (0 ≤ findR r id)) r.L.length = 0 then { r with L := r.L ++ [(id, r.now + wait)] } else r
def dropR (r : RT) (id : Int) : RT := if 0 ≤ findR r id then { r with L := r.L.eraseIdx (findR r id).toNat } else r
def due0 (L : List (Int × Int)) (i : Int) : Int := (L.getD i.toNat (0, 0)).2
def fdR (L : List (Int × Int)) (now : Int) : Nat → Int
  | 0 => -1
  | k + 1 => if due0 L k ≤ now ∧ (fdR L now k < 0 ∨ due0 L k < due0 L (fdR L now k)) then (k : Int) else fdR L now k
def popsR : Nat → RT → List Int × RT
  | 0, r => ([], r)
  | n + 1, r => if fdR r.L r.now r.L.length < 0 then ([], r) else ((r.L.getD (fdR r.L r.now r.L.length).toNat (0, 0)).1 :: (popsR n (dropR r (r.L.getD (fdR r.L r.now r.L.length).toNat (0, 0)).1)).1, (popsR n (dropR r (r.L.getD (fdR r.L r.now r.L.length).toNat (0, 0)).1)).2)
def leastR (L : List (Int × Int)) : Int := L.foldl (fun a x => min a x.2) 1099511627777

def two (t : Tm) : Int × Int := (t.id, t.due)
structure RelT (p : PT) (r : RT) (ts : List Tm) : Prop where
  now : r.now = p.now
  now0 : 0 ≤ p.now ∧ p.now ≤ 1099511627776
  heap : Heap p.set p.set.length
  perm : p.set.Perm ts
  list : r.L = ts.map two
  turns : ts.Pairwise (fun a b => a.turn < b.turn)
  ids : ts.Pairwise (fun a b => a.id ≠ b.id)
  last : ∀ t ∈ ts, t.turn ≤ p.turn ∧ t.due ≤ 1099511627776
  few : p.set.length ≤ 32

theorem rel_len {p : PT} {r : RT} {ts : List Tm} (h : RelT p r ts) : r.L.length = p.set.length := by rw [h.list, List.length_map, h.perm.length_eq]
theorem rel_busy {p : PT} {r : RT} {ts : List Tm} (h : RelT p r ts) (id : Int) : decide (0 ≤ findR r id) = decide (0 ≤ findP p id) := by
  have e : findR r id < 0 ↔ findP p id < 0 := by
    unfold findR findP
    rw [fstI_neg, fstI_neg, h.list]
    constructor
    · intro g x hx
      have := g (two x) (List.mem_map_of_mem (h.perm.mem_iff.1 hx))
      exact this
    · intro g x hx
      obtain ⟨y, hy, rfl⟩ := List.mem_map.1 hx
      exact g y (h.perm.mem_iff.2 hy)
  rw [Bool.eq_iff_iff]
  simp only [decide_eq_true_eq]
  omega
theorem rel_set {p : PT} {r : RT} {ts : List Tm} (h : RelT p r ts) (id wait : Int) : (∃ ts', RelT (setP p id wait) (setR r id wait) ts') ∧ setE r.now wait (decide (0 ≤ findR r id)) r.L.length = setE p.now wait (decide (0 ≤ findP p id)) p.set.length := by
  have e : setE r.now wait (decide (0 ≤ findR r id)) r.L.length = setE p.now wait (decide (0 ≤ findP p id)) p.set.length := by rw [rel_busy h, rel_len h, h.now]
  refine ⟨?_, e⟩
  unfold setP setR
  rw [e]
  by_cases h0 : setE p.now wait (decide (0 ≤ findP p id)) p.set.length = 0
  · rw [if_pos h0, if_pos h0]
    have hb := h.now0
    unfold setE at h0
    split at h0
    · simp at h0
    rename_i c1
    split at h0
    · simp at h0
    rename_i c2
    split at h0
    · simp at h0
    rename_i c3
    split at h0
    · simp at h0
    rename_i c4
    have hno : ∀ t ∈ ts, t.id ≠ id := by
      intro t ht e
      have : findP p id < 0 := by
        have : ¬ 0 ≤ findP p id := fun g => c2 (decide_eq_true g)
        omega
      unfold findP at this
      rw [fstI_neg] at this
      have := this t (h.perm.mem_iff.2 ht)
      simp [e] at this
    obtain ⟨g1, g2⟩ := push_heap h.heap ⟨id, p.now + wait, p.turn + 1⟩
    refine ⟨ts ++ [⟨id, p.now + wait, p.turn + 1⟩], { h with heap := g1, perm := ?_, list := ?_, turns := ?_, ids := ?_, last := ?_, few := ?_ }⟩
    · exact (g2.trans (h.perm.cons _)).trans (List.perm_append_comm (l₁ := [_]) (l₂ := ts))
    · show r.L ++ [(id, r.now + wait)] = _
      rw [h.list, List.map_append, h.now]
      rfl
    · rw [List.pairwise_append]
      refine ⟨h.turns, List.pairwise_singleton _ _, ?_⟩
      intro a ha b hb
      rw [List.mem_singleton.1 hb]
      have := (h.last a ha).1
      show a.turn < p.turn + 1
      omega
    · rw [List.pairwise_append]
      refine ⟨h.ids, List.pairwise_singleton _ _, ?_⟩
      intro a ha b hb
      rw [List.mem_singleton.1 hb]
      exact hno a ha
    · intro t ht
      rcases List.mem_append.1 ht with g | g
      · have := h.last t g
        show t.turn ≤ p.turn + 1 ∧ _
        omega
      · rw [List.mem_singleton.1 g]
        show p.turn + 1 ≤ p.turn + 1 ∧ p.now + wait ≤ 1099511627776
        omega
    · show (pushL p.set _).length ≤ 32
      rw [g2.length_eq]
      simp
      omega
  · rw [if_neg h0, if_neg h0]
    exact ⟨ts, h⟩
/-- one of the list is struck out -/
theorem rel_strike {p : PT} {r : RT} {A B : List Tm} {x : Tm} {hs : List Tm} (h : RelT p r (A ++ x :: B)) (hh : Heap hs hs.length) (hp : (x :: hs).Perm p.set) : RelT { p with set := hs } { r with L := r.L.eraseIdx A.length } (A ++ B) ∧ findR r x.id = A.length := by
  have hq : hs.Perm (A ++ B) := List.Perm.cons_inv ((hp.trans h.perm).trans List.perm_middle)
  have hsub : (A ++ B).Sublist (A ++ x :: B) := List.Sublist.append_left (List.sublist_cons_self x B) A
  refine ⟨{ h with heap := hh, perm := hq, list := ?_, turns := h.turns.sublist hsub, ids := h.ids.sublist hsub, last := fun t ht => h.last t (hsub.subset ht), few := ?_ }, ?_⟩
  · show r.L.eraseIdx A.length = _
    rw [h.list, List.map_append, List.map_append, List.map_cons]
    rw [List.eraseIdx_append_of_length_le (by simp)]
    simp
  · have := hp.length_eq
    have := h.few
    show hs.length ≤ 32
    simp at *
    omega
  · unfold findR fstI
    have : r.L.findIdx? (fun t => decide (t.1 = x.id)) = some A.length := by
      rw [List.findIdx?_eq_some_iff_getElem]
      refine ⟨by rw [h.list]; simp, ?_, ?_⟩
      · simp [h.list, two]
      · intro j hj
        have hi := h.ids
        rw [List.pairwise_append] at hi
        have := hi.2.2 A[j] (List.getElem_mem hj) x List.mem_cons_self
        simp only [h.list, List.map_append, List.map_cons]
        rw [List.getElem_append_left (by simpa using hj)]
        simpa [two] using this
    rw [this]
theorem split_of {p : PT} {r : RT} {ts : List Tm} (h : RelT p r ts) (k : Nat) (hk : k < p.set.length) : ∃ A B, ts = A ++ at0 p.set k :: B := by
  have : at0 p.set k ∈ ts := h.perm.mem_iff.1 (by rw [at_eq hk]; exact List.getElem_mem hk)
  exact List.append_of_mem this
theorem rel_drop {p : PT} {r : RT} {ts : List Tm} (h : RelT p r ts) (id : Int) : (∃ ts', RelT (dropP p id) (dropR r id) ts') ∧ decide (0 ≤ findR r id) = decide (0 ≤ findP p id) := by
  have e := rel_busy h id
  refine ⟨?_, e⟩
  unfold dropP dropR
  by_cases h0 : 0 ≤ findP p id
  · have h1 : 0 ≤ findR r id := by
      rw [decide_eq_true h0] at e
      exact of_decide_eq_true e
    rw [if_pos h0, if_pos h1]
    obtain ⟨i, hi, g1, g2, _⟩ := fstI_some (fun t : Tm => decide (t.id = id)) p.set (by unfold findP at h0; omega)
    have g1 : findP p id = i := g1
    rw [g1]
    obtain ⟨k1, k2⟩ := rem_heap h.heap i hi
    obtain ⟨A, B, hts⟩ := split_of h i hi
    subst hts
    obtain ⟨q1, q2⟩ := rel_strike h k1 k2
    have hid : (at0 p.set i).id = id := by rw [at_eq hi]; exact of_decide_eq_true g2
    rw [hid] at q2
    rw [q2]
    exact ⟨A ++ B, q1⟩
  · have h1 : ¬ 0 ≤ findR r id := by
      rw [decide_eq_false h0] at e
      exact of_decide_eq_false e
    rw [if_neg h0, if_neg h1]
    exact ⟨ts, h⟩
theorem rel_tickT {p : PT} {r : RT} {ts : List Tm} (h : RelT p r ts) (n : Int) (hn : 0 ≤ n ∧ p.now + n ≤ 1099511627776) : RelT { p with now := p.now + n } { r with now := r.now + n } ts := by
  have := h.now0
  exact { h with now := by show r.now + n = p.now + n; rw [h.now], now0 := by show 0 ≤ p.now + n ∧ p.now + n ≤ 1099511627776; omega }

/-! the first one that is due -/
theorem due_at {ts : List Tm} {k : Nat} (hk : k < ts.length) : due0 (ts.map two) k = ts[k].due := by
  simp [due0, List.getD, hk, two]
/-- what stands behind k rounds -/
theorem fdR_spec (ts : List Tm) (now : Int) (k : Nat) (hk : k ≤ ts.length) : (fdR (ts.map two) now k < 0 ∧ ∀ j (hj : j < k), now < (ts[j]'(by omega)).due) ∨
    ∃ i : Nat, ∃ hi : i < k, fdR (ts.map two) now k = i ∧ (ts[i]'(by omega)).due ≤ now ∧ ∀ j (hj : j < k), now < (ts[j]'(by omega)).due ∨ (ts[i]'(by omega)).due < (ts[j]'(by omega)).due ∨ ((ts[i]'(by omega)).due = (ts[j]'(by omega)).due ∧ i ≤ j) := by
  induction k with
  | zero => left; exact ⟨by show (-1 : Int) < 0; decide, fun j hj => by omega⟩
  | succ k ih =>
    have hkl : k < ts.length := by omega
    rw [fdR, due_at hkl]
    rcases ih (by omega) with ⟨h1, h2⟩ | ⟨i, hi, h1, h2, h3⟩
    · by_cases hd : ts[k].due ≤ now
      · rw [if_pos ⟨hd, .inl h1⟩]
        right
        refine ⟨k, by omega, rfl, hd, fun j hj => ?_⟩
        by_cases e : j = k
        · subst e; exact .inr (.inr ⟨rfl, Nat.le_refl _⟩)
        · exact .inl (h2 j (by omega))
      · rw [if_neg (fun g => hd g.1)]
        left
        refine ⟨h1, fun j hj => ?_⟩
        by_cases e : j = k
        · subst e; omega
        · exact h2 j (by omega)
    · rw [h1, due_at (show i < ts.length by omega)]
      by_cases hd : ts[k].due ≤ now ∧ ((i : Int) < 0 ∨ ts[k].due < ts[i].due)
      · rw [if_pos hd]
        right
        refine ⟨k, by omega, rfl, hd.1, fun j hj => ?_⟩
        by_cases e : j = k
        · subst e; exact .inr (.inr ⟨rfl, Nat.le_refl _⟩)
        · have := h3 j (by omega)
          omega
      · rw [if_neg hd]
        right
        refine ⟨i, by omega, rfl, h2, fun j hj => ?_⟩
        by_cases e : j = k
        · subst e
          omega
        · exact h3 j (by omega)
/-- the heap's head is the one -/
theorem rel_first {p : PT} {r : RT} {ts : List Tm} (h : RelT p r ts) (h0 : 0 < p.set.length) (hd : (at0 p.set 0).due ≤ p.now) : ∃ A B, ts = A ++ at0 p.set 0 :: B ∧ fdR r.L r.now r.L.length = A.length := by
  obtain ⟨A, B, hts⟩ := split_of h 0 h0
  refine ⟨A, B, hts, ?_⟩
  have hl : r.L.length = ts.length := by rw [h.list, List.length_map]
  have hA : A.length < ts.length := by rw [hts]; simp
  have hat : ts[A.length] = at0 p.set 0 := by simp [hts]
  rw [hl, h.list, h.now]
  have hmin : ∀ t ∈ ts, lessT t (at0 p.set 0) = false := by
    intro t ht
    obtain ⟨k, hk, e⟩ := List.getElem_of_mem (h.perm.mem_iff.2 ht)
    have := heap_head h.heap k hk
    rw [at_eq hk, e] at this
    exact this
  rcases fdR_spec ts p.now ts.length (Nat.le_refl _) with ⟨_, g⟩ | ⟨i, hi, g1, g2, g3⟩
  · have := g A.length hA
    rw [hat] at this
    omega
  · rw [g1]
    have m1 := hmin ts[i] (List.getElem_mem hi)
    have m2 := g3 A.length hA
    rw [hat] at m2
    rw [lessT_not] at m1
    have ht := List.pairwise_iff_getElem.1 h.turns
    by_cases e : i = A.length
    · rw [e]
    · exfalso
      rcases Nat.lt_or_ge i A.length with c | c
      · have := ht i A.length hi hA c
        rw [hat] at this
        omega
      · omega
theorem rel_none {p : PT} {r : RT} {ts : List Tm} (h : RelT p r ts) (h0 : ¬ (0 < p.set.length ∧ (at0 p.set 0).due ≤ p.now)) : fdR r.L r.now r.L.length < 0 := by
  have hl : r.L.length = ts.length := by rw [h.list, List.length_map]
  rw [hl, h.list, h.now]
  rcases fdR_spec ts p.now ts.length (Nat.le_refl _) with ⟨g, _⟩ | ⟨i, hi, g1, g2, g3⟩
  · exact g
  · exfalso
    obtain ⟨k, hk, e⟩ := List.getElem_of_mem (h.perm.mem_iff.2 (List.getElem_mem hi))
    have hm := heap_head h.heap k hk
    rw [at_eq hk, e, lessT_not] at hm
    apply h0
    refine ⟨by omega, by omega⟩
theorem rel_pops (n : Nat) : ∀ {p : PT} {r : RT} {ts : List Tm}, RelT p r ts → (∃ ts', RelT { p with set := (popsP n p.set p.now).2 } (popsR n r).2 ts') ∧ (popsR n r).1 = (popsP n p.set p.now).1 := by
  induction n with
  | zero => intro p r ts h; exact ⟨⟨ts, h⟩, rfl⟩
  | succ n ih =>
    intro p r ts h
    rw [popsP, popsR]
    by_cases h0 : 0 < p.set.length ∧ (at0 p.set 0).due ≤ p.now
    · obtain ⟨A, B, hts, hf⟩ := rel_first h h0.1 h0.2
      rw [if_pos h0, if_neg (by omega), hf]
      obtain ⟨k1, k2⟩ := pop_heap h.heap h0.1
      subst hts
      obtain ⟨q1, q2⟩ := rel_strike h k1 k2
      have hid : (r.L.getD ((A.length : Int)).toNat (0, 0)).1 = (at0 p.set 0).id := by
        rw [h.list]; simp [List.getD, two]
      have hdr : dropR r (at0 p.set 0).id = { r with L := r.L.eraseIdx A.length } := by
        unfold dropR
        rw [q2, if_pos (by omega)]
        rfl
      rw [hid, hdr]
      obtain ⟨i1, i2⟩ := ih q1
      refine ⟨i1, ?_⟩
      show _ :: _ = _ :: _
      rw [i2]
    · rw [if_neg h0, if_pos (rel_none h h0)]
      exact ⟨⟨ts, h⟩, rfl⟩
theorem foldl_min (L : List (Int × Int)) : ∀ (a : Int), L.foldl (fun a x => min a x.2) a ≤ a ∧ (∀ x ∈ L, L.foldl (fun a x => min a x.2) a ≤ x.2) ∧ (L.foldl (fun a x => min a x.2) a = a ∨ ∃ x ∈ L, L.foldl (fun a x => min a x.2) a = x.2) := by
  induction L with
  | nil => intro a; exact ⟨Int.le_refl _, (fun x hx => by cases hx), .inl rfl⟩
  | cons y L ih =>
    intro a
    obtain ⟨h1, h2, h3⟩ := ih (min a y.2)
    rw [List.foldl_cons]
    refine ⟨by omega, ?_, ?_⟩
    · intro x hx
      rcases List.mem_cons.1 hx with e | e
      · subst e; omega
      · exact h2 x e
    · rcases h3 with e | ⟨x, hx, e⟩
      · rw [e]
        by_cases g : a ≤ y.2
        · left; omega
        · right; exact ⟨y, List.mem_cons_self, by omega⟩
      · right; exact ⟨x, List.mem_cons_of_mem _ hx, e⟩
theorem rel_next {p : PT} {r : RT} {ts : List Tm} (h : RelT p r ts) (h0 : 0 < p.set.length) : leastR r.L = (at0 p.set 0).due := by
  have hm : at0 p.set 0 ∈ ts := h.perm.mem_iff.1 (by rw [at_eq h0]; exact List.getElem_mem h0)
  obtain ⟨g1, g2, g3⟩ := foldl_min r.L 1099511627777
  have hle := g2 (two (at0 p.set 0)) (by rw [h.list]; exact List.mem_map_of_mem hm)
  have hle : leastR r.L ≤ (at0 p.set 0).due := hle
  rcases g3 with e | ⟨x, hx, e⟩
  · have := (h.last _ hm).2
    have e : leastR r.L = 1099511627777 := e
    omega
  · rw [h.list] at hx
    obtain ⟨t, ht, rfl⟩ := List.mem_map.1 hx
    obtain ⟨k, hk, e2⟩ := List.getElem_of_mem (h.perm.mem_iff.2 ht)
    have := heap_head h.heap k hk
    rw [at_eq hk, e2, lessT_not] at this
    have e : leastR r.L = t.due := e
    omega
theorem rel_newT : RelT ⟨0, 0, []⟩ ⟨0, []⟩ [] := ⟨rfl, ⟨Int.le_refl _, by decide⟩, (fun k _ hk => by simp at hk), List.Perm.refl _, rfl, List.Pairwise.nil, List.Pairwise.nil, (fun t ht => by cases ht), by decide⟩
end Go.Proofs.Ytalookaaogiinaa
