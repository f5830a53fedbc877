/-
  TIMERS, the plain law of a heap: Push, Pop, Remove keep the heap; its head is the first. No condition.
-/
import Derived.Test.YtalookaaogiinaaBase
namespace Go.Proofs.Ytalookaaogiinaa

structure Tm where
  id : Int
  due : Int
  turn : Int
instance : Inhabited Tm := ⟨⟨0, 0, 0⟩⟩
/-- what Less tells -/
def lessT (a b : Tm) : Bool := if a.due = b.due then decide (a.turn < b.turn) else decide (a.due < b.due)
theorem lessT_iff (a b : Tm) : lessT a b = true ↔ a.due < b.due ∨ (a.due = b.due ∧ a.turn < b.turn) := by
  unfold lessT
  split <;> simp <;> omega
theorem lessT_not (a b : Tm) : lessT a b = false ↔ b.due < a.due ∨ (a.due = b.due ∧ b.turn ≤ a.turn) := by
  rw [← Bool.not_eq_true, lessT_iff]
  omega
theorem le_trans {a b c : Tm} (h : lessT a b = false) (k : lessT b c = false) : lessT a c = false := by
  rw [lessT_not] at *
  omega
theorem le_of_less {a b : Tm} (h : lessT a b = true) : lessT b a = false := by
  rw [lessT_iff] at h
  rw [lessT_not]
  omega
theorem le_self (a : Tm) : lessT a a = false := by rw [lessT_not]; omega
def at0 (l : List Tm) (i : Nat) : Tm := l.getD i default
def swapL (l : List Tm) (i j : Nat) : List Tm := (l.set i (at0 l j)).set j (at0 l i)
theorem swapL_len (l : List Tm) (i j : Nat) : (swapL l i j).length = l.length := by simp [swapL]
theorem at_eq {l : List Tm} {i : Nat} (h : i < l.length) : at0 l i = l[i] := by simp [at0, List.getD, h]
theorem at_set {l : List Tm} {i j : Nat} {x : Tm} (h : i < l.length) : at0 (l.set i x) j = if i = j then x else at0 l j := by
  unfold at0
  simp only [List.getD, List.getElem?_set]
  by_cases e : i = j
  · subst e; simp [h]
  · simp [e]
theorem at_swap {l : List Tm} {i j k : Nat} (hi : i < l.length) (hj : j < l.length) : at0 (swapL l i j) k = if k = j then at0 l i else if k = i then at0 l j else at0 l k := by
  unfold swapL
  rw [at_set (by simpa using hj), at_set hi]
  by_cases h1 : j = k
  · rw [if_pos h1, if_pos (show k = j from h1.symm)]
  · rw [if_neg h1, if_neg (show ¬ k = j from fun e => h1 e.symm)]
    by_cases h2 : i = k
    · rw [if_pos h2, if_pos (show k = i from h2.symm)]
    · rw [if_neg h2, if_neg (show ¬ k = i from fun e => h2 e.symm)]
theorem swapL_perm {l : List Tm} {i j : Nat} (hi : i < l.length) (hj : j < l.length) : (swapL l i j).Perm l := by
  unfold swapL
  rw [at_eq hi, at_eq hj]
  exact List.set_set_perm hi hj
/-- what heap.up leaves -/
def upL : Nat → List Tm → Nat → List Tm
  | 0, l, _ => l
  | n + 1, l, j => if (j - 1) / 2 = j ∨ lessT (at0 l j) (at0 l ((j - 1) / 2)) = false then l else upL n (swapL l ((j - 1) / 2) j) ((j - 1) / 2)
def kid (l : List Tm) (i n : Nat) : Nat := if 2 * i + 2 < n ∧ lessT (at0 l (2 * i + 2)) (at0 l (2 * i + 1)) = true then 2 * i + 2 else 2 * i + 1
/-- what heap.down leaves, and where it ends -/
def downL : Nat → List Tm → Nat → Nat → List Tm × Nat
  | 0, l, i, _ => (l, i)
  | m + 1, l, i, n => if n ≤ 2 * i + 1 ∨ lessT (at0 l (kid l i n)) (at0 l i) = false then (l, i) else downL m (swapL l i (kid l i n)) (kid l i n) n
theorem upL_len (n : Nat) : ∀ (l : List Tm) (j : Nat), (upL n l j).length = l.length := by
  induction n with
  | zero => intro l j; rfl
  | succ n ih => intro l j; rw [upL]; split; rfl; rw [ih, swapL_len]
theorem downL_len (m : Nat) : ∀ (l : List Tm) (i n : Nat), (downL m l i n).1.length = l.length := by
  induction m with
  | zero => intro l i n; rfl
  | succ m ih => intro l i n; rw [downL]; split; rfl; rw [ih, swapL_len]
theorem upL_perm (n : Nat) : ∀ (l : List Tm) (j : Nat), j < l.length → (upL n l j).Perm l := by
  induction n with
  | zero => intro l j _; exact List.Perm.refl _
  | succ n ih =>
    intro l j hj
    rw [upL]
    split
    · exact List.Perm.refl _
    · exact (ih _ _ (by rw [swapL_len]; omega)).trans (swapL_perm (by omega) hj)
theorem kid_lt (l : List Tm) (i n : Nat) (h : 2 * i + 1 < n) : kid l i n < n ∧ i < kid l i n ∧ (kid l i n = 2 * i + 1 ∨ kid l i n = 2 * i + 2) := by
  unfold kid
  split <;> omega
theorem downL_perm (m : Nat) : ∀ (l : List Tm) (i n : Nat), i < l.length → n ≤ l.length → (downL m l i n).1.Perm l := by
  induction m with
  | zero => intro l i n _ _; exact List.Perm.refl _
  | succ m ih =>
    intro l i n hi hn
    rw [downL]
    split
    · exact List.Perm.refl _
    · rename_i h
      have hk := kid_lt l i n (by omega)
      exact (ih _ _ _ (by rw [swapL_len]; omega) (by rw [swapL_len]; omega)).trans (swapL_perm hi (by omega))
/-- what lies behind n is not touched by down -/
theorem downL_far (m : Nat) : ∀ (l : List Tm) (i n k : Nat), i < n → n ≤ l.length → n ≤ k → at0 (downL m l i n).1 k = at0 l k := by
  induction m with
  | zero => intro l i n k _ _ _; rfl
  | succ m ih =>
    intro l i n k hi hn hk
    rw [downL]
    split
    · rfl
    · rename_i h
      have hk2 := kid_lt l i n (by omega)
      rw [ih _ _ _ _ (by omega) (by rw [swapL_len]; omega) hk, at_swap (by omega) (by omega), if_neg (by omega), if_neg (by omega)]
def par (k : Nat) : Nat := (k - 1) / 2
/-- the first n are a heap -/
def Heap (l : List Tm) (n : Nat) : Prop := ∀ k, 0 < k → k < n → lessT (at0 l k) (at0 l (par k)) = false
theorem heap_head {l : List Tm} {n : Nat} (h : Heap l n) (k : Nat) (hk : k < n) : lessT (at0 l k) (at0 l 0) = false := by
  induction k using Nat.strongRecOn with
  | _ k ih =>
    rcases Nat.eq_zero_or_pos k with e | e
    · subst e; exact le_self _
    · exact le_trans (h k e hk) (ih (par k) (by unfold par; omega) (by unfold par; omega))
/-- a heap but for the way up from j -/
structure HeapUp (l : List Tm) (n j : Nat) : Prop where
  most : ∀ k, 0 < k → k < n → k ≠ j → lessT (at0 l k) (at0 l (par k)) = false
  kids : ∀ k, 0 < k → k < n → par k = j → 0 < j → lessT (at0 l k) (at0 l (par j)) = false
theorem up_heap (m : Nat) : ∀ (l : List Tm) (n j : Nat), j ≤ m → j < n → n ≤ l.length → HeapUp l n j → Heap (upL (m + 1) l j) n := by
  induction m with
  | zero =>
    intro l n j hm hj hn h
    have : j = 0 := by omega
    subst this
    rw [upL, if_pos (.inl rfl)]
    intro k h0 hk
    exact h.most k h0 hk (by omega)
  | succ m ih =>
    intro l n j hm hj hn h
    rw [upL]
    split
    · rename_i hc
      intro k h0 hk
      by_cases e : k = j
      · subst e
        rcases hc with hc | hc
        · omega
        · exact hc
      · exact h.most k h0 hk e
    · rename_i hc
      have hj0 : 0 < j := by
        rcases Nat.eq_zero_or_pos j with e | e
        · subst e; exact absurd (.inl rfl) hc
        · exact e
      have hless : lessT (at0 l j) (at0 l (par j)) = true := by
        cases e : lessT (at0 l j) (at0 l (par j)) with
        | true => rfl
        | false => exact absurd (.inr e) hc
      have hp : par j < j := by unfold par; omega
      refine ih (swapL l (par j) j) n (par j) (by omega) (by omega) (by rw [swapL_len]; exact hn) ⟨?_, ?_⟩
      · intro k h0 hk hkp
        rw [at_swap (by omega) (by omega), at_swap (by omega) (by omega)]
        by_cases e : k = j
        · subst e
          rw [if_pos rfl, if_neg (by omega), if_pos rfl]
          exact le_of_less hless
        · rw [if_neg e, if_neg hkp]
          by_cases e2 : par k = j
          · rw [if_pos e2]
            exact h.kids k h0 hk e2 hj0
          · rw [if_neg e2]
            by_cases e3 : par k = par j
            · rw [if_pos e3]
              have := h.most k h0 hk e
              rw [e3] at this
              exact le_trans this (le_of_less hless)
            · rw [if_neg e3]
              exact h.most k h0 hk e
      · intro k h0 hk hkp hp0
        rw [at_swap (by omega) (by omega), at_swap (by omega) (by omega)]
        have q1 : par (par j) < par j := by have e9 : par (par j) = (par j - 1) / 2 := rfl; omega
        rw [if_neg (show par (par j) ≠ j by omega), if_neg (show par (par j) ≠ par j by omega)]
        have hpp := h.most (par j) hp0 (by omega) (by omega)
        by_cases e : k = j
        · subst e
          rw [if_pos rfl]
          exact hpp
        · rw [if_neg e, if_neg (by have e9 : par k = (k - 1) / 2 := rfl; omega)]
          have := h.most k h0 hk e
          rw [hkp] at this
          exact le_trans this hpp
/-- a heap but for the way down from i -/
structure HeapDn (l : List Tm) (n i : Nat) : Prop where
  most : ∀ k, 0 < k → k < n → par k ≠ i → lessT (at0 l k) (at0 l (par k)) = false
  kids : ∀ k, 0 < k → k < n → par k = i → 0 < i → lessT (at0 l k) (at0 l (par i)) = false
theorem kid_least (l : List Tm) (i n : Nat) (k : Nat) (hk : k < n) (h0 : 0 < k) (hp : par k = i) : lessT (at0 l k) (at0 l (kid l i n)) = false := by
  unfold par at hp
  unfold kid
  split
  · rename_i h
    have : k = 2 * i + 1 ∨ k = 2 * i + 2 := by omega
    rcases this with e | e
    · subst e; exact le_of_less h.2
    · subst e; exact le_self _
  · rename_i h
    have : k = 2 * i + 1 ∨ k = 2 * i + 2 := by omega
    rcases this with e | e
    · subst e; exact le_self _
    · subst e
      cases e : lessT (at0 l (2 * i + 2)) (at0 l (2 * i + 1)) with
      | false => rfl
      | true => exact absurd ⟨hk, e⟩ h
theorem down_heap (m : Nat) : ∀ (l : List Tm) (n i : Nat), n ≤ i + m → i < n → n ≤ l.length → HeapDn l n i → Heap (downL m l i n).1 n := by
  induction m with
  | zero => intro l n i hm hi hn h; omega
  | succ m ih =>
    intro l n i hm hi hn h
    rw [downL]
    split
    · rename_i hc
      intro k h0 hk
      by_cases e : par k = i
      · rcases hc with hc | hc
        · unfold par at e; omega
        · have := kid_least l i n k hk h0 e
          rw [e]
          exact le_trans this hc
      · exact h.most k h0 hk e
    · rename_i hc
      have hlt : 2 * i + 1 < n := by
        rcases Nat.lt_or_ge (2 * i + 1) n with g | g
        · exact g
        · exact absurd (.inl g) hc
      have hless : lessT (at0 l (kid l i n)) (at0 l i) = true := by
        cases e : lessT (at0 l (kid l i n)) (at0 l i) with
        | true => rfl
        | false => exact absurd (.inr e) hc
      obtain ⟨k1, k2, k3⟩ := kid_lt l i n hlt
      have hpk : par (kid l i n) = i := by unfold par; omega
      have hleast := kid_least l i n
      have hkeep := h.kids (kid l i n) (by omega) k1 hpk
      generalize kid l i n = q at *
      refine ih (swapL l i q) n q (by omega) k1 (by rw [swapL_len]; exact hn) ⟨?_, ?_⟩
      · intro k h0 hk hkp
        rw [at_swap (by omega) (by omega), at_swap (by omega) (by omega), if_neg (show par k ≠ q from hkp)]
        by_cases e : par k = i
        · rw [if_pos e]
          by_cases e2 : k = q
          · rw [if_pos e2]; exact le_of_less hless
          · rw [if_neg e2, if_neg (by unfold par at e; omega)]
            exact hleast k hk h0 e
        · rw [if_neg e]
          by_cases e2 : k = q
          · subst e2; omega
          · rw [if_neg e2]
            by_cases e3 : k = i
            · subst e3
              rw [if_pos rfl]
              exact hkeep h0
            · rw [if_neg e3]
              exact h.most k h0 hk e
      · intro k h0 hk hkp _
        have hki : k ≠ i := by unfold par at hkp; omega
        have hkq : k ≠ q := by unfold par at hkp; omega
        rw [at_swap (by omega) (by omega), at_swap (by omega) (by omega), if_neg hkq, if_neg hki, hpk, if_neg (by omega), if_pos rfl]
        have := h.most k h0 hk (by omega)
        rw [hkp] at this
        exact this
end Go.Proofs.Ytalookaaogiinaa
