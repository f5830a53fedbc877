/-
  TIMERS, the plain law: a heap and the reference's list tell the same. No condition.
-/
import Derived.Test.YtalookaaogiinaaTmM
namespace Go.Proofs.Ytalookaaogiinaa

/-! the heap as a queue -/
def pushL (l : List Tm) (x : Tm) : List Tm := upL (l.length + 1) (l ++ [x]) l.length
def popL (l : List Tm) : List Tm := (downL l.length (swapL l 0 (l.length - 1)) 0 (l.length - 1)).1.take (l.length - 1)
/-- what heap.Remove leaves -/
def remL (l : List Tm) (k : Nat) : List Tm :=
  if l.length - 1 = k then l.take (l.length - 1) else
    (if (downL l.length (swapL l k (l.length - 1)) k (l.length - 1)).2 > k then (downL l.length (swapL l k (l.length - 1)) k (l.length - 1)).1
      else upL (l.length + 1) (downL l.length (swapL l k (l.length - 1)) k (l.length - 1)).1 k).take (l.length - 1)
theorem at_take {l : List Tm} {n k : Nat} (h : k < n) : at0 (l.take n) k = at0 l k := by
  simp [at0, List.getD, h]
theorem heap_take {l : List Tm} {n : Nat} (h : Heap l n) : Heap (l.take n) n := by
  intro k h0 hk
  rw [at_take hk, at_take (by unfold par; omega)]
  exact h k h0 hk
theorem at_app {l : List Tm} {x : Tm} {k : Nat} (h : k < l.length) : at0 (l ++ [x]) k = at0 l k := by
  simp [at0, List.getD, List.getElem?_append_left h]
theorem push_heap {l : List Tm} (h : Heap l l.length) (x : Tm) : Heap (pushL l x) (pushL l x).length ∧ (pushL l x).Perm (x :: l) := by
  have hl : (pushL l x).length = l.length + 1 := by unfold pushL; rw [upL_len]; simp
  refine ⟨?_, ?_⟩
  · rw [hl]
    refine up_heap l.length _ _ _ (Nat.le_refl _) (by omega) (by simp) ⟨?_, ?_⟩
    · intro k h0 hk hne
      rw [at_app (by omega), at_app (by unfold par; omega)]
      exact h k h0 (by omega)
    · intro k h0 hk hp _
      unfold par at hp
      omega
  · exact (upL_perm _ _ _ (by simp)).trans (List.perm_append_comm (l₁ := l) (l₂ := [x]))
/-- the last one is taken off -/
theorem take_last {l : List Tm} (h : 0 < l.length) : (at0 l (l.length - 1) :: l.take (l.length - 1)).Perm l := by
  have e : l = l.take (l.length - 1) ++ [at0 l (l.length - 1)] := by
    rw [at_eq (by omega)]
    conv => lhs; rw [← List.take_append_drop (l.length - 1) l]
    congr 1
    rw [List.drop_eq_getElem_cons (by omega)]
    congr 1
    rw [List.drop_eq_nil_iff]; omega
  exact (List.perm_append_comm (l₁ := [at0 l (l.length - 1)]) (l₂ := l.take (l.length - 1))).trans (List.Perm.of_eq e.symm)
theorem heap_swapdn {l : List Tm} {k : Nat} (h : Heap l l.length) (hk : k < l.length - 1) (hup : k = 0 ∨ lessT (at0 l (l.length - 1)) (at0 l (par k)) = false) : HeapDn (swapL l k (l.length - 1)) (l.length - 1) k := by
  refine ⟨?_, ?_⟩
  · intro j h0 hj hp
    have e9 : par j = (j - 1) / 2 := rfl
    have hjn : ¬ j = l.length - 1 := by omega
    have hpn : ¬ par j = l.length - 1 := by omega
    rw [at_swap (by omega) (by omega), at_swap (by omega) (by omega)]
    simp only [hjn, hpn, hp, if_false]
    by_cases e : j = k
    · subst e
      rw [if_pos rfl]
      rcases hup with e | e
      · omega
      · exact e
    · rw [if_neg e]
      exact h j h0 (by omega)
  · intro j h0 hj hp hk0
    have e9 : par j = (j - 1) / 2 := rfl
    have e8 : par k = (k - 1) / 2 := rfl
    have hjn : ¬ j = l.length - 1 := by omega
    have hpn : ¬ par k = l.length - 1 := by omega
    have hjk : ¬ j = k := by omega
    have hpk : ¬ par k = k := by omega
    rw [at_swap (by omega) (by omega), at_swap (by omega) (by omega)]
    simp only [hjn, hpn, hjk, hpk, if_false]
    have h1 := h j h0 (by omega)
    have h2 := h k hk0 (by omega)
    rw [hp] at h1
    exact le_trans h1 h2
theorem downL_stay {m : Nat} {l : List Tm} {i n : Nat} (h : ∀ k, 0 < k → k < n → par k = i → lessT (at0 l k) (at0 l i) = false) : downL m l i n = (l, i) := by
  cases m with
  | zero => rfl
  | succ m =>
    rw [downL, if_pos]
    by_cases g : n ≤ 2 * i + 1
    · exact .inl g
    · right
      have hk := kid_lt l i n (by omega)
      exact h _ (by omega) hk.1 (by unfold par; omega)
theorem downL_moved (m : Nat) : ∀ (l : List Tm) (i n : Nat), (downL m l i n).2 = i → (downL m l i n).1 = l := by
  have key : ∀ (m : Nat) (l : List Tm) (i n : Nat), i ≤ (downL m l i n).2 := by
    intro m
    induction m with
    | zero => intro l i n; exact Nat.le_refl _
    | succ m ih =>
      intro l i n
      rw [downL]
      split
      · exact Nat.le_refl _
      · rename_i h
        have hk := kid_lt l i n (by omega)
        have := ih (swapL l i (kid l i n)) (kid l i n) n
        omega
  intro l i n h
  cases m with
  | zero => rfl
  | succ m =>
    rw [downL] at h ⊢
    split
    · rfl
    · rename_i hc
      rw [if_neg hc] at h
      have hk := kid_lt l i n (by omega)
      have := key m (swapL l i (kid l i n)) (kid l i n) n
      omega
theorem downL_ge (m : Nat) : ∀ (l : List Tm) (i n : Nat), i ≤ (downL m l i n).2 := by
  induction m with
  | zero => intro l i n; exact Nat.le_refl _
  | succ m ih =>
    intro l i n
    rw [downL]
    split
    · exact Nat.le_refl _
    · rename_i h
      have hk := kid_lt l i n (by omega)
      have := ih (swapL l i (kid l i n)) (kid l i n) n
      omega
theorem take_len {l : List Tm} {n : Nat} (h : n ≤ l.length) : (l.take n).length = n := by rw [List.length_take]; omega
theorem rem_heap {l : List Tm} (h : Heap l l.length) (k : Nat) (hk : k < l.length) : Heap (remL l k) (remL l k).length ∧ (at0 l k :: remL l k).Perm l := by
  unfold remL
  by_cases e : l.length - 1 = k
  · rw [if_pos e]
    subst e
    refine ⟨?_, take_last (by omega)⟩
    rw [take_len (by omega)]
    exact heap_take (fun j h0 hj => h j h0 (by omega))
  · rw [if_neg e]
    have hkl : k < l.length - 1 := by omega
    have hl1 : (swapL l k (l.length - 1)).length = l.length := swapL_len _ _ _
    have hp0 := swapL_perm (l := l) (i := k) (j := l.length - 1) hk (by omega)
    have hd1 := downL_perm l.length (swapL l k (l.length - 1)) k (l.length - 1) (by omega) (by omega)
    have hfar := downL_far l.length (swapL l k (l.length - 1)) k (l.length - 1) (l.length - 1) hkl (by omega) (Nat.le_refl _)
    rw [at_swap hk (by omega), if_pos rfl] at hfar
    have hdl := downL_len l.length (swapL l k (l.length - 1)) k (l.length - 1)
    -- the heap itself
    have main : Heap (if (downL l.length (swapL l k (l.length - 1)) k (l.length - 1)).2 > k then (downL l.length (swapL l k (l.length - 1)) k (l.length - 1)).1 else upL (l.length + 1) (downL l.length (swapL l k (l.length - 1)) k (l.length - 1)).1 k) (l.length - 1) := by
      by_cases hup : k = 0 ∨ lessT (at0 l (l.length - 1)) (at0 l (par k)) = false
      · have hh := down_heap l.length _ _ _ (by omega) hkl (by omega) (heap_swapdn h hkl hup)
        split
        · exact hh
        · exact up_heap l.length _ _ _ (by omega) hkl (by omega) ⟨fun j h0 hj _ => hh j h0 hj, fun j h0 hj hpj hk0 => by
            have h1 := hh j h0 hj
            rw [hpj] at h1
            exact le_trans h1 (hh k hk0 hkl)⟩
      · have hk0 : 0 < k := by
          rcases Nat.eq_zero_or_pos k with g | g
          · exact absurd (.inl g) hup
          · exact g
        have hless : lessT (at0 l (l.length - 1)) (at0 l (par k)) = true := by
          cases g : lessT (at0 l (l.length - 1)) (at0 l (par k)) with
          | true => rfl
          | false => exact absurd (.inr g) hup
        have low : ∀ j, 0 < j → j < l.length - 1 → par j = k → lessT (at0 (swapL l k (l.length - 1)) j) (at0 (swapL l k (l.length - 1)) k) = false := by
          intro j h0 hj hpj
          have e9 : par j = (j - 1) / 2 := rfl
          have a1 : ¬ j = l.length - 1 := by omega
          have a2 : ¬ j = k := by omega
          have a3 : ¬ k = l.length - 1 := by omega
          rw [at_swap hk (by omega), at_swap hk (by omega)]
          simp only [a1, a2, a3, if_false, if_true]
          have h1 := h j h0 (by omega)
          rw [hpj] at h1
          exact le_trans (le_trans h1 (h k hk0 (by omega))) (le_of_less hless)
        rw [downL_stay low, if_neg (by simp)]
        simp only
        refine up_heap l.length _ _ _ (by omega) hkl (by omega) ⟨?_, ?_⟩
        · intro j h0 hj hne
          by_cases g : par j = k
          · rw [g]; exact low j h0 hj g
          · have e9 : par j = (j - 1) / 2 := rfl
            have a1 : ¬ j = l.length - 1 := by omega
            have a3 : ¬ par j = l.length - 1 := by omega
            rw [at_swap hk (by omega), at_swap hk (by omega)]
            simp only [a1, a3, hne, g, if_false]
            exact h j h0 (by omega)
        · intro j h0 hj hpj _
          have e9 : par j = (j - 1) / 2 := rfl
          have e8 : par k = (k - 1) / 2 := rfl
          have a1 : ¬ j = l.length - 1 := by omega
          have a2 : ¬ j = k := by omega
          have a3 : ¬ par k = l.length - 1 := by omega
          have a4 : ¬ par k = k := by omega
          rw [at_swap hk (by omega), at_swap hk (by omega)]
          simp only [a1, a2, a3, a4, if_false]
          have h1 := h j h0 (by omega)
          rw [hpj] at h1
          exact le_trans h1 (h k hk0 (by omega))
    have hX : ∀ Y : List Tm, Y.length = l.length → Y.Perm l → at0 Y (l.length - 1) = at0 l k → (at0 l k :: Y.take (l.length - 1)).Perm l := by
      intro Y hy hp hat
      have := take_last (l := Y) (by omega)
      rw [hy, hat] at this
      exact this.trans hp
    have upfar : ∀ (n : Nat) (Y : List Tm) (j q : Nat), j < q → q < Y.length → at0 (upL n Y j) q = at0 Y q := by
      intro n
      induction n with
      | zero => intro Y j q _ _; rfl
      | succ n ih =>
        intro Y j q hj hq
        rw [upL]
        split
        · rfl
        · rw [ih _ _ _ (by omega) (by rw [swapL_len]; exact hq), at_swap (by omega) (by omega), if_neg (by omega), if_neg (by omega)]
    refine ⟨?_, ?_⟩
    · rw [take_len]
      · exact heap_take main
      · split
        · omega
        · rw [upL_len]; omega
    · split
      · exact hX _ (by omega) (hd1.trans hp0) hfar
      · exact hX _ (by rw [upL_len]; omega) ((upL_perm _ _ _ (by omega)).trans (hd1.trans hp0)) (by rw [upfar _ _ _ _ hkl (by omega)]; exact hfar)
theorem pop_heap {l : List Tm} (h : Heap l l.length) (h0 : 0 < l.length) : Heap (popL l) (popL l).length ∧ (at0 l 0 :: popL l).Perm l := by
  unfold popL
  have hl1 : (swapL l 0 (l.length - 1)).length = l.length := swapL_len _ _ _
  have hdl := downL_len l.length (swapL l 0 (l.length - 1)) 0 (l.length - 1)
  by_cases e : l.length - 1 = 0
  · rw [e]
    refine ⟨by intro k _ hk; simp at hk, ?_⟩
    have := take_last h0
    rw [e] at this
    exact this
  · have hk : 0 < l.length - 1 := by omega
    have hp0 := swapL_perm (l := l) (i := 0) (j := l.length - 1) h0 (by omega)
    have hd1 := downL_perm l.length (swapL l 0 (l.length - 1)) 0 (l.length - 1) (by omega) (by omega)
    have hfar := downL_far l.length (swapL l 0 (l.length - 1)) 0 (l.length - 1) (l.length - 1) hk (by omega) (Nat.le_refl _)
    rw [at_swap h0 (by omega), if_pos rfl] at hfar
    have hh := down_heap l.length _ _ _ (by omega) hk (by omega) (heap_swapdn h hk (.inl rfl))
    refine ⟨?_, ?_⟩
    · rw [take_len (by omega)]
      exact heap_take hh
    · have := take_last (l := (downL l.length (swapL l 0 (l.length - 1)) 0 (l.length - 1)).1) (by omega)
      rw [hdl, hl1, hfar] at this
      exact this.trans (hd1.trans hp0)
theorem remL_len {l : List Tm} {k : Nat} (_h : k < l.length) : (remL l k).length = l.length - 1 := by
  unfold remL
  split
  · rw [take_len (by omega)]
  · rw [take_len]
    split
    · rw [downL_len, swapL_len]; omega
    · rw [upL_len, downL_len, swapL_len]; omega
theorem popL_len {l : List Tm} : (popL l).length = l.length - 1 := by
  unfold popL
  rw [take_len (by rw [downL_len, swapL_len]; omega)]
end Go.Proofs.Ytalookaaogiinaa
