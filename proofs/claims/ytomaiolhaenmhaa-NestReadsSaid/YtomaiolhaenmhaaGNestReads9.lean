/-
  BODIES READ, the plain law: an instruction that was read well is a good one; what a body's Read gives, round by round; the check of a list that grows. No condition.
-/
import Derived.Test.YtomaiolhaenmhaaGNestReads7
import Derived.Test.YtomaiolhaenmhaaGNestReads8
import Derived.Test.YtomaiolhaenmhaaNsB
namespace Go.Proofs.Ytomaiolhaenmhaa
open Go.RowKit Go.Lib

theorem rs_room32 {a k c : Nat} (h7 : 7 * k < 32) (ha : a < 2 ^ (7 * k)) (hc : 32 - 7 * k < 7 → -2 ^ (32 - 7 * k - 1) ≤ sv c ∧ sv c < 2 ^ (32 - 7 * k - 1)) : -2147483648 ≤ (a : Int) + sv c * 2 ^ (7 * k) ∧ (a : Int) + sv c * 2 ^ (7 * k) ≤ 2147483647 := by
  have hs := sv_bd c
  generalize sv c = v at *
  rcases (by omega : k = 0 ∨ k = 1 ∨ k = 2 ∨ k = 3 ∨ k = 4) with rfl | rfl | rfl | rfl | rfl
  all_goals
    simp at ha hc ⊢
    omega
theorem rs_32 (l : List UInt8) : ∀ (i n : Nat), n < 2 ^ (7 * i) → 7 * i < 32 → -2147483648 ≤ (rs 32 l i n).1 ∧ (rs 32 l i n).1 ≤ 2147483647 := by
  induction l with
  | nil => intro i n _ _; simp [rs]
  | cons c r ih =>
    intro i n hn hi
    rw [rs]
    by_cases h1 : 32 - 7 * i < 7 ∧ (128 ≤ c.toNat ∨ sv c.toNat < -2 ^ (32 - 7 * i - 1) ∨ 2 ^ (32 - 7 * i - 1) ≤ sv c.toNat)
    · rw [if_pos h1]; simp
    rw [if_neg h1]
    by_cases h2 : c.toNat < 128
    · rw [if_pos h2]
      exact rs_room32 hi hn (fun hl => ⟨Int.not_lt.1 fun g => h1 ⟨hl, .inr (.inl g)⟩, Int.not_le.1 fun g => h1 ⟨hl, .inr (.inr g)⟩⟩)
    · rw [if_neg h2]
      have hm : 7 * (i + 1) < 32 := by
        by_cases hl : 32 - 7 * i < 7
        · exact absurd ⟨hl, .inl (by omega)⟩ h1
        · omega
      exact ih (i + 1) (n + c.toNat % 128 * 2 ^ (7 * i)) (ru_next hn) hm
theorem sgn_32 (s : ByteArray × Int) : -2147483648 ≤ (sgnM 32 s).1 ∧ (sgnM 32 s).1 ≤ 2147483647 := by
  unfold sgnM
  split
  · simp
  · exact rs_32 s.1.data.toList 0 0 (by decide) (by decide)
theorem num_ix (s : ByteArray × Int) : isIx (numM s).1 = true := by
  have := numM_facts s
  unfold isIx
  exact decide_eq_true ⟨this.1, by omega⟩
theorem take_ix (n : Nat) (s : ByteArray × Int) : (takeM n s).1.all isIx = true := by
  induction n generalizing s with
  | zero => simp [takeM]
  | succ n ih =>
    unfold takeM
    split
    · simp
    · simp only [List.all_cons, num_ix, Bool.true_and]; exact ih _
theorem take_size (n : Nat) (s : ByteArray × Int) : (takeM n s).2.1.size ≤ s.1.size := by
  induction n generalizing s with
  | zero => simp [takeM]
  | succ n ih =>
    unfold takeM
    split
    · exact Nat.le_refl _
    · exact Nat.le_trans (ih _) (numM_facts s).2.2.1
theorem num_good {s : ByteArray × Int} (h : (numM s).2.2 = 0) : s.2 = 0 := Classical.byContradiction fun g => g (by rw [num_keep g] at h; exact h)
theorem take_good {n : Nat} {s : ByteArray × Int} (h : (takeM n s).2.2 = 0) : s.2 = 0 := Classical.byContradiction fun g => g (by rw [take_bad _ _ g] at h; exact h)
theorem say_good {is : Bool} {e : Int} {s : ByteArray × Int} (he : e ≠ 0) (h : (sayM is e s).2 = 0) : is = false ∧ s.2 = 0 := by
  unfold sayM at h
  split at h
  · exact absurd h he
  · next g =>
    refine ⟨?_, h⟩
    cases is with
    | false => rfl
    | true => exact absurd ⟨rfl, h⟩ g
theorem nog_size (s : ByteArray × Int) : (nogM s).1.size ≤ s.1.size := by unfold nogM; rw [say_fst]; exact octM_size s
/-- what was read well is good -/
theorem bes_chk (k : Nat) (hk : 1 ≤ k ∧ k ≤ 9) (s : ByteArray × Int) : ((besM k s).2.2 = 0 → chkI k (besM k s).1.1 (besM k s).1.2.1 (besM k s).1.2.2 = 0) ∧ (-9223372036854775808 ≤ (besM k s).1.1 ∧ (besM k s).1.1 ≤ 9223372036854775807) ∧ (besM k s).2.1.size ≤ s.1.size := by
  have n1 := numM_facts s
  have o1 := octM_size s
  rcases (by omega : k = 1 ∨ k = 2 ∨ k = 3 ∨ k = 4 ∨ k = 5 ∨ k = 6 ∨ k = 7 ∨ k = 8 ∨ k = 9) with rfl | rfl | rfl | rfl | rfl | rfl | rfl | rfl | rfl
  · exact ⟨fun _ => rfl, by show (-9223372036854775808 : Int) ≤ 0 ∧ (0 : Int) ≤ 9223372036854775807; decide, Nat.le_refl _⟩
  · have o2 := octM_lt s
    refine ⟨fun h => ?_, ⟨?_, ?_⟩, ?_⟩
    · have := (say_good (by decide) h).1
      show chkI 2 ((octM s).1 : Int) 0 [] = 0
      generalize (octM s).1 = n at *
      have hn : n = 64 ∨ n = 127 ∨ n = 126 := by
        simp [okK] at this
        omega
      rcases hn with rfl | rfl | rfl <;> decide
    · show (-9223372036854775808 : Int) ≤ ((octM s).1 : Int); omega
    · show ((octM s).1 : Int) ≤ (9223372036854775807 : Int); omega
    · show (sayM (okK (octM s).1) 6 (octM s).2).1.size ≤ s.1.size
      rw [say_fst]; exact o1
  · refine ⟨fun _ => ?_, ⟨?_, ?_⟩, n1.2.2.1⟩
    · show chkI 3 (numM s).1 0 [] = 0
      have := num_ix s
      simp [chkI, okA, okB, okT, this]
    · show (-9223372036854775808 : Int) ≤ (numM s).1; omega
    · show (numM s).1 ≤ (9223372036854775807 : Int); omega
  · generalize hq : takeM (numM s).1.toNat (sayM (decide (16 < (numM s).1)) 2 (numM s).2) = q
    have e : besM 4 s = (((numM q.2).1, 0, q.1), (numM q.2).2) := by
      show (((numM (takeM (numM s).1.toNat (sayM (decide (16 < (numM s).1)) 2 (numM s).2)).2).1, (0 : Int), (takeM (numM s).1.toNat (sayM (decide (16 < (numM s).1)) 2 (numM s).2)).1), (numM (takeM (numM s).1.toNat (sayM (decide (16 < (numM s).1)) 2 (numM s).2)).2).2) = _
      rw [hq]
    rw [e]
    have n2 := numM_facts q.2
    refine ⟨fun h => ?_, ⟨?_, ?_⟩, ?_⟩
    · have h1 := num_good h
      rw [← hq] at h1
      have h2 := (say_good (by decide) (take_good h1)).1
      have h3 : (numM s).1 ≤ 16 := by simpa using h2
      have h4 : q.1.length ≤ 16 := by
        have := take_len (numM s).1.toNat (sayM (decide (16 < (numM s).1)) 2 (numM s).2)
        rw [hq] at this
        omega
      have h5 : q.1.all isIx = true := by rw [← hq]; exact take_ix _ _
      have h6 := num_ix q.2
      show chkI 4 (numM q.2).1 0 q.1 = 0
      rw [chk_rest (by decide) (by omega)]
      simp only [okA, okB, okT]
      rw [if_pos]
      simp only [Bool.and_eq_true]
      refine ⟨⟨?_, ?_⟩, ?_⟩
      · simpa using h6
      · simp
      · simpa using h5
    · show (-9223372036854775808 : Int) ≤ (numM q.2).1; omega
    · show (numM q.2).1 ≤ (9223372036854775807 : Int); omega
    · have h7 := take_size (numM s).1.toNat (sayM (decide (16 < (numM s).1)) 2 (numM s).2)
      rw [hq, say_fst] at h7
      show (numM q.2).2.1.size ≤ s.1.size
      omega
  · refine ⟨fun _ => ?_, ⟨?_, ?_⟩, ?_⟩
    · show chkI 5 (numM s).1 0 [] = 0
      have := num_ix s
      simp [chkI, okA, okB, okT, this]
    · show (-9223372036854775808 : Int) ≤ (numM s).1; omega
    · show (numM s).1 ≤ (9223372036854775807 : Int); omega
    · show (nogM (numM s).2).1.size ≤ s.1.size
      have := nog_size (numM s).2; omega
  · have n2 := numM_facts (numM s).2
    refine ⟨fun _ => ?_, ⟨?_, ?_⟩, ?_⟩
    · show chkI 6 (numM s).1 (numM (numM s).2).1 [] = 0
      have := num_ix s
      have := num_ix (numM s).2
      simp [chkI, okA, okB, okT, *]
    · show (-9223372036854775808 : Int) ≤ (numM s).1; omega
    · show (numM s).1 ≤ (9223372036854775807 : Int); omega
    · show (numM (numM s).2).2.1.size ≤ s.1.size; omega
  · exact ⟨fun _ => rfl, by show (-9223372036854775808 : Int) ≤ 0 ∧ (0 : Int) ≤ 9223372036854775807; decide, nog_size s⟩
  · have g := sgn_32 s
    refine ⟨fun _ => ?_, ⟨?_, ?_⟩, ?_⟩
    · show chkI 8 (sgnM 32 s).1 0 [] = 0
      simp [chkI, okA, okB, okT, g]
    · show (-9223372036854775808 : Int) ≤ (sgnM 32 s).1; omega
    · show (sgnM 32 s).1 ≤ (9223372036854775807 : Int); omega
    · exact (sgnM_facts (.inl rfl) s).2.2
  · have g := sgnM_facts (.inr rfl) s
    refine ⟨fun _ => ?_, ⟨?_, ?_⟩, ?_⟩
    · show chkI 9 (sgnM 64 s).1 0 [] = 0
      simp [chkI, okA, okB, okT]
    · exact g.1
    · exact g.2.1
    · exact g.2.2
/-- the instruction that a text begins with -/
def rdX (t : ByteArray) : It := ⟨(rdI t).1, (rdI t).2.1.1, (rdI t).2.1.2.1, (rdI t).2.1.2.2⟩
theorem rd_well (t : ByteArray) (h : (rdI t).2.2.2 = 0) : ItOk (rdX t) ∧ itC (rdX t) = 0 ∧ (rdI t).2.2.1.size ≤ t.size := by
  have hlt := octM_lt (t, 0)
  have h9 := tB_le ⟨_, hlt⟩
  have hsz := octM_size (t, 0)
  simp only at h9 hsz
  unfold rdX itC ItOk
  unfold rdI at h ⊢
  simp only at h ⊢
  by_cases hs : (sayM (decide (tB (octM (t, 0)).1 = 0)) 6 (octM (t, 0)).2).2 = 0
  · rw [if_pos hs] at h ⊢
    have h1 := say_good (by decide) hs
    have hk : tB (octM (t, 0)).1 ≠ 0 := by simpa using h1.1
    have hb := bes_chk (tB (octM (t, 0)).1) ⟨by omega, h9⟩ (sayM (decide (tB (octM (t, 0)).1 = 0)) 6 (octM (t, 0)).2)
    refine ⟨⟨hlt, hb.2.1⟩, hb.1 h, ?_⟩
    have := hb.2.2
    rw [say_fst] at this
    omega
  · rw [if_neg hs] at h
    exact absurd h hs
/-- a body's Read: so many rounds at most; what was read; where; what is open -/
def rlM (t : ByteArray) : Nat → List It → Nat → Stk → Int × Nat × List It
  | 0, _, _, _ => (2, 0, [])
  | f + 1, l, a, T =>
    if (rdI (left t a)).2.2.2 ≠ 0 then ((rdI (left t a)).2.2.2, 0, [])
    else if l.length = 200 then (2, 0, [])
    else if (wnext (T, false) (rdX (left t a)).op l.length).1.2 ≠ 0 then ((wnext (T, false) (rdX (left t a)).op l.length).1.2, 0, [])
    else if (wnext (T, false) (rdX (left t a)).op l.length).2.2 = true then (0, t.size - (rdI (left t a)).2.2.1.size, l ++ [rdX (left t a)])
    else rlM t f (l ++ [rdX (left t a)]) (t.size - (rdI (left t a)).2.2.1.size) (wnext (T, false) (rdX (left t a)).op l.length).2.1
section
variable {t : ByteArray} {f a : Nat} {l : List It} {T : Stk}
theorem rl_bad (h : (rdI (left t a)).2.2.2 ≠ 0) : rlM t (f + 1) l a T = ((rdI (left t a)).2.2.2, 0, []) := by rw [rlM, if_pos h]
theorem rl_large (h : (rdI (left t a)).2.2.2 = 0) (h2 : l.length = 200) : rlM t (f + 1) l a T = (2, 0, []) := by rw [rlM, if_neg (by simp [h]), if_pos h2]
theorem rl_wrong (h : (rdI (left t a)).2.2.2 = 0) (h2 : l.length ≠ 200) (h3 : (wnext (T, false) (rdX (left t a)).op l.length).1.2 ≠ 0) : rlM t (f + 1) l a T = ((wnext (T, false) (rdX (left t a)).op l.length).1.2, 0, []) := by rw [rlM, if_neg (by simp [h]), if_neg h2, if_pos h3]
theorem rl_over (h : (rdI (left t a)).2.2.2 = 0) (h2 : l.length ≠ 200) (h3 : (wnext (T, false) (rdX (left t a)).op l.length).1.2 = 0) (h4 : (wnext (T, false) (rdX (left t a)).op l.length).2.2 = true) : rlM t (f + 1) l a T = (0, t.size - (rdI (left t a)).2.2.1.size, l ++ [rdX (left t a)]) := by rw [rlM, if_neg (by simp [h]), if_neg h2, if_neg (by simp [h3]), if_pos h4]
theorem rl_next (h : (rdI (left t a)).2.2.2 = 0) (h2 : l.length ≠ 200) (h3 : (wnext (T, false) (rdX (left t a)).op l.length).1.2 = 0) (h4 : (wnext (T, false) (rdX (left t a)).op l.length).2.2 = false) : rlM t (f + 1) l a T = rlM t f (l ++ [rdX (left t a)]) (t.size - (rdI (left t a)).2.2.1.size) (wnext (T, false) (rdX (left t a)).op l.length).2.1 := by rw [rlM, if_neg (by simp [h]), if_neg h2, if_neg (by simp [h3]), if_neg (by simp [h4])]
end
/-- a list that passes so far: what is open behind it -/
def Way (l : List It) (T : Stk) : Prop := ∀ r, chkR itC It.op (l ++ r) 0 ([(-1, 2)], false) = chkR itC It.op r l.length (T, false)
theorem way_nil : Way [] [(-1, 2)] := fun _ => rfl
theorem Way.next {l : List It} {T : Stk} (h : Way l T) {x : It} (hc : itC x = 0) (h3 : (wnext (T, false) x.op l.length).1.2 = 0) (h4 : (wnext (T, false) x.op l.length).2.2 = false) : Way (l ++ [x]) (wnext (T, false) x.op l.length).2.1 := by
  intro r
  rw [List.append_assoc, List.singleton_append, h, chkR, if_neg (by simp [hc]), if_neg (by simp [h3]), List.length_append, List.length_singleton]
  generalize wnext (T, false) x.op l.length = q at *
  obtain ⟨⟨a, b⟩, c, d⟩ := q
  simp only at h4
  rw [h4]
theorem wn_errs (T : Stk) (op : Nat) (k : Int) : (wnext (T, false) op k).1.2 = 0 ∨ (wnext (T, false) op k).1.2 = 4 ∨ (wnext (T, false) op k).1.2 = 7 := by
  unfold wnext
  rw [if_neg (by simp)]
  split
  · split <;> simp
  split
  · split
    · split <;> simp
    · simp
  split
  · split <;> simp
  · simp
/-- the check of the list with one more -/
theorem Way.check {l : List It} {T : Stk} (h : Way l T) {x : It} (hc : itC x = 0) (hl : l.length < 200) : ncM (l ++ [x]) = if (wnext (T, false) x.op l.length).1.2 ≠ 0 then (wnext (T, false) x.op l.length).1.2 else if (wnext (T, false) x.op l.length).2.2 = true then 0 else 3 := by
  unfold ncM
  rw [if_neg (by simp; omega), h, chkR, if_neg (by simp [hc])]
  rfl
end Go.Proofs.Ytomaiolhaenmhaa
