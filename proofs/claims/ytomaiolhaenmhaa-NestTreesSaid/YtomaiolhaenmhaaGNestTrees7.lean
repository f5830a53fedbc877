/-
  BODIES READ, the plain law: an instruction that was read well is a good one; what a body's Read gives, round by round; the check of a list that grows. No condition.
-/
import Derived.Test.YtomaiolhaenmhaaKt
import Derived.Test.YtomaiolhaenmhaaNsB
import Derived.Test.YtomaiolhaenmhaaGNestTrees5
import Derived.Test.YtomaiolhaenmhaaGNestTrees6
namespace Go.Proofs.Ytomaiolhaenmhaa
open Go.RowKit Go.Lib

theorem rs_room32 {a k c : Nat} (h7 : 7 * k < 32) (ha : a < 2 ^ (7 * k)) (hc : 32 - 7 * k < 7 → -2 ^ (32 - 7 * k - 1) ≤ sv c ∧ sv c < 2 ^ (32 - 7 * k - 1)) : -2147483648 ≤ (a : Int) + sv c * 2 ^ (7 * k) ∧ (a : Int) + sv c * 2 ^ (7 * k) ≤ 2147483647 := by
  have hs := sv_bd c
  generalize sv c = v at *
  rcases (by omega : k = 0 ∨ k = 1 ∨ k = 2 ∨ k = 3 ∨ k = 4) with rfl | rfl | rfl | rfl | rfl
  all_goals
    simp at ha hc ⊢
    omega
theorem rs_32 (l : List UInt8) : ∀ (i n : Nat), n < 2 ^ (7 * i) → 7 * i < 32 → -2147483648 ≤ (rs 32 l i n).1 ∧ (rs 32 l i n).1 ≤ 2147483647 := by
  induction l with
  | nil => intro i n _ _; simp [rs]
  | cons c r ih =>
    intro i n hn hi
    rw [rs]
    by_cases h1 : 32 - 7 * i < 7 ∧ (128 ≤ c.toNat ∨ sv c.toNat < -2 ^ (32 - 7 * i - 1) ∨ 2 ^ (32 - 7 * i - 1) ≤ sv c.toNat)
    · rw [if_pos h1]; simp
    rw [if_neg h1]
    by_cases h2 : c.toNat < 128
    · rw [if_pos h2]
      exact rs_room32 hi hn (fun hl => ⟨Int.not_lt.1 fun g => h1 ⟨hl, .inr (.inl g)⟩, Int.not_le.1 fun g => h1 ⟨hl, .inr (.inr g)⟩⟩)
    · rw [if_neg h2]
      have hm : 7 * (i + 1) < 32 := by
        by_cases hl : 32 - 7 * i < 7
        · exact absurd ⟨hl, .inl (by omega)⟩ h1
        · omega
      exact ih (i + 1) (n + c.toNat % 128 * 2 ^ (7 * i)) (ru_next hn) hm
theorem sgn_32 (s : ByteArray × Int) : -2147483648 ≤ (sgnM 32 s).1 ∧ (sgnM 32 s).1 ≤ 2147483647 := by
  unfold sgnM
  split
  · simp
  · exact rs_32 s.1.data.toList 0 0 (by decide) (by decide)
theorem num_ix (s : ByteArray × Int) : isIx (numM s).1 = true := by
  have := numM_facts s
  unfold isIx
  exact decide_eq_true ⟨this.1, by omega⟩
theorem take_ix (n : Nat) (s : ByteArray × Int) : (takeM n s).1.all isIx = true := by
  induction n generalizing s with
  | zero => simp [takeM]
  | succ n ih =>
    unfold takeM
    split
    · simp
    · simp only [List.all_cons, num_ix, Bool.true_and]; exact ih _
theorem take_size (n : Nat) (s : ByteArray × Int) : (takeM n s).2.1.size ≤ s.1.size := by
  induction n generalizing s with
  | zero => simp [takeM]
  | succ n ih =>
    unfold takeM
    split
    · exact Nat.le_refl _
    · exact Nat.le_trans (ih _) (numM_facts s).2.2.1
theorem num_good {s : ByteArray × Int} (h : (numM s).2.2 = 0) : s.2 = 0 := Classical.byContradiction fun g => g (by rw [num_keep g] at h; exact h)
theorem take_good {n : Nat} {s : ByteArray × Int} (h : (takeM n s).2.2 = 0) : s.2 = 0 := Classical.byContradiction fun g => g (by rw [take_bad _ _ g] at h; exact h)
theorem say_good {is : Bool} {e : Int} {s : ByteArray × Int} (he : e ≠ 0) (h : (sayM is e s).2 = 0) : is = false ∧ s.2 = 0 := by
  unfold sayM at h
  split at h
  · exact absurd h he
  · next g =>
    refine ⟨?_, h⟩
    cases is with
    | false => rfl
    | true => exact absurd ⟨rfl, h⟩ g
theorem nog_size (s : ByteArray × Int) : (nogM s).1.size ≤ s.1.size := by unfold nogM; rw [say_fst]; exact octM_size s
/-- what was read well is good -/
theorem bes_chk (k : Nat) (hk : 1 ≤ k ∧ k ≤ 9) (s : ByteArray × Int) : ((besM k s).2.2 = 0 → chkI k (besM k s).1.1 (besM k s).1.2.1 (besM k s).1.2.2 = 0) ∧ (-9223372036854775808 ≤ (besM k s).1.1 ∧ (besM k s).1.1 ≤ 9223372036854775807) ∧ (besM k s).2.1.size ≤ s.1.size := by
  have n1 := numM_facts s
  have o1 := octM_size s
  rcases (by omega : k = 1 ∨ k = 2 ∨ k = 3 ∨ k = 4 ∨ k = 5 ∨ k = 6 ∨ k = 7 ∨ k = 8 ∨ k = 9) with rfl | rfl | rfl | rfl | rfl | rfl | rfl | rfl | rfl
  · exact ⟨fun _ => rfl, by show (-9223372036854775808 : Int) ≤ 0 ∧ (0 : Int) ≤ 9223372036854775807; decide, Nat.le_refl _⟩
  · have o2 := octM_lt s
    refine ⟨fun h => ?_, ⟨?_, ?_⟩, ?_⟩
    · have := (say_good (by decide) h).1
      show chkI 2 ((octM s).1 : Int) 0 [] = 0
      generalize (octM s).1 = n at *
      have hn : n = 64 ∨ n = 127 ∨ n = 126 := by
        simp [okK] at this
        omega
      rcases hn with rfl | rfl | rfl <;> decide
    · show (-9223372036854775808 : Int) ≤ ((octM s).1 : Int); omega
    · show ((octM s).1 : Int) ≤ (9223372036854775807 : Int); omega
    · show (sayM (okK (octM s).1) 6 (octM s).2).1.size ≤ s.1.size
      rw [say_fst]; exact o1
  · refine ⟨fun _ => ?_, ⟨?_, ?_⟩, n1.2.2.1⟩
    · show chkI 3 (numM s).1 0 [] = 0
      have := num_ix s
      simp [chkI, okA, okB, okT, this]
    · show (-9223372036854775808 : Int) ≤ (numM s).1; omega
    · show (numM s).1 ≤ (9223372036854775807 : Int); omega
  · generalize hq : takeM (numM s).1.toNat (sayM (decide (16 < (numM s).1)) 2 (numM s).2) = q
    have e : besM 4 s = (((numM q.2).1, 0, q.1), (numM q.2).2) := by
      show (((numM (takeM (numM s).1.toNat (sayM (decide (16 < (numM s).1)) 2 (numM s).2)).2).1, (0 : Int), (takeM (numM s).1.toNat (sayM (decide (16 < (numM s).1)) 2 (numM s).2)).1), (numM (takeM (numM s).1.toNat (sayM (decide (16 < (numM s).1)) 2 (numM s).2)).2).2) = _
      rw [hq]
    rw [e]
    have n2 := numM_facts q.2
    refine ⟨fun h => ?_, ⟨?_, ?_⟩, ?_⟩
    · have h1 := num_good h
      rw [← hq] at h1
      have h2 := (say_good (by decide) (take_good h1)).1
      have h3 : (numM s).1 ≤ 16 := by simpa using h2
      have h4 : q.1.length ≤ 16 := by
        have := take_len (numM s).1.toNat (sayM (decide (16 < (numM s).1)) 2 (numM s).2)
        rw [hq] at this
        omega
      have h5 : q.1.all isIx = true := by rw [← hq]; exact take_ix _ _
      have h6 := num_ix q.2
      show chkI 4 (numM q.2).1 0 q.1 = 0
      rw [chk_rest (by decide) (by omega)]
      simp only [okA, okB, okT]
      rw [if_pos]
      simp only [Bool.and_eq_true]
      refine ⟨⟨?_, ?_⟩, ?_⟩
      · simpa using h6
      · simp
      · simpa using h5
    · show (-9223372036854775808 : Int) ≤ (numM q.2).1; omega
    · show (numM q.2).1 ≤ (9223372036854775807 : Int); omega
    · have h7 := take_size (numM s).1.toNat (sayM (decide (16 < (numM s).1)) 2 (numM s).2)
      rw [hq, say_fst] at h7
      show (numM q.2).2.1.size ≤ s.1.size
      omega
  · refine ⟨fun _ => ?_, ⟨?_, ?_⟩, ?_⟩
    · show chkI 5 (numM s).1 0 [] = 0
      have := num_ix s
      simp [chkI, okA, okB, okT, this]
    · show (-9223372036854775808 : Int) ≤ (numM s).1; omega
    · show (numM s).1 ≤ (9223372036854775807 : Int); omega
    · show (nogM (numM s).2).1.size ≤ s.1.size
      have := nog_size (numM s).2; omega
  · have n2 := numM_facts (numM s).2
    refine ⟨fun _ => ?_, ⟨?_, ?_⟩, ?_⟩
    · show chkI 6 (numM s).1 (numM (numM s).2).1 [] = 0
      have := num_ix s
      have := num_ix (numM s).2
      simp [chkI, okA, okB, okT, *]
    · show (-9223372036854775808 : Int) ≤ (numM s).1; omega
    · show (numM s).1 ≤ (9223372036854775807 : Int); omega
    · show (numM (numM s).2).2.1.size ≤ s.1.size; omega
  · exact ⟨fun _ => rfl, by show (-9223372036854775808 : Int) ≤ 0 ∧ (0 : Int) ≤ 9223372036854775807; decide, nog_size s⟩
  · have g := sgn_32 s
    refine ⟨fun _ => ?_, ⟨?_, ?_⟩, ?_⟩
    · show chkI 8 (sgnM 32 s).1 0 [] = 0
      simp [chkI, okA, okB, okT, g]
    · show (-9223372036854775808 : Int) ≤ (sgnM 32 s).1; omega
    · show (sgnM 32 s).1 ≤ (9223372036854775807 : Int); omega
    · exact (sgnM_facts (.inl rfl) s).2.2
  · have g := sgnM_facts (.inr rfl) s
    refine ⟨fun _ => ?_, ⟨?_, ?_⟩, ?_⟩
    · show chkI 9 (sgnM 64 s).1 0 [] = 0
      simp [chkI, okA, okB, okT]
    · exact g.1
    · exact g.2.1
    · exact g.2.2
/-- the instruction that a text begins with -/
def rdX (t : ByteArray) : It := ⟨(rdI t).1, (rdI t).2.1.1, (rdI t).2.1.2.1, (rdI t).2.1.2.2⟩
theorem rd_well (t : ByteArray) (h : (rdI t).2.2.2 = 0) : ItOk (rdX t) ∧ itC (rdX t) = 0 ∧ (rdI t).2.2.1.size ≤ t.size := by
  have hlt := octM_lt (t, 0)
  have h9 := tB_le ⟨_, hlt⟩
  have hsz := octM_size (t, 0)
  simp only at h9 hsz
  unfold rdX itC ItOk
  unfold rdI at h ⊢
  simp only at h ⊢
  by_cases hs : (sayM (decide (tB (octM (t, 0)).1 = 0)) 6 (octM (t, 0)).2).2 = 0
  · rw [if_pos hs] at h ⊢
    have h1 := say_good (by decide) hs
    have hk : tB (octM (t, 0)).1 ≠ 0 := by simpa using h1.1
    have hb := bes_chk (tB (octM (t, 0)).1) ⟨by omega, h9⟩ (sayM (decide (tB (octM (t, 0)).1 = 0)) 6 (octM (t, 0)).2)
    refine ⟨⟨hlt, hb.2.1⟩, hb.1 h, ?_⟩
    have := hb.2.2
    rw [say_fst] at this
    omega
  · rw [if_neg hs] at h
    exact absurd h hs
/-- a body's Read: so many rounds at most; what was read; where; what is open -/
def rlM (t : ByteArray) : Nat → List It → Nat → Stk → Int × Nat × List It
  | 0, _, _, _ => (2, 0, [])
  | f + 1, l, a, T =>
    if (rdI (left t a)).2.2.2 ≠ 0 then ((rdI (left t a)).2.2.2, 0, [])
    else if l.length = 200 then (2, 0, [])
    else if (wnext (T, false) (rdX (left t a)).op l.length).1.2 ≠ 0 then ((wnext (T, false) (rdX (left t a)).op l.length).1.2, 0, [])
    else if (wnext (T, false) (rdX (left t a)).op l.length).2.2 = true then (0, t.size - (rdI (left t a)).2.2.1.size, l ++ [rdX (left t a)])
    else rlM t f (l ++ [rdX (left t a)]) (t.size - (rdI (left t a)).2.2.1.size) (wnext (T, false) (rdX (left t a)).op l.length).2.1
section
variable {t : ByteArray} {f a : Nat} {l : List It} {T : Stk}
theorem rl_bad (h : (rdI (left t a)).2.2.2 ≠ 0) : rlM t (f + 1) l a T = ((rdI (left t a)).2.2.2, 0, []) := by rw [rlM, if_pos h]
theorem rl_large (h : (rdI (left t a)).2.2.2 = 0) (h2 : l.length = 200) : rlM t (f + 1) l a T = (2, 0, []) := by rw [rlM, if_neg (by simp [h]), if_pos h2]
theorem rl_wrong (h : (rdI (left t a)).2.2.2 = 0) (h2 : l.length ≠ 200) (h3 : (wnext (T, false) (rdX (left t a)).op l.length).1.2 ≠ 0) : rlM t (f + 1) l a T = ((wnext (T, false) (rdX (left t a)).op l.length).1.2, 0, []) := by rw [rlM, if_neg (by simp [h]), if_neg h2, if_pos h3]
theorem rl_over (h : (rdI (left t a)).2.2.2 = 0) (h2 : l.length ≠ 200) (h3 : (wnext (T, false) (rdX (left t a)).op l.length).1.2 = 0) (h4 : (wnext (T, false) (rdX (left t a)).op l.length).2.2 = true) : rlM t (f + 1) l a T = (0, t.size - (rdI (left t a)).2.2.1.size, l ++ [rdX (left t a)]) := by rw [rlM, if_neg (by simp [h]), if_neg h2, if_neg (by simp [h3]), if_pos h4]
theorem rl_next (h : (rdI (left t a)).2.2.2 = 0) (h2 : l.length ≠ 200) (h3 : (wnext (T, false) (rdX (left t a)).op l.length).1.2 = 0) (h4 : (wnext (T, false) (rdX (left t a)).op l.length).2.2 = false) : rlM t (f + 1) l a T = rlM t f (l ++ [rdX (left t a)]) (t.size - (rdI (left t a)).2.2.1.size) (wnext (T, false) (rdX (left t a)).op l.length).2.1 := by rw [rlM, if_neg (by simp [h]), if_neg h2, if_neg (by simp [h3]), if_neg (by simp [h4])]
end
/-- a list that passes so far: what is open behind it -/
def Way (l : List It) (T : Stk) : Prop := ∀ r, chkR itC It.op (l ++ r) 0 ([(-1, 2)], false) = chkR itC It.op r l.length (T, false)
theorem way_nil : Way [] [(-1, 2)] := fun _ => rfl
theorem Way.next {l : List It} {T : Stk} (h : Way l T) {x : It} (hc : itC x = 0) (h3 : (wnext (T, false) x.op l.length).1.2 = 0) (h4 : (wnext (T, false) x.op l.length).2.2 = false) : Way (l ++ [x]) (wnext (T, false) x.op l.length).2.1 := by
  intro r
  rw [List.append_assoc, List.singleton_append, h, chkR, if_neg (by simp [hc]), if_neg (by simp [h3]), List.length_append, List.length_singleton]
  generalize wnext (T, false) x.op l.length = q at *
  obtain ⟨⟨a, b⟩, c, d⟩ := q
  simp only at h4
  rw [h4]
theorem wn_errs (T : Stk) (op : Nat) (k : Int) : (wnext (T, false) op k).1.2 = 0 ∨ (wnext (T, false) op k).1.2 = 4 ∨ (wnext (T, false) op k).1.2 = 7 := by
  unfold wnext
  rw [if_neg (by simp)]
  split
  · split <;> simp
  split
  · split
    · split <;> simp
    · simp
  split
  · split <;> simp
  · simp
/-- the check of the list with one more -/
theorem Way.check {l : List It} {T : Stk} (h : Way l T) {x : It} (hc : itC x = 0) (hl : l.length < 200) : ncM (l ++ [x]) = if (wnext (T, false) x.op l.length).1.2 ≠ 0 then (wnext (T, false) x.op l.length).1.2 else if (wnext (T, false) x.op l.length).2.2 = true then 0 else 3 := by
  unfold ncM
  rw [if_neg (by simp; omega), h, chkR, if_neg (by simp [hc])]
  rfl
end Go.Proofs.Ytomaiolhaenmhaa
/-
  BODIES READ: a list of instructions that the call owns. No condition.
-/
namespace Go.Proofs.Ytomaiolhaenmhaa
open Go.RowKit Go.Lib

theorem info_insv : (Try.prog.info? 90).map (fun i => (i.zero, i.size, i.bytes)) = some (some (.agg #[.int .u8 0, .int .i64 0, .int .i64 0, .slice none 0 0]), 4, 48) := by kernel_rfl
theorem elem_insv : Elem Try.prog 105 90 (.agg #[.int .u8 0, .int .i64 0, .int .i64 0, .slice none 0 0]) 4 48 := ⟨Try.underlying105, info_insv, rfl, by decide⟩
def ItO (w : World) (base : Nat) (cs : List Value) (x : It) : Prop := ∃ u, cs = [.int .u8 x.op, .int .i64 x.A, .int .i64 x.B, u] ∧ OwnI w base .i64 2 u x.tos
def Its (w : World) (base : Nat) (css : List (List Value)) (l : List It) : Prop := css.length = l.length ∧ ∀ i (h1 : i < css.length) (h2 : i < l.length), ItO w base css[i] l[i]
/-- blocks of instructions and of their lists stay -/
def KI (w w' : World) : Prop := ∀ (k : Nat) (cs : Array Value) (ty : TypeId) (fr : Nat × Nat), (ty = 90 ∨ ty = 2) → w.heap[k]? = some (.cells cs ty fr) → w'.heap[k]? = w.heap[k]?
theorem KI.below {w w' : World} (h : Below w.heap.size w w') : KI w w' := fun k _ _ _ _ hk => h.block k (lt_of_block hk)
theorem own_type {w : World} {base size n : Nat} {e : TypeId} {v : Value} {cs : List Value} (ho : w.ownsRow base e size v n cs) {k : Nat} (hk : v.ownBlock = some k) : ∃ cur fr, w.heap[k]? = some (.cells cur e fr) := by
  rcases ho.2 with ⟨e, _⟩ | ⟨g, cap, cur, e, _, hh, _⟩
  · rw [e] at hk; simp [Value.ownBlock] at hk
  · rw [e] at hk
    simp only [Value.ownBlock, Option.some.injEq] at hk
    subst hk
    exact ⟨_, _, hh⟩
theorem KI.own {w w' : World} {base size n : Nat} {e : TypeId} {v : Value} {cs : List Value} (h : KI w w') (he : e = 90 ∨ e = 2) (ho : w.ownsRow base e size v n cs) : w'.ownsRow base e size v n cs := by
  refine own_same ho (fun k hk => ?_)
  obtain ⟨cur, fr, hh⟩ := own_type ho hk
  exact h k cur e fr he hh
theorem KI.fw {w w' : World} {B base : Nat} {vo vl : Value} {st : Stk × Bool} (h : WkB w B base vo vl st) (ht : Touch (Fw B vo vl) w w') : KI w w' := by
  intro k cs ty fr hty hk
  refine ht.block k (lt_of_block hk) (fun hf => ?_)
  rcases hf with rfl | hf | hf
  · have := h.blk
    unfold Blk at this
    rw [this] at hk
    simp only [Option.some.injEq, Obj.cells.injEq] at hk
    obtain ⟨-, e, -⟩ := hk
    subst e
    rcases hty with e | e <;> exact absurd e (by decide)
  · obtain ⟨cur, fr', hh⟩ := own_type h.op hf
    rw [hh] at hk
    simp only [Option.some.injEq, Obj.cells.injEq] at hk
    obtain ⟨-, e, -⟩ := hk
    subst e
    rcases hty with e | e <;> exact absurd e (by decide)
  · obtain ⟨cur, fr', hh⟩ := own_type h.la hf
    rw [hh] at hk
    simp only [Option.some.injEq, Obj.cells.injEq] at hk
    obtain ⟨-, e, -⟩ := hk
    subst e
    rcases hty with e | e <;> exact absurd e (by decide)
theorem Its.ki {w w' : World} {base : Nat} {css : List (List Value)} {l : List It} (h : Its w base css l) (k : KI w w') : Its w' base css l := by
  refine ⟨h.1, fun i h1 h2 => ?_⟩
  obtain ⟨u, e, ho⟩ := h.2 i h1 h2
  exact ⟨u, e, k.own (.inr rfl) ho⟩
theorem Its.kt {w w' : World} {base : Nat} {css : List (List Value)} {l : List It} (h : Its w base css l) (k : KT 90 w w') : Its w' base css l := by
  refine ⟨h.1, fun i h1 h2 => ?_⟩
  obtain ⟨u, e, ho⟩ := h.2 i h1 h2
  exact ⟨u, e, k.own ho rfl⟩
theorem Its.snoc {w : World} {base : Nat} {css : List (List Value)} {l : List It} (h : Its w base css l) {op : Nat} {A B : Int} {u : Value} {xs : List Int} (hu : OwnI w base .i64 2 u xs) : Its w base (css ++ [[.int .u8 op, .int .i64 A, .int .i64 B, u]]) (l ++ [⟨op, A, B, xs⟩]) := by
  have hl := h.1
  refine ⟨by simp [hl], fun i h1 h2 => ?_⟩
  by_cases hi : i < css.length
  · rw [List.getElem_append_left hi, List.getElem_append_left (by omega)]
    exact h.2 i hi (by omega)
  · obtain rfl : i = css.length := by simp at h1; omega
    rw [List.getElem_append_right (Nat.le_refl _), List.getElem_append_right (by omega)]
    simp only [hl, Nat.sub_self, List.getElem_cons_zero]
    exact ⟨u, rfl, hu⟩
/-- a list of instructions that the call owns -/
def OwnB (w : World) (base : Nat) (v : Value) (l : List It) : Prop := ∃ css : List (List Value), Its w base css l ∧ w.ownsRow base 90 4 v l.length css.flatten
theorem OwnB.nil (w : World) (base : Nat) : OwnB w base (.slice none 0 0) [] := ⟨[], ⟨rfl, fun i h => by simp at h⟩, World.ownsRow_nil _ _ _ _⟩
theorem OwnB.ki {w w' : World} {base : Nat} {v : Value} {l : List It} (h : OwnB w base v l) (k : KI w w') : OwnB w' base v l := by
  obtain ⟨css, h1, h2⟩ := h
  exact ⟨css, h1.ki k, k.own (.inl rfl) h2⟩
theorem OwnB.below {w w' : World} {base : Nat} {v : Value} {l : List It} (h : OwnB w base v l) (k : Below w.heap.size w w') : OwnB w' base v l := h.ki (KI.below k)
theorem OwnB.bod {w : World} {base : Nat} {v : Value} {l : List It} (h : OwnB w base v l) : BodS w v l := by
  obtain ⟨css, h1, h2⟩ := h
  refine ⟨css, h1.1, own_sl h2, fun i g1 g2 => ?_⟩
  obtain ⟨u, e, ho⟩ := h1.2 i g1 g2
  exact ⟨u, e, OwnI.ints ho⟩
theorem OwnB.push {w w' : World} {base : Nat} {v v' : Value} {l : List It} {css : List (List Value)} (h1 : Its w base css l) (h2 : w.ownsRow base 90 4 v l.length css.flatten) {op : Nat} {A B : Int} {u : Value} {xs : List Int} (hu : OwnI w base .i64 2 u xs)
    (hg : w.grownBy w' v.ownBlock) (ho : w'.ownsRow base 90 4 v' (l.length + 1) (css.flatten ++ [.int .u8 op, .int .i64 A, .int .i64 B, u])) : OwnB w' base v' (l ++ [⟨op, A, B, xs⟩]) := by
  have k : KT 90 w w' := KT.grown hg h2
  refine ⟨_, (h1.kt k).snoc (k.own hu rfl), ?_⟩
  simpa using ho
theorem WkB.kt {w w' : World} {B base : Nat} {vo vl : Value} {st : Stk × Bool} (h : WkB w B base vo vl st) (k : KT 90 w w') : WkB w' B base vo vl st :=
  ⟨k.blk h.blk rfl, k.own h.op rfl, k.own h.la rfl, h.le, h.full, h.most⟩
def slLen : Value → Nat
  | .slice _ n _ => n
  | _ => 0
theorem OwnB.len {w : World} {base : Nat} {v : Value} {l : List It} (h : OwnB w base v l) : slLen v = l.length := by
  obtain ⟨css, h1, h2⟩ := h
  obtain ⟨ao, cap, rfl, _⟩ := own_sl h2
  rfl
end Go.Proofs.Ytomaiolhaenmhaa
/-
  TREES OF BODIES: parts in memory. No condition.
-/
namespace Go.Proofs.Ytomaiolhaenmhaa
open Go.RowKit Go.Lib

theorem info_node : (Try.prog.info? 216).map (fun i => (i.zero, i.size, i.bytes)) = some (some .nilIface, 1, 16) := by kernel_rfl
theorem elem_node : Elem Try.prog 210 216 .nilIface 1 16 := ⟨Try.underlying210, info_node, rfl, by decide⟩
/-- a part: its value, what it writes, how deep, how many -/
abbrev Nd := Value × List It × Nat × Nat
def cat : List Nd → List It
  | [] => []
  | p :: ps => p.2.1 ++ cat ps
def mostD : List Nd → Nat
  | [] => 0
  | p :: ps => max p.2.2.1 (mostD ps)
def sumS : List Nd → Nat
  | [] => 0
  | p :: ps => p.2.2.2 + sumS ps
theorem cat_snoc (ps : List Nd) (p : Nd) : cat (ps ++ [p]) = cat ps ++ p.2.1 := by
  induction ps with
  | nil => simp [cat]
  | cons q ps ih => simp [cat, ih]
theorem mostD_snoc (ps : List Nd) (p : Nd) : mostD (ps ++ [p]) = max (mostD ps) p.2.2.1 := by
  induction ps with
  | nil => simp [mostD]
  | cons q ps ih => simp only [List.cons_append, mostD, ih]; omega
theorem sumS_snoc (ps : List Nd) (p : Nd) : sumS (ps ++ [p]) = sumS ps + p.2.2.2 := by
  induction ps with
  | nil => simp [sumS]
  | cons q ps ih => simp only [List.cons_append, sumS, ih]; omega
abbrev singleV (x : It) (u : Value) : Value := .agg #[.int .u8 x.op, .int .i64 x.A, .int .i64 x.B, u]
abbrev blockV (x : It) (u t : Value) : Value := .agg #[.int .u8 x.op, .int .i64 x.A, .int .i64 x.B, u, t]
abbrev choiceV (x : It) (u t o : Value) (b : Bool) : Value := .agg #[.int .u8 x.op, .int .i64 x.A, .int .i64 x.B, u, t, o, .bool b]
abbrev ItS (x : It) : Prop := ItOk x ∧ x.tos.length ≤ 16
/-- the row of the parts: its block is one of F -/
def RowF (w : World) (F : Nat → Prop) (t : Value) (ps : List Nd) : Prop := w.ownsRow 0 216 1 t ps.length (ps.map (·.1)) ∧ ∀ k, t.ownBlock = some k → F k
/-- a part in memory; the rows of parts in it lie in blocks of F -/
inductive NodeI (w : World) (F : Nat → Prop) : Value → List It → Nat → Nat → Prop
  | single (x : It) (u : Value) : ItS x → OwnI w 0 .i64 2 u x.tos → NodeI w F (.iface 263 (singleV x u)) [x] 0 0
  | block (x : It) (u t : Value) (ps : List Nd) : ItS x → OwnI w 0 .i64 2 u x.tos → RowF w F t ps → (∀ p ∈ ps, NodeI w F p.1 p.2.1 p.2.2.1 p.2.2.2) →
      NodeI w F (.iface 259 (blockV x u t)) (x :: (cat ps ++ [endI])) (mostD ps + 1) (sumS ps + 1)
  | half (x : It) (u t : Value) (ps : List Nd) : ItS x → OwnI w 0 .i64 2 u x.tos → RowF w F t ps → (∀ p ∈ ps, NodeI w F p.1 p.2.1 p.2.2.1 p.2.2.2) →
      NodeI w F (.iface 261 (choiceV x u t (.slice none 0 0) false)) (x :: (cat ps ++ [endI])) (mostD ps + 1) (sumS ps + 1)
  | both (x : It) (u t o : Value) (ps qs : List Nd) : ItS x → OwnI w 0 .i64 2 u x.tos → RowF w F t ps → (∀ p ∈ ps, NodeI w F p.1 p.2.1 p.2.2.1 p.2.2.2) → RowF w F o qs → (∀ p ∈ qs, NodeI w F p.1 p.2.1 p.2.2.1 p.2.2.2) →
      NodeI w F (.iface 261 (choiceV x u t o true)) (x :: (cat ps ++ elseI :: (cat qs ++ [endI]))) (max (mostD ps) (mostD qs) + 1) (sumS ps + sumS qs + 1)
/-- lists of numbers and the blocks of F stay -/
def KN (F : Nat → Prop) (w w' : World) : Prop := ∀ k, k < w.heap.size → (F k ∨ ∃ cs fr, w.heap[k]? = some (.cells cs 2 fr)) → w'.heap[k]? = w.heap[k]?
theorem KN.below {F : Nat → Prop} {w w' : World} (h : Below w.heap.size w w') : KN F w w' := fun k hk _ => h.block k hk
theorem KN.ints {F : Nat → Prop} {w w' : World} {base : Nat} {u : Value} {xs : List Int} (h : KN F w w') (hu : OwnI w base .i64 2 u xs) : OwnI w' base .i64 2 u xs := by
  refine own_same hu (fun k hk => ?_)
  obtain ⟨cur, fr, hh⟩ := own_type hu hk
  exact h k (lt_of_block hh) (.inr ⟨_, _, hh⟩)
theorem RowF.keep {F G : Nat → Prop} {w w' : World} {t : Value} {ps : List Nd} (hr : RowF w F t ps) (h : KN F w w') (hg : ∀ k, F k → G k) : RowF w' G t ps := by
  refine ⟨own_same hr.1 (fun k hk => ?_), fun k hk => hg k (hr.2 k hk)⟩
  obtain ⟨cur, fr, hh⟩ := own_type hr.1 hk
  exact h k (lt_of_block hh) (.inl (hr.2 k hk))
theorem NodeI.keep {F G : Nat → Prop} {w w' : World} {v : Value} {xs : List It} {d s : Nat} (hn : NodeI w F v xs d s) (h : KN F w w') (hg : ∀ k, F k → G k) : NodeI w' G v xs d s := by
  induction hn with
  | single x u hx hu => exact .single x u hx (h.ints hu)
  | block x u t ps hx hu ht _ ih => exact .block x u t ps hx (h.ints hu) (ht.keep h hg) ih
  | half x u t ps hx hu ht _ ih => exact .half x u t ps hx (h.ints hu) (ht.keep h hg) ih
  | both x u t o ps qs hx hu ht _ ho _ ih ih2 => exact .both x u t o ps qs hx (h.ints hu) (ht.keep h hg) ih (ho.keep h hg) ih2
/-- parts that stand in no row yet, or in one that grows -/
def PartsI (w : World) (F : Nat → Prop) (ps : List Nd) : Prop := ∀ p ∈ ps, NodeI w F p.1 p.2.1 p.2.2.1 p.2.2.2
theorem PartsI.keep {F G : Nat → Prop} {w w' : World} {ps : List Nd} (hp : PartsI w F ps) (h : KN F w w') (hg : ∀ k, F k → G k) : PartsI w' G ps := fun p g => (hp p g).keep h hg
theorem PartsI.snoc {F : Nat → Prop} {w : World} {ps : List Nd} (hp : PartsI w F ps) {v : Value} {xs : List It} {d s : Nat} (hn : NodeI w F v xs d s) : PartsI w F (ps ++ [(v, xs, d, s)]) := by
  intro p g
  rcases List.mem_append.1 g with g | g
  · exact hp p g
  · rw [List.mem_singleton.1 g]; exact hn
theorem cat_le {ps : List Nd} (h : ∀ p ∈ ps, p.2.2.1 ≤ p.2.1.length ∧ p.2.2.2 ≤ p.2.1.length) : mostD ps ≤ (cat ps).length ∧ sumS ps ≤ (cat ps).length := by
  induction ps with
  | nil => simp [mostD, sumS]
  | cons p ps ih =>
    have h1 := ih (fun q hq => h q (by simp [hq]))
    have h2 := h p (by simp)
    simp only [mostD, sumS, cat, List.length_append]
    omega
theorem NodeI.le {w : World} {F : Nat → Prop} {v : Value} {xs : List It} {d s : Nat} (h : NodeI w F v xs d s) : d ≤ xs.length ∧ s ≤ xs.length := by
  induction h with
  | single x u hx hu => simp
  | block x u t ps hx hu ht _ ih => have := cat_le ih; simp only [List.length_cons, List.length_append, List.length_nil]; omega
  | half x u t ps hx hu ht _ ih => have := cat_le ih; simp only [List.length_cons, List.length_append, List.length_nil]; omega
  | both x u t o ps qs hx hu ht _ ho _ ih ih2 => have := cat_le ih; have := cat_le ih2; simp only [List.length_cons, List.length_append, List.length_nil]; omega
theorem PartsI.le {w : World} {F : Nat → Prop} {ps : List Nd} (h : PartsI w F ps) : mostD ps ≤ (cat ps).length ∧ sumS ps ≤ (cat ps).length := cat_le (fun p hp => (h p hp).le)
theorem RowF.open {w : World} {F : Nat → Prop} {t : Value} {ps : List Nd} (h : RowF w F t ps) : ∃ ao cap, t = .slice ao ps.length cap := by
  obtain ⟨ao, cap, hv, _⟩ := own_sl h.1
  exact ⟨ao, cap, hv⟩
theorem RowF.at {w : World} {F : Nat → Prop} {t : Value} {ps : List Nd} (h : RowF w F t ps) (k : Nat) (hk : k < ps.length) :
    ∃ b cap, t = .slice (some ⟨b, 0, none⟩) ps.length cap ∧ ps.length ≤ cap ∧ cap ≤ 9223372036854775807 ∧ w.cell? ⟨b, k, none⟩ = some ps[k].1 := by
  obtain ⟨g, cap, rfl, _, h1, h2, _, h3, _, _⟩ := own_at h.1 (by omega)
  refine ⟨g, cap, rfl, h1, by unfold maxLen at h2; omega, h3 k _ ?_⟩
  simp [hk]
theorem cat_take {ps : List Nd} {k : Nat} (hk : k < ps.length) : cat (ps.take (k + 1)) = cat (ps.take k) ++ ps[k].2.1 := by rw [List.take_succ_eq_append_getElem hk, cat_snoc]
theorem mostD_take {ps : List Nd} {k : Nat} (hk : k < ps.length) : mostD (ps.take (k + 1)) = max (mostD (ps.take k)) ps[k].2.2.1 := by rw [List.take_succ_eq_append_getElem hk, mostD_snoc]
theorem sumS_take {ps : List Nd} {k : Nat} (hk : k < ps.length) : sumS (ps.take (k + 1)) = sumS (ps.take k) + ps[k].2.2.2 := by rw [List.take_succ_eq_append_getElem hk, sumS_snoc]
theorem cat_take_le (ps : List Nd) (k : Nat) : (cat (ps.take k)).length ≤ (cat ps).length := by
  induction ps generalizing k with
  | nil => simp [cat]
  | cons p ps ih =>
    cases k with
    | zero => simp [cat]
    | succ k => simp only [List.take_succ_cons, cat, List.length_append]; have := ih k; omega
end Go.Proofs.Ytomaiolhaenmhaa
