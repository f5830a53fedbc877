/-
  LINKS, the plain law: what the program's end and the reference's tell, with no program in sight. No condition.
-/
import Derived.Test.YtalookaaogiinaaLkT
namespace Go.Proofs.Ytalookaaogiinaa

def upd {α β : Type} [DecidableEq α] (f : α → β) (k : α) (x : β) : α → β := fun j => if j = k then x else f j
theorem upd_same {α β : Type} [DecidableEq α] (f : α → β) (k : α) (x : β) : upd f k x k = x := if_pos rfl
theorem upd_ne {α β : Type} [DecidableEq α] (f : α → β) (k j : α) (x : β) (h : j ≠ k) : upd f k x j = f j := if_neg h
/-- the place of a count -/
def slot (c : Int) : Nat := (c % 4).toNat
theorem slot_lt (c : Int) : slot c < 4 := by unfold slot; omega
/-- what In tells of a frame -/
def inE (me other : Int) (f : Frm) : Int := if chkFr f ≠ 0 then chkFr f else if f.fr ≠ other ∨ f.to ≠ me then 1 else 0

/-! the program's -/
def ackP (s : PE) (a : Int) : PE := if s.acked < a ∧ a ≤ s.high then { s with waits := s.waits.drop (a - s.acked).toNat, acked := a } else s
def putP (s : PE) (f : Frm) : PE := if s.came < f.seq ∧ f.seq ≤ s.came + 4 ∧ (s.early (slot f.seq)).1 = false then { s with early := upd s.early (slot f.seq) (true, f.body), owed := true } else { s with owed := true }
def nextP (s : PE) : Bool × ByteArray := s.early (slot (s.came + 1))
def takeP (s : PE) : PE := { s with early := upd s.early (slot (s.came + 1)) (false, ByteArray.empty), came := s.came + 1 }
def drainP : Nat → PE → List ByteArray × PE
  | 0, s => ([], s)
  | n + 1, s => if (nextP s).1 = true then ((nextP s).2 :: (drainP n (takeP s)).1, (drainP n (takeP s)).2) else ([], s)
def inP (s : PE) (f : Frm) : List ByteArray × PE := if f.seq = 0 then ([], ackP s f.ack) else drainP 4 (putP (ackP s f.ack) f)

/-! the reference's -/
def hiK (l : List Int) : Nat → Int
  | 0 => 0
  | k + 1 => if 0 ≤ l.getD k (-1) then (k : Int) + 1 else hiK l k
def ackR (r : RE) (a : Int) : RE := if a ≤ hiK r.sent r.sent.length then { r with acked := max r.acked a } else r
def putR (r : RE) (f : Frm) : RE :=
  if 0 < f.seq then (if r.kept f.seq = none ∧ (r.came.length : Int) < f.seq ∧ f.seq ≤ r.came.length + 4 then { r with kept := upd r.kept f.seq (some f.body), cnt := r.cnt + 1, owed := true } else { r with owed := true }) else r
def takeR (r : RE) (b : ByteArray) : RE := { r with came := r.came ++ [b], kept := upd r.kept (r.came.length + 1) none }
def drainR : Nat → RE → RE
  | 0, r => r
  | n + 1, r => match r.kept (r.came.length + 1) with
    | none => r
    | some b => drainR n (takeR r b)
def inR (r : RE) (f : Frm) : RE := drainR 4 (putR (ackR r f.ack) f)

/-! the two side by side -/
structure RelL (s : PE) (r : RE) : Prop where
  me : r.me = s.me
  other : r.other = s.other
  now : r.now = s.now
  owed : r.owed = s.owed
  acked : r.acked = s.acked
  ack0 : 0 ≤ s.acked
  len : r.offered.length = r.sent.length
  all : s.acked + s.waits.length = r.sent.length
  body : ∀ i x, s.waits[i]? = some x → r.offered[s.acked.toNat + i]? = some x.body
  time : ∀ i x, s.waits[i]? = some x → r.sent[s.acked.toNat + i]? = some (if x.sent = true then x.time else -1)
  past : ∀ x ∈ s.waits, 0 ≤ x.time ∧ x.time ≤ s.now
  sents : ∀ t ∈ r.sent, -1 ≤ t ∧ t ≤ r.now
  high : s.high = hiK r.sent r.sent.length
  came : s.came = r.came.length
  early : ∀ j : Int, s.came < j → j ≤ s.came + 4 → (s.early (slot j)).1 = (r.kept j).isSome ∧ ∀ b, r.kept j = some b → (s.early (slot j)).2 = b
  far : ∀ j : Int, s.came + 4 < j → r.kept j = none
  now0 : 0 ≤ s.now ∧ s.now ≤ 1099511627776

theorem hiK_le (l : List Int) (k : Nat) : 0 ≤ hiK l k ∧ hiK l k ≤ k := by
  induction k with
  | zero => exact ⟨Int.le_refl _, Int.le_refl _⟩
  | succ k ih =>
    rw [hiK]
    split <;> omega
theorem hiK_ext (l m : List Int) (k : Nat) (h : ∀ i, i < k → l.getD i (-1) = m.getD i (-1)) : hiK l k = hiK m k := by
  induction k with
  | zero => rfl
  | succ k ih =>
    rw [hiK, hiK, h k (by omega), ih (fun i hi => h i (by omega))]
theorem hiK_snoc (l : List Int) (k : Nat) (hk : k ≤ l.length) : hiK (l ++ [-1]) k = hiK l k := by
  refine hiK_ext _ _ k (fun i hi => ?_)
  simp only [List.getD]
  rw [List.getElem?_append_left (by omega)]
theorem hiK_push (l : List Int) : hiK (l ++ [-1]) (l ++ [-1]).length = hiK l l.length := by
  rw [List.length_append]
  show hiK (l ++ [-1]) (l.length + 1) = _
  rw [hiK]
  have : (l ++ [-1]).getD l.length (-1) = -1 := by simp [List.getD]
  rw [this, if_neg (by decide), hiK_snoc l _ (Nat.le_refl _)]
theorem hiK_set (l : List Int) (j : Nat) (t : Int) (ht : 0 ≤ t) (k : Nat) (hk : k ≤ l.length) : hiK (l.set j t) k = if j < k then max (hiK l k) ((j : Int) + 1) else hiK l k := by
  induction k with
  | zero => rw [if_neg (by omega)]; rfl
  | succ k ih =>
    have ih := ih (by omega)
    have hb := hiK_le l k
    rw [hiK, hiK]
    by_cases hj : j = k
    · subst hj
      have e : (l.set j t).getD j (-1) = t := by simp [List.getD, List.getElem?_set_self (show j < l.length by omega)]
      rw [e, if_pos ht, if_pos (by omega)]
      split <;> omega
    · have e : (l.set j t).getD k (-1) = l.getD k (-1) := by simp [List.getD, List.getElem?_set_ne hj]
      rw [e, ih]
      by_cases h2 : j < k
      · rw [if_pos h2, if_pos (show j < k + 1 by omega)]
        split <;> omega
      · rw [if_neg h2, if_neg (show ¬ j < k + 1 by omega)]

/-! In -/
theorem rel_ack {s : PE} {r : RE} (h : RelL s r) (a : Int) (ha : 0 ≤ a) : RelL (ackP s a) (ackR r a) := by
  unfold ackP ackR
  have hh := h.high
  have hb := hiK_le r.sent r.sent.length
  rw [← hh]
  by_cases h1 : a ≤ s.high
  · rw [if_pos h1]
    by_cases h2 : s.acked < a
    · rw [if_pos ⟨h2, h1⟩]
      have h0 := h.ack0
      have hall := h.all
      refine { h with acked := ?_, ack0 := by omega, all := ?_, body := ?_, time := ?_, past := ?_ }
      · show max r.acked a = a
        rw [h.acked]; omega
      · show a + ((s.waits.drop (a - s.acked).toNat).length : Int) = r.sent.length
        rw [List.length_drop]; omega
      · intro i x hx
        rw [List.getElem?_drop] at hx
        have := h.body _ x hx
        rwa [show s.acked.toNat + ((a - s.acked).toNat + i) = a.toNat + i by omega] at this
      · intro i x hx
        rw [List.getElem?_drop] at hx
        have := h.time _ x hx
        rwa [show s.acked.toNat + ((a - s.acked).toNat + i) = a.toNat + i by omega] at this
      · intro x hx
        exact h.past x (List.mem_of_mem_drop hx)
    · rw [if_neg (fun g => h2 g.1)]
      have : max r.acked a = r.acked := by have := h.acked; omega
      exact { h with acked := by show max r.acked a = s.acked; rw [this]; exact h.acked }
  · rw [if_neg h1, if_neg (fun g => h1 g.2)]
    exact h
theorem slot_ne {c i j : Int} (h1 : c < i) (h2 : i ≤ c + 4) (h3 : c < j) (h4 : j ≤ c + 4) (h : i ≠ j) : slot i ≠ slot j := by
  unfold slot
  omega
theorem rel_put {s : PE} {r : RE} (h : RelL s r) (f : Frm) (hf : 0 < f.seq) : RelL (putP s f) (putR r f) := by
  unfold putP putR
  rw [if_pos hf, ← h.came]
  by_cases h1 : s.came < f.seq ∧ f.seq ≤ s.came + 4
  · obtain ⟨h1, h2⟩ := h1
    obtain ⟨e1, _⟩ := h.early f.seq h1 h2
    cases hk : r.kept f.seq with
    | none =>
      rw [hk] at e1
      rw [if_pos ⟨h1, h2, e1⟩, if_pos ⟨rfl, h1, h2⟩]
      refine { h with owed := rfl, early := ?_, far := ?_ }
      · intro j g1 g2
        show (upd s.early (slot f.seq) (true, f.body) (slot j)).1 = (upd r.kept f.seq (some f.body) j).isSome ∧ ∀ b, upd r.kept f.seq (some f.body) j = some b → (upd s.early (slot f.seq) (true, f.body) (slot j)).2 = b
        by_cases hj : j = f.seq
        · subst hj
          rw [upd_same, upd_same]
          exact ⟨rfl, fun b hb => by injection hb⟩
        · rw [upd_ne _ _ _ _ hj, upd_ne _ _ _ _ (slot_ne g1 g2 h1 h2 hj)]
          exact h.early j g1 g2
      · intro j g
        show upd r.kept f.seq (some f.body) j = none
        rw [upd_ne _ _ _ _ (by have : s.came + 4 < j := g; omega)]
        exact h.far j g
    | some b =>
      rw [hk] at e1
      rw [if_neg (fun g => by rw [e1] at g; simp at g), if_neg (fun g => by simp at g)]
      exact { h with owed := rfl }
  · rw [if_neg (fun g => h1 ⟨g.1, g.2.1⟩), if_neg (fun g => h1 ⟨g.2.1, g.2.2⟩)]
    exact { h with owed := rfl }
theorem rel_take {s : PE} {r : RE} (h : RelL s r) (b : ByteArray) : RelL (takeP s) (takeR r b) := by
  refine { h with came := ?_, early := ?_, far := ?_ }
  · show s.came + 1 = ((r.came ++ [b]).length : Int)
    rw [List.length_append, h.came]; simp
  · intro j g1 g2
    have g1 : s.came + 1 < j := g1
    have g2 : j ≤ s.came + 1 + 4 := g2
    show (upd s.early (slot (s.came + 1)) (false, ByteArray.empty) (slot j)).1 = (upd r.kept (r.came.length + 1) none j).isSome ∧ ∀ b, upd r.kept (r.came.length + 1) none j = some b → (upd s.early (slot (s.came + 1)) (false, ByteArray.empty) (slot j)).2 = b
    rw [← h.came, upd_ne _ _ j _ (by omega)]
    by_cases hj : j = s.came + 5
    · rw [h.far j (by omega)]
      have : slot j = slot (s.came + 1) := by unfold slot; omega
      rw [this, upd_same]
      exact ⟨rfl, fun b hb => by simp at hb⟩
    · rw [upd_ne _ _ _ _ (slot_ne (c := s.came) (by omega) (by omega) (by omega) (by omega) (by omega))]
      exact h.early j (by omega) (by omega)
  · intro j g
    have g : s.came + 1 + 4 < j := g
    show upd r.kept (r.came.length + 1) none j = none
    rw [← h.came, upd_ne _ _ _ _ (by omega)]
    exact h.far j (by omega)
theorem rel_drain (n : Nat) : ∀ {s : PE} {r : RE}, RelL s r → RelL (drainP n s).2 (drainR n r) ∧ (drainR n r).came = r.came ++ (drainP n s).1 := by
  induction n with
  | zero => intro s r h; exact ⟨h, by simp [drainP, drainR]⟩
  | succ n ih =>
    intro s r h
    have he := h.early (s.came + 1) (by omega) (by omega)
    have hc := h.came
    rw [drainP, drainR]
    unfold nextP
    rw [← hc]
    cases hk : r.kept (s.came + 1) with
    | none =>
      rw [hk] at he
      rw [if_neg (by rw [he.1]; simp)]
      exact ⟨h, by simp⟩
    | some b =>
      rw [hk] at he
      rw [if_pos (show (s.early (slot (s.came + 1))).1 = true from he.1), he.2 b rfl]
      obtain ⟨i1, i2⟩ := ih (rel_take h b)
      refine ⟨i1, ?_⟩
      simp only
      rw [i2]
      show (r.came ++ [b]) ++ _ = _
      simp
theorem drainP_few (n : Nat) (s : PE) : (drainP n s).1.length ≤ n := by
  induction n generalizing s with
  | zero => simp [drainP]
  | succ n ih =>
    rw [drainP]
    split
    · simpa using ih _
    · simp
/-- nothing is ready any more -/
theorem drain_end (n : Nat) : ∀ (r : RE), (∀ j : Int, r.came.length + n < j → r.kept j = none) → (drainR n r).kept ((drainR n r).came.length + 1) = none := by
  induction n with
  | zero => intro r h; exact h _ (by show ((r.came.length : Int)) + 0 < _; simp only [drainR]; omega)
  | succ n ih =>
    intro r h
    rw [drainR]
    cases hk : r.kept (r.came.length + 1) with
    | none => exact hk
    | some b =>
      refine ih _ (fun j hj => ?_)
      have hj : (((r.came ++ [b]).length : Nat) : Int) + n < j := hj
      rw [List.length_append] at hj
      show upd r.kept (r.came.length + 1) none j = none
      have hj2 : (r.came.length : Int) + (n + 1 : Nat) < j := by
        simp at hj; omega
      rw [upd_ne _ _ _ _ (by omega)]
      exact h j hj2
end Go.Proofs.Ytalookaaogiinaa
