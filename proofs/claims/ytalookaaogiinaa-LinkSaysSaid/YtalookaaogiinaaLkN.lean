/-
  LINKS, the plain law: In, Out, Offer, Tick of both ends tell the same and keep the two alike. No condition.
-/
import Derived.Test.YtalookaaogiinaaLkM
namespace Go.Proofs.Ytalookaaogiinaa

def idleL (r : RE) : Prop := r.kept (r.came.length + 1) = none
theorem rel_in {s : PE} {r : RE} (h : RelL s r) (hi : idleL r) (f : Frm) (hs : 0 ≤ f.seq) (ha : 0 ≤ f.ack) : RelL (inP s f).2 (inR r f) ∧ (inR r f).came = r.came ++ (inP s f).1 ∧ idleL (inR r f) := by
  have h1 := rel_ack h f.ack ha
  have hc : (ackR r f.ack).came = r.came ∧ (ackR r f.ack).kept = r.kept := by unfold ackR; split <;> exact ⟨rfl, rfl⟩
  unfold inP inR
  by_cases h0 : f.seq = 0
  · rw [if_pos h0]
    have e1 : putR (ackR r f.ack) f = ackR r f.ack := by unfold putR; rw [if_neg (by omega)]
    have e2 : drainR 4 (ackR r f.ack) = ackR r f.ack := by
      rw [drainR, hc.1, hc.2]
      have hi2 : r.kept ((r.came.length : Int) + 1) = none := hi
      rw [hi2]
    rw [e1, e2]
    refine ⟨h1, by rw [hc.1]; simp, ?_⟩
    unfold idleL
    rw [hc.1, hc.2]
    exact hi
  · rw [if_neg h0]
    have h2 := rel_put h1 f (by omega)
    obtain ⟨h3, h4⟩ := rel_drain 4 h2
    have hc2 : (putR (ackR r f.ack) f).came = r.came := by
      rw [← hc.1]
      unfold putR
      split
      · split <;> rfl
      · rfl
    refine ⟨h3, by rw [h4, hc2], drain_end 4 _ (fun j hj => h2.far j ?_)⟩
    rw [h2.came]
    exact hj

theorem rel_offer {s : PE} {r : RE} (h : RelL s r) (t : ByteArray) : RelL { s with waits := s.waits ++ [⟨t, false, 0⟩] } { r with offered := r.offered ++ [t], sent := r.sent ++ [-1] } := by
  have hall := h.all
  have h0 := h.ack0
  have hlen := h.len
  refine { h with len := ?_, all := ?_, body := ?_, time := ?_, past := ?_, sents := ?_, high := ?_ }
  · show (r.offered ++ [t]).length = (r.sent ++ [-1]).length
    simp [hlen]
  · show s.acked + ((s.waits ++ [⟨t, false, 0⟩] : List Ln).length : Int) = ((r.sent ++ [-1]).length : Int)
    simp; omega
  · intro i x hx
    have hx : (s.waits ++ [⟨t, false, 0⟩])[i]? = some x := hx
    show (r.offered ++ [t])[s.acked.toNat + i]? = some x.body
    rcases Nat.lt_or_ge i s.waits.length with g | g
    · rw [List.getElem?_append_left g] at hx
      rw [List.getElem?_append_left (by omega)]
      exact h.body i x hx
    · rw [List.getElem?_append_right g] at hx
      have : i - s.waits.length = 0 := by
        rcases Nat.eq_zero_or_pos (i - s.waits.length) with e | e
        · exact e
        · rw [List.getElem?_eq_none (by simp; omega)] at hx; simp at hx
      rw [this] at hx
      injection hx with hx
      subst hx
      rw [List.getElem?_append_right (by omega), show s.acked.toNat + i - r.offered.length = 0 by omega]
      rfl
  · intro i x hx
    have hx : (s.waits ++ [⟨t, false, 0⟩])[i]? = some x := hx
    show (r.sent ++ [-1])[s.acked.toNat + i]? = some (if x.sent = true then x.time else -1)
    rcases Nat.lt_or_ge i s.waits.length with g | g
    · rw [List.getElem?_append_left g] at hx
      rw [List.getElem?_append_left (by omega)]
      exact h.time i x hx
    · rw [List.getElem?_append_right g] at hx
      have : i - s.waits.length = 0 := by
        rcases Nat.eq_zero_or_pos (i - s.waits.length) with e | e
        · exact e
        · rw [List.getElem?_eq_none (by simp; omega)] at hx; simp at hx
      rw [this] at hx
      injection hx with hx
      subst hx
      rw [List.getElem?_append_right (by omega), show s.acked.toNat + i - r.sent.length = 0 by omega]
      rfl
  · intro x hx
    rcases List.mem_append.1 hx with g | g
    · exact h.past x g
    · rw [List.mem_singleton.1 g]
      exact ⟨Int.le_refl _, h.now0.1⟩
  · intro x hx
    have h1 := h.now0
    have h2 := h.now
    rcases List.mem_append.1 hx with g | g
    · exact h.sents x g
    · rw [List.mem_singleton.1 g]
      show (-1 : Int) ≤ -1 ∧ -1 ≤ r.now
      omega
  · show s.high = hiK (r.sent ++ [-1]) (r.sent ++ [-1]).length
    rw [hiK_push]
    exact h.high
theorem rel_tick {s : PE} {r : RE} (h : RelL s r) (n : Int) (hn : 0 ≤ n ∧ s.now + n ≤ 1099511627776) : RelL { s with now := s.now + n } { r with now := r.now + n } := by
  have h1 := h.now0
  have h2 := h.now
  refine { h with now := ?_, past := ?_, sents := ?_, now0 := ?_ }
  · show r.now + n = s.now + n
    omega
  · intro x hx
    have := h.past x hx
    show 0 ≤ x.time ∧ x.time ≤ s.now + n
    omega
  · intro t ht
    have := h.sents t ht
    show -1 ≤ t ∧ t ≤ r.now + n
    omega
  · show 0 ≤ s.now + n ∧ s.now + n ≤ 1099511627776
    omega

/-! Out -/
theorem refQ_early (r : RE) (k : Nat) (hk : (k : Int) ≤ r.acked) : refQ r k = ([], r.sent) := by
  induction k with
  | zero => rfl
  | succ k ih =>
    rw [refQ]
    cases hx : r.sent[k]? with
    | none => exact ih (by omega)
    | some t =>
      show (if dueR r k t then _ else refQ r k) = _
      rw [if_neg (by rintro ⟨g, _⟩; omega)]
      exact ih (by omega)
theorem refQ_late (r : RE) (k : Nat) (hk : r.acked + 4 ≤ (k : Int)) (d : Nat) : refQ r (k + d) = refQ r k := by
  induction d with
  | zero => rfl
  | succ d ih =>
    show refQ r (k + d + 1) = _
    rw [refQ]
    cases hx : r.sent[k + d]? with
    | none => exact ih
    | some t =>
      show (if dueR r (k + d) t then _ else refQ r (k + d)) = _
      rw [if_neg (by rintro ⟨_, g, _⟩; omega)]
      exact ih
theorem rel_outQ {s : PE} {r : RE} (h : RelL s r) (j : Nat) (hj : j ≤ 4) (hj2 : j ≤ s.waits.length) :
    (refQ r (s.acked.toNat + j)).1 = (outQ s j).1 ∧ RelL { s with waits := (outQ s j).2.1, high := (outQ s j).2.2 } { r with sent := (refQ r (s.acked.toNat + j)).2 } := by
  have h0 := h.ack0
  have hall := h.all
  have hlen := h.len
  induction j with
  | zero =>
    rw [refQ_early r _ (by rw [h.acked]; omega)]
    exact ⟨rfl, h⟩
  | succ j ih =>
    obtain ⟨e, R⟩ := ih (by omega) (by omega)
    have hjw : j < s.waits.length := by omega
    have hx : s.waits[j]? = some s.waits[j] := List.getElem?_eq_getElem hjw
    have hb := h.body j _ hx
    have ht := h.time j _ hx
    have hp := h.past _ (List.getElem_mem hjw)
    generalize s.waits[j] = x at *
    have hnow := h.now
    have hack := h.acked
    rw [show s.acked.toNat + (j + 1) = s.acked.toNat + j + 1 by omega]
    by_cases hd : x.sent = true ∧ s.now - x.time < 3
    · rw [outQ_skip hx hd, refQ_skip ht (by
        rw [if_pos hd.1]
        rintro ⟨_, _, g | g⟩ <;> omega)]
      exact ⟨e, R⟩
    · have due : dueR r (s.acked.toNat + j) (if x.sent = true then x.time else -1) := by
        refine ⟨by omega, by omega, ?_⟩
        split
        · rename_i g
          have : ¬ (s.now - x.time < 3) := fun g2 => hd ⟨g, g2⟩
          right; omega
        · left; omega
      rw [outQ_send hx hd, refQ_send ht due]
      refine ⟨?_, ?_⟩
      · show (refQ r (s.acked.toNat + j)).1 ++ _ = (outQ s j).1 ++ _
        rw [e]
        have hb2 : r.offered.getD (s.acked.toNat + j) ByteArray.empty = x.body := by simp [List.getD, hb]
        rw [hb2, h.me, h.other, ← h.came]
        have : (((s.acked.toNat + j : Nat) : Int) + 1) = s.acked + 1 + j := by omega
        rw [this]
      · have lq := outQ_len s j
        have lr := refQ_len r (s.acked.toNat + j)
        have nw := h.now0
        refine { R with len := ?_, all := ?_, body := ?_, time := ?_, past := ?_, sents := ?_, high := ?_ }
        · show r.offered.length = ((refQ r (s.acked.toNat + j)).2.set _ _).length
          rw [List.length_set, lr]; exact hlen
        · show s.acked + (((outQ s j).2.1.set _ _).length : Int) = (((refQ r (s.acked.toNat + j)).2.set _ _).length : Int)
          rw [List.length_set, List.length_set, lq, lr]; exact hall
        · intro i y hy
          have hy : ((outQ s j).2.1.set j ⟨x.body, true, s.now⟩)[i]? = some y := hy
          show r.offered[s.acked.toNat + i]? = some y.body
          by_cases hij : j = i
          · subst hij
            rw [List.getElem?_set_self (by omega)] at hy
            injection hy with hy
            subst hy
            exact hb
          · rw [List.getElem?_set_ne hij] at hy
            exact R.body i y hy
        · intro i y hy
          have hy : ((outQ s j).2.1.set j ⟨x.body, true, s.now⟩)[i]? = some y := hy
          show ((refQ r (s.acked.toNat + j)).2.set (s.acked.toNat + j) r.now)[s.acked.toNat + i]? = some (if y.sent = true then y.time else -1)
          by_cases hij : j = i
          · subst hij
            rw [List.getElem?_set_self (by omega)] at hy
            injection hy with hy
            subst hy
            rw [List.getElem?_set_self (by omega)]
            show some r.now = some s.now
            rw [hnow]
          · rw [List.getElem?_set_ne hij] at hy
            rw [List.getElem?_set_ne (by omega)]
            exact R.time i y hy
        · intro y hy
          rcases List.mem_or_eq_of_mem_set hy with g | g
          · exact R.past y g
          · subst g; exact ⟨nw.1, Int.le_refl _⟩
        · intro t g
          rcases List.mem_or_eq_of_mem_set g with g | g
          · exact R.sents t g
          · subst g
            show -1 ≤ r.now ∧ r.now ≤ r.now
            omega
        · have hh := R.high
          have hh : (outQ s j).2.2 = hiK (refQ r (s.acked.toNat + j)).2 (refQ r (s.acked.toNat + j)).2.length := hh
          show max (outQ s j).2.2 (s.acked + 1 + j) = hiK ((refQ r (s.acked.toNat + j)).2.set (s.acked.toNat + j) r.now) ((refQ r (s.acked.toNat + j)).2.set (s.acked.toNat + j) r.now).length
          rw [List.length_set, hiK_set _ _ _ (by omega) _ (Nat.le_refl _), if_pos (by omega), hh]
          have : (((s.acked.toNat + j : Nat) : Int) + 1) = s.acked + 1 + j := by omega
          rw [this]
theorem rel_out {s : PE} {r : RE} (h : RelL s r) : refF r = outF s ∧ RelL (outS s) (refS r) := by
  have hall := h.all
  have h0 := h.ack0
  obtain ⟨e, R⟩ := rel_outQ h (outN s) (by unfold outN; omega) (by unfold outN; omega)
  have hq : refQ r r.sent.length = refQ r (s.acked.toNat + outN s) := by
    by_cases h4 : s.waits.length ≤ 4
    · have : r.sent.length = s.acked.toNat + outN s := by unfold outN; omega
      rw [this]
    · have h5 : outN s = 4 := by unfold outN; omega
      have := refQ_late r (s.acked.toNat + outN s) (by rw [h.acked]; omega) (r.sent.length - (s.acked.toNat + outN s))
      rwa [show s.acked.toNat + outN s + (r.sent.length - (s.acked.toNat + outN s)) = r.sent.length by omega] at this
  have hf : refF r = outF s := by
    unfold refF outF
    rw [hq, e, h.me, h.other, ← h.came, h.owed]
    by_cases g : (outQ s (outN s)).1 = [] ∧ s.owed = true
    · rw [if_pos g, if_pos ⟨g.2, g.1⟩]
    · rw [if_neg g, if_neg (fun k => g ⟨k.2, k.1⟩)]
  refine ⟨hf, ?_⟩
  unfold outS refS
  rw [hq, hf]
  exact { R with owed := by show (r.owed && decide (outF s = [])) = (s.owed && decide (outF s = [])); rw [h.owed] }
theorem rel_new (a b : Int) : RelL (newP a b) (newR a b) ∧ idleL (newR a b) := by
  refine ⟨⟨rfl, rfl, rfl, rfl, rfl, Int.le_refl _, rfl, rfl, ?_, ?_, ?_, ?_, rfl, rfl, ?_, ?_, ⟨Int.le_refl _, by show (0 : Int) ≤ 1099511627776; decide⟩⟩, rfl⟩
  · intro i x hx; simp at hx
  · intro i x hx; simp at hx
  · intro x hx; simp at hx
  · intro x hx; simp at hx
  · intro j _ _; exact ⟨rfl, fun b hb => by simp at hb⟩
  · intro j _; rfl
end Go.Proofs.Ytalookaaogiinaa
