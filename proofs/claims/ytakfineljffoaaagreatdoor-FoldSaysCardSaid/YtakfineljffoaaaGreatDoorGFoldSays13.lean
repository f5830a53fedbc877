/-
  FOLDED BODIES, plain: what a rule gives, and that the body still fits. No condition.
-/
import Derived.Test.YtakfineljffoaaaGreatDoorGFoldSays11
namespace Go.Proofs.YtakfineljffoaaaGreatDoor
open Go.RowKit Go.Lib

def headI (y : It) : It := ⟨2, y.A, 0, []⟩
def choM (x y : It) (t : List It) : Nat × List It :=
  if x.A ≠ 0 then (1 + spanM (y :: t), headI y :: (((y :: t).take (othM (y :: t))).drop 1 ++ ((y :: t).drop (spanM (y :: t) - 1)).take 1))
  else if ((y :: t).drop (othM (y :: t))).head?.map It.op = some 5 then (1 + spanM (y :: t), headI y :: ((y :: t).take (spanM (y :: t))).drop (othM (y :: t) + 1))
  else (1 + spanM (y :: t), [])
def ruleC (x y : It) (t : List It) : Option (Nat × List It) :=
  if (x.op = 65 ∨ x.op = 66 ∨ x.op = 32 ∨ x.op = 35) ∧ y.op = 26 then some (2, [])
  else if x.op = 65 ∧ y.op = 13 then (if x.A = 0 then some (2, []) else some (2, [⟨12, y.A, 0, []⟩]))
  else if (x.op = 0 ∨ x.op = 12 ∨ x.op = 14 ∨ x.op = 15) ∧ y.op ≠ 5 ∧ y.op ≠ 11 then some (1 + spanM (y :: t), [x])
  else if x.op = 33 ∧ y.op = 32 ∧ x.A = y.A then some (2, [⟨34, x.A, 0, []⟩])
  else if x.op = 65 ∧ y.op = 4 then some (choM x y t)
  else if (x.op = 2 ∨ x.op = 3) ∧ x.A = 64 ∧ y.op = 11 then some (2, [])
  else if x.op = 34 ∧ y.op = 26 then some (2, [⟨33, x.A, 0, []⟩])
  else if x.op = 65 ∧ x.A ≠ 0 ∧ y.op = 27 then some (2, [⟨26, 0, 0, []⟩])
  else none
def ruleA (p : It → It → It → Option It) (x y : It) : List It → Option (Nat × List It)
  | [] => ruleC x y []
  | z :: t => match p x y z with
    | some c => some (3, [c])
    | none => ruleC x y (z :: t)
def ruleB (o : It → It → Option It) (p : It → It → It → Option It) (x : It) : List It → Option (Nat × List It)
  | [] => none
  | y :: t => match o x y with
    | some c => some (2, [c])
    | none => ruleA p x y t
def ruleM (o : It → It → Option It) (p : It → It → It → Option It) : List It → Option (Nat × List It)
  | [] => none
  | x :: t => if x.op = 1 then some (1, []) else ruleB o p x t
structure NumR (o : It → It → Option It) (p : It → It → It → Option It) : Prop where
  o : ∀ x y c, o x y = some c → flatOp x.op ∧ flatOp y.op ∧ flatOp c.op
  p : ∀ x y z c, p x y z = some c → flatOp x.op ∧ flatOp y.op ∧ flatOp z.op ∧ flatOp c.op
def RuleOk (l : List It) (k : Nat) (st : List Nat) (q : Nat × List It) : Prop := q.1 ≤ l.length ∧ q.2.length < q.1 ∧ run (q.2 ++ l.drop q.1) (k :: st) = some []
theorem run_flat {x : It} {l : List It} {k : Nat} {st : List Nat} (h : flatOp x.op) : run (x :: l) (k :: st) = run l (k :: st) := by rw [run, run1_flat h]; rfl
theorem run_cons {x : It} {l : List It} {st st' : List Nat} (h : run1 st x.op = some st') : run (x :: l) st = run l st' := by rw [run, h]; rfl
theorem flatI {n : Nat} (h : ¬ (n = 2 ∨ n = 3 ∨ n = 4 ∨ n = 5 ∨ n = 11)) : flatOp n := h
theorem cho_ok {x y : It} {t : List It} {k : Nat} {st : List Nat} (hx : x.op = 65) (hy : y.op = 4) (h : run (x :: y :: t) (k :: st) = some []) : RuleOk (x :: y :: t) k st (choM x y t) := by
  rw [run_flat (flatI (by omega)), run_cons (run_if hy)] at h
  obtain ⟨ys, e, r, rfl, hb, ho⟩ := parse _ t 4 (k :: st) (Nat.le_refl _) h
  have hyo : y.op = 2 ∨ y.op = 3 ∨ y.op = 4 := .inr (.inr hy)
  rcases ho with ⟨he, hr⟩ | ⟨he, -, hr⟩
  · have hs : spanM (y :: (ys ++ e :: r)) = ys.length + 2 := by
      unfold spanM
      rw [span_open hyo (by decide), bal_span hb _ _ _ (by decide), span_end he, if_pos (by decide)]
      omega
    have ht : othM (y :: (ys ++ e :: r)) = ys.length + 1 := by
      unfold othM
      rw [oth_open hyo, bal_oth hb _ _ _ (by decide), oth_end he, if_pos (by decide)]
      omega
    unfold choM
    rw [hs, ht]
    have hd : (x :: y :: (ys ++ e :: r)).drop (1 + (ys.length + 2)) = r := by
      rw [show 1 + (ys.length + 2) = ys.length + 1 + 2 by omega]
      simp [List.drop_append]
    by_cases hA : x.A ≠ 0
    · rw [if_pos hA]
      have h1 : ((y :: (ys ++ e :: r)).take (ys.length + 1)).drop 1 = ys := by simp
      have h2 : ((y :: (ys ++ e :: r)).drop (ys.length + 2 - 1)).take 1 = [e] := by simp
      rw [h1, h2]
      refine ⟨by simp; omega, by simp, ?_⟩
      simp only
      rw [hd]
      simp only [List.cons_append, List.append_assoc, List.nil_append]
      rw [run_cons (run_blk (x := headI y) (.inl rfl)), run_append, bal_run hb]
      simp only [Option.bind_some]
      rw [run_cons (run_end he)]
      exact hr
    · rw [if_neg hA]
      have h3 : ((y :: (ys ++ e :: r)).drop (ys.length + 1)).head?.map It.op = some 11 := by simp [he]
      rw [h3, if_neg (by decide)]
      refine ⟨by simp; omega, by show 0 < 1 + (ys.length + 2); omega, ?_⟩
      simp only
      rw [hd]
      exact hr
  · obtain ⟨zs, e2, r2, rfl, hz, ho2⟩ := parse _ r 2 (k :: st) (Nat.le_refl _) hr
    rcases ho2 with ⟨he2, hr2⟩ | ⟨_, h2, _⟩
    · have hs : spanM (y :: (ys ++ e :: (zs ++ e2 :: r2))) = ys.length + zs.length + 3 := by
        unfold spanM
        rw [span_open hyo (by decide), bal_span hb _ _ _ (by decide), span_flat (.inr he) (by decide), bal_span hz _ _ _ (by decide), span_end he2, if_pos (by decide)]
        omega
      have ht : othM (y :: (ys ++ e :: (zs ++ e2 :: r2))) = ys.length + 1 := by
        unfold othM
        rw [oth_open hyo, bal_oth hb _ _ _ (by decide), oth_else he, if_pos (by decide)]
        omega
      unfold choM
      rw [hs, ht]
      have hd : (x :: y :: (ys ++ e :: (zs ++ e2 :: r2))).drop (1 + (ys.length + zs.length + 3)) = r2 := by
        have : x :: y :: (ys ++ e :: (zs ++ e2 :: r2)) = (x :: y :: (ys ++ e :: (zs ++ [e2]))) ++ r2 := by simp
        rw [this, List.drop_append_of_le_length (by simp; omega), List.drop_of_length_le (by simp; omega)]
        rfl
      by_cases hA : x.A ≠ 0
      · rw [if_pos hA]
        have h1 : ((y :: (ys ++ e :: (zs ++ e2 :: r2))).take (ys.length + 1)).drop 1 = ys := by simp
        have h2 : ((y :: (ys ++ e :: (zs ++ e2 :: r2))).drop (ys.length + zs.length + 3 - 1)).take 1 = [e2] := by
          have : y :: (ys ++ e :: (zs ++ e2 :: r2)) = (y :: (ys ++ e :: zs)) ++ (e2 :: r2) := by simp
          rw [this, List.drop_append_of_le_length (by simp; omega), List.drop_of_length_le (by simp; omega)]
          rfl
        rw [h1, h2]
        refine ⟨by simp; omega, by simp; omega, ?_⟩
        simp only
        rw [hd]
        simp only [List.cons_append, List.append_assoc, List.nil_append]
        rw [run_cons (run_blk (x := headI y) (.inl rfl)), run_append, bal_run hb]
        simp only [Option.bind_some]
        rw [run_cons (run_end he2)]
        exact hr2
      · rw [if_neg hA]
        have h3 : ((y :: (ys ++ e :: (zs ++ e2 :: r2))).drop (ys.length + 1)).head?.map It.op = some 5 := by simp [he]
        rw [h3, if_pos rfl]
        have h4 : ((y :: (ys ++ e :: (zs ++ e2 :: r2))).take (ys.length + zs.length + 3)).drop (ys.length + 1 + 1) = zs ++ [e2] := by
          have : y :: (ys ++ e :: (zs ++ e2 :: r2)) = (y :: (ys ++ [e])) ++ (zs ++ [e2]) ++ r2 := by simp
          rw [this, List.take_append_of_le_length (by simp; omega), List.take_of_length_le (by simp; omega), List.drop_append_of_le_length (by simp), List.drop_of_length_le (by simp)]
          rfl
        rw [h4]
        refine ⟨by simp; omega, by simp; omega, ?_⟩
        simp only
        rw [hd]
        simp only [List.cons_append, List.append_assoc, List.nil_append]
        rw [run_cons (run_blk (x := headI y) (.inl rfl)), run_append, bal_run hz]
        simp only [Option.bind_some]
        rw [run_cons (run_end he2)]
        exact hr2
    · exact absurd h2 (by decide)
theorem dead_ok {x y : It} {t : List It} {k : Nat} {st : List Nat} (hx : flatOp x.op) (h5 : y.op ≠ 5) (h11 : y.op ≠ 11) (h : run (x :: y :: t) (k :: st) = some []) : RuleOk (x :: y :: t) k st (1 + spanM (y :: t), [x]) := by
  rw [run_flat hx] at h
  by_cases hb : y.op = 2 ∨ y.op = 3 ∨ y.op = 4
  · have key : ∀ (kk : Nat), run1 (k :: st) y.op = some (kk :: k :: st) → RuleOk (x :: y :: t) k st (1 + spanM (y :: t), [x]) := by
      intro kk hk
      rw [run_cons hk] at h
      obtain ⟨ys, e, r, rfl, hy, ho⟩ := parse _ t kk (k :: st) (Nat.le_refl _) h
      rcases ho with ⟨he, hr⟩ | ⟨he, -, hr⟩
      · have hs : spanM (y :: (ys ++ e :: r)) = ys.length + 2 := by
          unfold spanM
          rw [span_open hb (by decide), bal_span hy _ _ _ (by decide), span_end he, if_pos (by decide)]
          omega
        rw [hs]
        refine ⟨by simp; omega, by show 1 < 1 + (ys.length + 2); omega, ?_⟩
        have hd : (x :: y :: (ys ++ e :: r)).drop (1 + (ys.length + 2)) = r := by
          rw [show 1 + (ys.length + 2) = ys.length + 1 + 2 by omega]
          simp [List.drop_append]
        simp only
        rw [hd, List.singleton_append, run_flat hx]
        exact hr
      · obtain ⟨zs, e2, r2, rfl, hz, ho2⟩ := parse _ r 2 (k :: st) (Nat.le_refl _) hr
        rcases ho2 with ⟨he2, hr2⟩ | ⟨_, h2, _⟩
        · have hs : spanM (y :: (ys ++ e :: (zs ++ e2 :: r2))) = ys.length + zs.length + 3 := by
            unfold spanM
            rw [span_open hb (by decide), bal_span hy _ _ _ (by decide), span_flat (.inr he) (by decide), bal_span hz _ _ _ (by decide), span_end he2, if_pos (by decide)]
            omega
          rw [hs]
          refine ⟨by simp; omega, by show 1 < 1 + (ys.length + zs.length + 3); omega, ?_⟩
          have hd : (x :: y :: (ys ++ e :: (zs ++ e2 :: r2))).drop (1 + (ys.length + zs.length + 3)) = r2 := by
            have : x :: y :: (ys ++ e :: (zs ++ e2 :: r2)) = (x :: y :: (ys ++ e :: (zs ++ [e2]))) ++ r2 := by simp
            rw [this, List.drop_append_of_le_length (by simp; omega), List.drop_of_length_le (by simp; omega)]
            rfl
          simp only
          rw [hd, List.singleton_append, run_flat hx]
          exact hr2
        · exact absurd h2 (by decide)
    rcases hb with hb | hb | hb
    · exact key 2 (run_blk (.inl hb))
    · exact key 2 (run_blk (.inr hb))
    · exact key 4 (run_if hb)
  · have hf : flatOp y.op := flatI (by omega)
    have hs : spanM (y :: t) = 1 := by
      unfold spanM
      have e : (if y.op = 2 ∨ y.op = 3 ∨ y.op = 4 then (0 : Int) + 1 else if y.op = 11 then (0 : Int) - 1 else 0) = 0 := by rw [if_neg hb, if_neg h11]
      rw [spanA, e, if_pos rfl]
    rw [hs]
    rw [run_flat hf] at h
    refine ⟨by simp, by simp, ?_⟩
    simp only [List.drop_succ_cons, List.drop_zero, List.singleton_append]
    rw [run_flat hx]
    exact h
theorem flat_12 (A B : Int) (l : List Int) : flatOp (It.mk 12 A B l).op := flatI (by show ¬ ((12 : Nat) = 2 ∨ (12 : Nat) = 3 ∨ (12 : Nat) = 4 ∨ (12 : Nat) = 5 ∨ (12 : Nat) = 11); decide)
theorem flat_34 (A B : Int) (l : List Int) : flatOp (It.mk 34 A B l).op := flatI (by show ¬ ((34 : Nat) = 2 ∨ (34 : Nat) = 3 ∨ (34 : Nat) = 4 ∨ (34 : Nat) = 5 ∨ (34 : Nat) = 11); decide)
theorem flat_33 (A B : Int) (l : List Int) : flatOp (It.mk 33 A B l).op := flatI (by show ¬ ((33 : Nat) = 2 ∨ (33 : Nat) = 3 ∨ (33 : Nat) = 4 ∨ (33 : Nat) = 5 ∨ (33 : Nat) = 11); decide)
theorem flat_26 (A B : Int) (l : List Int) : flatOp (It.mk 26 A B l).op := flatI (by show ¬ ((26 : Nat) = 2 ∨ (26 : Nat) = 3 ∨ (26 : Nat) = 4 ∨ (26 : Nat) = 5 ∨ (26 : Nat) = 11); decide)
theorem two_ok {x y : It} {t : List It} {k : Nat} {st : List Nat} (hx : flatOp x.op) (hy : flatOp y.op) (h : run (x :: y :: t) (k :: st) = some []) (c : List It) (hc : c.length ≤ 1) (hf : ∀ z ∈ c, flatOp z.op) : RuleOk (x :: y :: t) k st (2, c) := by
  rw [run_flat hx, run_flat hy] at h
  refine ⟨by simp, by simp only; omega, ?_⟩
  simp only [List.drop_succ_cons, List.drop_zero]
  match c, hc, hf with
  | [], _, _ => exact h
  | [z], _, hf => rw [List.singleton_append, run_flat (hf z (by simp))]; exact h
theorem ruleC_ok {x y : It} {t : List It} {k : Nat} {st : List Nat} {q : Nat × List It} (h : run (x :: y :: t) (k :: st) = some []) (hq : ruleC x y t = some q) : RuleOk (x :: y :: t) k st q := by
  unfold ruleC at hq
  split at hq
  · next g => cases hq; exact two_ok (flatI (by omega)) (flatI (by omega)) h [] (by simp) (by simp)
  split at hq
  · next g =>
    split at hq
    · cases hq; exact two_ok (flatI (by omega)) (flatI (by omega)) h [] (by simp) (by simp)
    · cases hq; exact two_ok (flatI (by omega)) (flatI (by omega)) h _ (by simp) (by intro z hz; simp at hz; subst hz; exact flat_12 _ _ _)
  split at hq
  · next g => cases hq; exact dead_ok (flatI (by omega)) g.2.1 g.2.2 h
  split at hq
  · next g => cases hq; exact two_ok (flatI (by omega)) (flatI (by omega)) h _ (by simp) (by intro z hz; simp at hz; subst hz; exact flat_34 _ _ _)
  split at hq
  · next g => cases hq; exact cho_ok g.1 g.2 h
  split at hq
  · next g =>
    cases hq
    rw [run_cons (run_blk g.1), run_cons (run_end g.2.2)] at h
    exact ⟨by simp, by simp, by simpa using h⟩
  split at hq
  · next g => cases hq; exact two_ok (flatI (by omega)) (flatI (by omega)) h _ (by simp) (by intro z hz; simp at hz; subst hz; exact flat_33 _ _ _)
  split at hq
  · next g => cases hq; exact two_ok (flatI (by omega)) (flatI (by omega)) h _ (by simp) (by intro z hz; simp at hz; subst hz; exact flat_26 _ _ _)
  · exact absurd hq (by simp)
theorem rule_ok {o : It → It → Option It} {p : It → It → It → Option It} (hn : NumR o p) {l : List It} {k : Nat} {st : List Nat} {q : Nat × List It} (h : run l (k :: st) = some []) (hq : ruleM o p l = some q) : RuleOk l k st q := by
  cases l with
  | nil => exact absurd hq (by simp [ruleM])
  | cons x t =>
    rw [ruleM] at hq
    by_cases g : x.op = 1
    · rw [if_pos g] at hq
      cases hq
      rw [run_flat (flatI (by omega))] at h
      exact ⟨by simp, by simp, by simpa using h⟩
    rw [if_neg g] at hq
    cases t with
    | nil => exact absurd hq (by simp [ruleB])
    | cons y t =>
      rw [ruleB] at hq
      cases hc : o x y with
      | some c =>
        rw [hc] at hq
        cases hq
        obtain ⟨h1, h2, h3⟩ := hn.o x y c hc
        exact two_ok h1 h2 h [c] (by simp) (by intro z hz; simp at hz; subst hz; exact h3)
      | none =>
        rw [hc] at hq
        simp only at hq
        cases t with
        | nil => exact ruleC_ok h hq
        | cons z t =>
          rw [ruleA] at hq
          cases hp : p x y z with
          | some c =>
            rw [hp] at hq
            cases hq
            obtain ⟨h1, h2, h3, h4⟩ := hn.p x y z c hp
            rw [run_flat h1, run_flat h2, run_flat h3] at h
            refine ⟨by simp, by simp, ?_⟩
            simp only [List.drop_succ_cons, List.drop_zero, List.singleton_append]
            rw [run_flat h4]
            exact h
          | none =>
            rw [hp] at hq
            exact ruleC_ok h hq
theorem fits_more {x : It} {l : List It} {k : Nat} {st : List Nat} (h : run (x :: l) (k :: st) = some []) (hx : x.op ≠ 11) : l ≠ [] := by
  intro e
  subst e
  rw [run] at h
  cases h1 : run1 (k :: st) x.op with
  | none => rw [h1] at h; simp at h
  | some s =>
    rw [h1] at h
    simp only [Option.bind_some, run, Option.some.injEq] at h
    subst h
    unfold run1 at h1
    simp only at h1
    split at h1
    · simp at h1
    split at h1
    · simp at h1
    split at h1
    · split at h1 <;> simp at h1
    first | rw [if_neg hx] at h1 | skip
    simp at h1
end Go.Proofs.YtakfineljffoaaaGreatDoor
