/-
  FOLDED BODIES, plain: one step, all steps; the reference's rules are the same. No condition.
-/
import Derived.Test.YtakfineljffoaaaGreatDoorGFoldSays13
namespace Go.Proofs.YtakfineljffoaaaGreatDoor
open Go.RowKit Go.Lib

section
variable (o : It → It → Option It) (p : It → It → It → Option It)
def placeM (l : List It) : Nat → Nat → Option (Nat × Nat × List It)
  | 0, _ => none
  | n + 1, i => match ruleM o p (l.drop i) with
    | some q => some (i, q)
    | none => placeM l n (i + 1)
def stepM (l : List It) : Option (List It) := match placeM o p l l.length 0 with
  | some (i, g, c) => some (l.take i ++ (c ++ l.drop (i + g)))
  | none => none
def stepsM : Nat → List It → List It
  | 0, l => l
  | n + 1, l => match stepM o p l with
    | some l' => stepsM n l'
    | none => l
def foldM (l : List It) : List It := stepsM o p l.length l
end
theorem place_is {o : It → It → Option It} {p : It → It → It → Option It} {l : List It} (n : Nat) : ∀ (i : Nat) (q : Nat × Nat × List It), placeM o p l n i = some q → i ≤ q.1 ∧ q.1 < i + n ∧ ruleM o p (l.drop q.1) = some q.2 := by
  induction n with
  | zero => intro i q h; simp [placeM] at h
  | succ n ih =>
    intro i q h
    rw [placeM] at h
    cases hr : ruleM o p (l.drop i) with
    | some r =>
      rw [hr] at h
      simp only [Option.some.injEq] at h
      subst h
      exact ⟨Nat.le_refl _, by simp only; omega, hr⟩
    | none =>
      rw [hr] at h
      have := ih (i + 1) q h
      exact ⟨by omega, by omega, this.2.2⟩
theorem run_prefix (a : List It) : ∀ (b : List It) (st : List Nat), b ≠ [] → run (a ++ b) st = some [] → ∃ k s, run a st = some (k :: s) ∧ run b (k :: s) = some [] := by
  intro b st hb h
  rw [run_append] at h
  cases ha : run a st with
  | none => rw [ha] at h; simp at h
  | some s =>
    rw [ha] at h
    simp only [Option.bind_some] at h
    cases s with
    | nil => exact absurd ((run_nil b).1 h) hb
    | cons k s => exact ⟨k, s, rfl, h⟩
theorem step_ok {o : It → It → Option It} {p : It → It → It → Option It} (hn : NumR o p) {l l' : List It} (hf : Fits l) (h : stepM o p l = some l') : Fits l' ∧ l'.length < l.length := by
  unfold stepM at h
  cases hp : placeM o p l l.length 0 with
  | none => rw [hp] at h; simp at h
  | some q =>
    obtain ⟨i, g, c⟩ := q
    rw [hp] at h
    simp only [Option.some.injEq] at h
    subst h
    obtain ⟨-, h2, h3⟩ := place_is _ _ _ hp
    simp only at h2 h3
    have hne : l.drop i ≠ [] := by
      intro e
      have := congrArg List.length e
      simp at this
      omega
    unfold Fits at hf ⊢
    rw [← List.take_append_drop i l] at hf
    obtain ⟨k, s, h4, h5⟩ := run_prefix _ _ _ hne hf
    obtain ⟨h6, h7, h8⟩ := rule_ok hn h5 h3
    simp only at h6 h7 h8
    rw [List.drop_drop] at h8
    refine ⟨?_, ?_⟩
    · rw [run_append, h4]
      simp only [Option.bind_some]
      exact h8
    · simp only [List.length_drop] at h6
      simp only [List.length_append, List.length_take, List.length_drop]
      omega
theorem steps_stop {o : It → It → Option It} {p : It → It → It → Option It} {l : List It} (h : stepM o p l = none) (n : Nat) : stepsM o p n l = l := by
  cases n with
  | zero => rfl
  | succ n => rw [stepsM, h]
theorem steps_more {o : It → It → Option It} {p : It → It → It → Option It} (hn : NumR o p) (n : Nat) : ∀ (m : Nat) (l : List It), Fits l → l.length ≤ n → n ≤ m → stepsM o p m l = stepsM o p n l := by
  induction n with
  | zero =>
    intro m l hf hl _
    obtain rfl : l = [] := List.length_eq_zero_iff.1 (by omega)
    simp [Fits, run] at hf
  | succ n ih =>
    intro m l hf hl hm
    obtain ⟨m, rfl⟩ : ∃ m', m = m' + 1 := ⟨m - 1, by omega⟩
    rw [stepsM, stepsM]
    cases hs : stepM o p l with
    | none => rfl
    | some l' =>
      obtain ⟨h1, h2⟩ := step_ok hn hf hs
      exact ih m l' h1 (by omega) (by omega)
theorem fold_go {o : It → It → Option It} {p : It → It → It → Option It} (hn : NumR o p) {l l' : List It} (hf : Fits l) (h : stepM o p l = some l') : foldM o p l = foldM o p l' := by
  obtain ⟨h1, h2⟩ := step_ok hn hf h
  unfold foldM
  rw [show l.length = (l.length - 1) + 1 by omega, stepsM, h]
  exact steps_more hn l'.length _ l' h1 (Nat.le_refl _) (by omega)
theorem fold_stop {o : It → It → Option It} {p : It → It → It → Option It} {l : List It} (h : stepM o p l = none) : foldM o p l = l := steps_stop h _
end Go.Proofs.YtakfineljffoaaaGreatDoor
namespace Go.Proofs.YtakfineljffoaaaGreatDoor
open Go.RowKit Go.Lib

def isElse (l : List It) : Prop := (l.drop (othM l)).head?.map It.op = some 5
instance (l : List It) : Decidable (isElse l) := by unfold isElse; exact inferInstance
theorem upt_is {y : It} {t : List It} {k : Nat} {st : List Nat} (hy : y.op = 2 ∨ y.op = 3 ∨ y.op = 4) (h : run (y :: t) (k :: st) = some []) :
    uptM (y :: t) = ((spanM (y :: t) : Int) - 1, if isElse (y :: t) then (othM (y :: t) : Int) else -1) ∧ 2 ≤ spanM (y :: t) ∧ spanM (y :: t) ≤ (y :: t).length ∧ 1 ≤ othM (y :: t) ∧ othM (y :: t) < spanM (y :: t) ∧ (¬ isElse (y :: t) → othM (y :: t) + 1 = spanM (y :: t)) ∧ (isElse (y :: t) → othM (y :: t) + 1 < spanM (y :: t)) := by
  have key : ∀ (kk : Nat), run1 (k :: st) y.op = some (kk :: k :: st) → _ := fun kk hk => (show uptM (y :: t) = ((spanM (y :: t) : Int) - 1, if isElse (y :: t) then (othM (y :: t) : Int) else -1) ∧ 2 ≤ spanM (y :: t) ∧ spanM (y :: t) ≤ (y :: t).length ∧ 1 ≤ othM (y :: t) ∧ othM (y :: t) < spanM (y :: t) ∧ (¬ isElse (y :: t) → othM (y :: t) + 1 = spanM (y :: t)) ∧ (isElse (y :: t) → othM (y :: t) + 1 < spanM (y :: t)) from by
    rw [run_cons hk] at h
    obtain ⟨ys, e, r, rfl, hb, ho⟩ := parse _ t kk (k :: st) (Nat.le_refl _) h
    rcases ho with ⟨he, hr⟩ | ⟨he, -, hr⟩
    · have hs : spanM (y :: (ys ++ e :: r)) = ys.length + 2 := by
        unfold spanM
        rw [span_open hy (by decide), bal_span hb _ _ _ (by decide), span_end he, if_pos (by decide)]
        omega
      have ht : othM (y :: (ys ++ e :: r)) = ys.length + 1 := by
        unfold othM
        rw [oth_open hy, bal_oth hb _ _ _ (by decide), oth_end he, if_pos (by decide)]
        omega
      have hu : uptM (y :: (ys ++ e :: r)) = ((ys.length : Int) + 1, -1) := by
        unfold uptM
        rw [upt_open hy, bal_upt hb _ _ _ _ (by decide), upt_end he, if_pos (by decide)]
        congr 1
        omega
      have hn : ¬ isElse (y :: (ys ++ e :: r)) := by
        unfold isElse
        rw [ht]
        simp [he]
      rw [hu, hs, ht, if_neg hn]
      refine ⟨by rw [show ((ys.length : Int) + 1) = ((ys.length + 2 : Nat) : Int) - 1 by omega], by omega, by simp, by omega, by omega, fun _ => by omega, fun g => absurd g hn⟩
    · obtain ⟨zs, e2, r2, rfl, hz, ho2⟩ := parse _ r 2 (k :: st) (Nat.le_refl _) hr
      rcases ho2 with ⟨he2, hr2⟩ | ⟨_, h2, _⟩
      · have hs : spanM (y :: (ys ++ e :: (zs ++ e2 :: r2))) = ys.length + zs.length + 3 := by
          unfold spanM
          rw [span_open hy (by decide), bal_span hb _ _ _ (by decide), span_flat (.inr he) (by decide), bal_span hz _ _ _ (by decide), span_end he2, if_pos (by decide)]
          omega
        have ht : othM (y :: (ys ++ e :: (zs ++ e2 :: r2))) = ys.length + 1 := by
          unfold othM
          rw [oth_open hy, bal_oth hb _ _ _ (by decide), oth_else he, if_pos (by decide)]
          omega
        have hu : uptM (y :: (ys ++ e :: (zs ++ e2 :: r2))) = ((ys.length : Int) + zs.length + 2, (ys.length : Int) + 1) := by
          unfold uptM
          rw [upt_open hy, bal_upt hb _ _ _ _ (by decide), upt_else he, if_pos (by decide), bal_upt hz _ _ _ _ (by decide), upt_end he2, if_pos (by decide)]
          congr 1 <;> omega
        have hn : isElse (y :: (ys ++ e :: (zs ++ e2 :: r2))) := by
          unfold isElse
          rw [ht]
          simp [he]
        rw [hu, hs, ht, if_pos hn]
        refine ⟨by congr 1 <;> omega, by omega, by simp; omega, by omega, by omega, fun g => absurd hn g, fun _ => by omega⟩
      · exact absurd h2 (by decide))
  rcases hy with hy | hy | hy
  · exact key 2 (run_blk (.inl hy))
  · exact key 2 (run_blk (.inr hy))
  · exact key 4 (run_if hy)
def choR (x y : It) (t : List It) : Nat × List It :=
  if x.A ≠ 0 ∧ 0 ≤ (uptM (y :: t)).2 then ((uptM (y :: t)).1.toNat + 2, headI y :: ((((y :: t).take ((uptM (y :: t)).1.toNat + 1)).take (uptM (y :: t)).2.toNat).drop 1 ++ (((y :: t).take ((uptM (y :: t)).1.toNat + 1)).drop (uptM (y :: t)).1.toNat).take 1))
  else if x.A ≠ 0 then ((uptM (y :: t)).1.toNat + 2, headI y :: ((y :: t).take ((uptM (y :: t)).1.toNat + 1)).drop 1)
  else if 0 ≤ (uptM (y :: t)).2 then ((uptM (y :: t)).1.toNat + 2, headI y :: ((y :: t).take ((uptM (y :: t)).1.toNat + 1)).drop ((uptM (y :: t)).2.toNat + 1))
  else ((uptM (y :: t)).1.toNat + 2, [])
theorem cho_same {x y : It} {t : List It} {k : Nat} {st : List Nat} (hy : y.op = 4) (h : run (y :: t) (k :: st) = some []) : choR x y t = choM x y t := by
  obtain ⟨hu, h2, hl, h1, hlt, hn, he⟩ := upt_is (.inr (.inr hy)) h
  unfold choR choM
  rw [hu]
  simp only
  generalize hS : spanM (y :: t) = S at *
  generalize hO : othM (y :: t) = O at *
  generalize hL : y :: t = L at *
  have e1 : ((S : Int) - 1).toNat = S - 1 := by omega
  rw [e1]
  have e2 : S - 1 + 1 = S := by omega
  rw [e2]
  have e3 : S - 1 + 2 = 1 + S := by omega
  rw [e3]
  have hz : (List.drop O L).head?.map It.op = some 5 ↔ isElse L := by unfold isElse; rw [hO]
  by_cases hE : isElse L
  · rw [if_pos hE]
    by_cases hA : x.A ≠ 0
    · rw [if_pos ⟨hA, by omega⟩, if_pos hA, Int.toNat_natCast]
      have := he hE
      rw [List.take_take, show min O S = O by omega, show List.take 1 (List.drop (S - 1) (List.take S L)) = List.take 1 (List.drop (S - 1) L) from by rw [List.drop_take, List.take_take, show min 1 (S - (S - 1)) = 1 by omega]]
    · rw [if_neg (fun g => hA g.1), if_neg hA, if_pos (by omega), if_neg hA, if_pos (hz.2 hE), Int.toNat_natCast]
  · rw [if_neg hE]
    have ho := hn hE
    by_cases hA : x.A ≠ 0
    · rw [if_neg (by omega), if_pos hA, if_pos hA]
      congr 2
      obtain rfl : S = O + 1 := ho.symm
      rw [show O + 1 - 1 = O by omega]
      have hO1 : O < L.length := by omega
      rw [List.take_succ_eq_append_getElem hO1, List.drop_append_of_le_length (by rw [List.length_take]; omega)]
      congr 1
      rw [List.drop_eq_getElem_cons hO1]
      rfl
    · rw [if_neg (fun g => hA g.1), if_neg hA, if_neg (by omega), if_neg hA, if_neg (fun g => hE (hz.1 g))]
theorem dead_same {y : It} {t : List It} {k : Nat} {st : List Nat} (hy : y.op = 2 ∨ y.op = 3 ∨ y.op = 4) (h : run (y :: t) (k :: st) = some []) : (uptM (y :: t)).1 + 1 = (spanM (y :: t) : Int) := by
  rw [(upt_is hy h).1]
  simp only
  omega
end Go.Proofs.YtakfineljffoaaaGreatDoor
