/-
  BODIES, the plain law: the reference's recursive way over a body and the program's stack give the same faults and the same marks. No condition.
-/
import Derived.Test.YtakfineljffoaaaGreatDoorGFoldSays1
namespace Go.Proofs.YtakfineljffoaaaGreatDoor

section
variable {α : Type} (c : α → Int) (o : α → Nat)

abbrev Stk := List (Int × Nat)
abbrev AB := List Int × List Int
def wnext (st : Stk × Bool) (op : Nat) (k : Int) : (Int × Int) × (Stk × Bool) :=
  if st.2 = true then ((-2, 4), st)
  else if op = 2 ∨ op = 3 ∨ op = 4 then (if 13 ≤ st.1.length then ((-2, 7), st) else ((-2, 0), ((k, op) :: st.1, false)))
  else if op = 5 then (match st.1 with
    | (p, v) :: r => if v ≠ 4 then ((-2, 4), st) else ((p, 0), ((p, 5) :: r, false))
    | [] => ((-2, 4), st))
  else if op = 11 then (match st.1 with
    | (p, _) :: r => ((p, 0), (r, decide (r.length = 0)))
    | [] => ((-2, 0), st))
  else ((-2, 0), st)
def chkR : List α → Nat → Stk × Bool → Int
  | [], _, st => if st.2 = true then 0 else 3
  | x :: l, k, st => if c x ≠ 0 then c x else if (wnext st (o x) k).1.2 ≠ 0 then (wnext st (o x) k).1.2 else chkR l (k + 1) (wnext st (o x) k).2
def matS (op : Nat) (is : Int) (k : Nat) (m : AB) : AB :=
  if op = 5 then (m.1.set k (-1), ((m.2.set k (-1)).set k is).set is.toNat k)
  else if op = 11 then
    (if 0 ≤ is then
      (if 0 ≤ (m.2.set k (-1)).getD is.toNat 0 then ((((m.1.set k (-1)).set k is).set is.toNat k).set ((m.2.set k (-1)).getD is.toNat 0).toNat k, m.2.set k (-1))
      else (((m.1.set k (-1)).set k is).set is.toNat k, m.2.set k (-1)))
    else ((m.1.set k (-1)).set k is, m.2.set k (-1)))
  else (m.1.set k (-1), m.2.set k (-1))
def matR : List α → Nat → Stk × Bool → AB → AB
  | [], _, _, m => m
  | x :: l, k, st, m => matR l (k + 1) (wnext st (o x) k).2 (matS (o x) (wnext st (o x) k).1.1 k m)
def opAt (l : List α) (j : Nat) : Nat := match l[j]? with
  | some x => o x
  | none => 0
def setE (i j : Nat) (m : AB) : AB := ((m.1.set i j).set j i, m.2)
def setH (i j h : Nat) (m : AB) : AB := (m.1.set h j, (m.2.set i h).set h i)
def seqM (l : List α) : Nat → Nat → Nat → AB → Nat × Int × AB
  | 0, _, _, m => (0, 3, m)
  | f + 1, deep, i, m => match l[i]? with
    | none => (0, 3, m)
    | some x =>
      if c x ≠ 0 then (0, c x, m)
      else if o x = 5 ∨ o x = 11 then (i, 0, m)
      else if o x < 2 ∨ 4 < o x then seqM l f deep (i + 1) m
      else if deep = 12 then (0, 7, m)
      else if (seqM l f (deep + 1) (i + 1) m).2.1 = 0 ∧ opAt o l (seqM l f (deep + 1) (i + 1) m).1 = 5 ∧ o x = 4 then
        (if (seqM l f (deep + 1) ((seqM l f (deep + 1) (i + 1) m).1 + 1) (seqM l f (deep + 1) (i + 1) m).2.2).2.1 ≠ 0 then (0, (seqM l f (deep + 1) ((seqM l f (deep + 1) (i + 1) m).1 + 1) (seqM l f (deep + 1) (i + 1) m).2.2).2.1, (seqM l f (deep + 1) ((seqM l f (deep + 1) (i + 1) m).1 + 1) (seqM l f (deep + 1) (i + 1) m).2.2).2.2)
        else if opAt o l (seqM l f (deep + 1) ((seqM l f (deep + 1) (i + 1) m).1 + 1) (seqM l f (deep + 1) (i + 1) m).2.2).1 = 5 then (0, 4, (seqM l f (deep + 1) ((seqM l f (deep + 1) (i + 1) m).1 + 1) (seqM l f (deep + 1) (i + 1) m).2.2).2.2)
        else seqM l f deep ((seqM l f (deep + 1) ((seqM l f (deep + 1) (i + 1) m).1 + 1) (seqM l f (deep + 1) (i + 1) m).2.2).1 + 1) (setH i (seqM l f (deep + 1) ((seqM l f (deep + 1) (i + 1) m).1 + 1) (seqM l f (deep + 1) (i + 1) m).2.2).1 (seqM l f (deep + 1) (i + 1) m).1 (setE i (seqM l f (deep + 1) ((seqM l f (deep + 1) (i + 1) m).1 + 1) (seqM l f (deep + 1) (i + 1) m).2.2).1 (seqM l f (deep + 1) ((seqM l f (deep + 1) (i + 1) m).1 + 1) (seqM l f (deep + 1) (i + 1) m).2.2).2.2)))
      else if (seqM l f (deep + 1) (i + 1) m).2.1 ≠ 0 then (0, (seqM l f (deep + 1) (i + 1) m).2.1, (seqM l f (deep + 1) (i + 1) m).2.2)
      else if opAt o l (seqM l f (deep + 1) (i + 1) m).1 = 5 then (0, 4, (seqM l f (deep + 1) (i + 1) m).2.2)
      else seqM l f deep ((seqM l f (deep + 1) (i + 1) m).1 + 1) (setE i (seqM l f (deep + 1) (i + 1) m).1 (seqM l f (deep + 1) (i + 1) m).2.2)

variable {c o}
theorem gset_eq {l : List Int} {i : Nat} (h : i < l.length) (a : Int) : (l.set i a)[i]? = some a := by simp [h]
theorem gset_ne {l : List Int} {i j : Nat} (h : i ≠ j) (a : Int) : (l.set i a)[j]? = l[j]? := by simp [h]
theorem chk_step {l : List α} {i : Nat} {x : α} {st : Stk × Bool} (hx : l[i]? = some x) (h0 : c x = 0) (h1 : (wnext st (o x) i).1.2 = 0) : chkR c o (l.drop i) i st = chkR c o (l.drop (i + 1)) (i + 1) (wnext st (o x) i).2 := by
  obtain ⟨hi, rfl⟩ := List.getElem?_eq_some_iff.1 hx
  rw [List.drop_eq_getElem_cons hi]
  rw [chkR, if_neg (by simp [h0]), if_neg (by simp [h1])]
theorem chk_wrong {l : List α} {i : Nat} {x : α} {st : Stk × Bool} (hx : l[i]? = some x) (h0 : c x = 0) (h1 : (wnext st (o x) i).1.2 ≠ 0) : chkR c o (l.drop i) i st = (wnext st (o x) i).1.2 := by
  obtain ⟨hi, rfl⟩ := List.getElem?_eq_some_iff.1 hx
  rw [List.drop_eq_getElem_cons hi]
  rw [chkR, if_neg (by simp [h0]), if_pos h1]
theorem chk_bad {l : List α} {i : Nat} {x : α} {st : Stk × Bool} (hx : l[i]? = some x) (h0 : c x ≠ 0) : chkR c o (l.drop i) i st = c x := by
  obtain ⟨hi, rfl⟩ := List.getElem?_eq_some_iff.1 hx
  rw [List.drop_eq_getElem_cons hi]
  rw [chkR, if_pos h0]
theorem mat_step {l : List α} {i : Nat} {x : α} {st : Stk × Bool} (hx : l[i]? = some x) (m : AB) : matR o (l.drop i) i st m = matR o (l.drop (i + 1)) (i + 1) (wnext st (o x) i).2 (matS (o x) (wnext st (o x) i).1.1 i m) := by
  obtain ⟨hi, rfl⟩ := List.getElem?_eq_some_iff.1 hx
  rw [List.drop_eq_getElem_cons hi]
  rw [matR]
def EqAt (p : Nat) (a b : AB) : Prop := a.1[p]? = b.1[p]? ∧ a.2[p]? = b.2[p]?
def Lens (n : Nat) (m : AB) : Prop := m.1.length = n ∧ m.2.length = n
def Clear (n i : Nat) (m : AB) : Prop := ∀ p, i ≤ p → p < n → m.1[p]? = some (-1) ∧ m.2[p]? = some (-1)
theorem EqAt.trans {p : Nat} {a b d : AB} (h : EqAt p a b) (k : EqAt p b d) : EqAt p a d := ⟨h.1.trans k.1, h.2.trans k.2⟩
theorem EqAt.symm {p : Nat} {a b : AB} (h : EqAt p a b) : EqAt p b a := ⟨h.1.symm, h.2.symm⟩
variable (c o)
structure Good (l : List α) (i j : Nat) (T : Stk) (m m' : AB) : Prop where
  le : i ≤ j
  lt : j < l.length
  at_ : ∃ x, l[j]? = some x ∧ c x = 0 ∧ (o x = 5 ∨ o x = 11)
  chk : chkR c o (l.drop i) i (T, false) = chkR c o (l.drop j) j (T, false)
  lens : Lens l.length m → Lens l.length m'
  same : ∀ p, (p < i ∨ j ≤ p) → EqAt p m' m
  mat : Lens l.length m → Clear l.length i m → ∀ A, Lens l.length A → ∃ A', matR o (l.drop i) i (T, false) A = matR o (l.drop j) j (T, false) A' ∧ Lens l.length A' ∧ (∀ p, p < i → EqAt p A' A) ∧ (∀ p, i ≤ p → p < j → EqAt p A' m')
variable {c o}
theorem Clear.up {n i j : Nat} {m : AB} (h : Clear n i m) (hij : i ≤ j) : Clear n j m := fun p hp hn => h p (Nat.le_trans hij hp) hn
theorem Clear.of {n i j : Nat} {m m' : AB} (h : Clear n i m) (hij : i ≤ j) (hs : ∀ p, j ≤ p → EqAt p m' m) : Clear n j m' := fun p hp hn => ⟨(hs p hp).1.trans (h p (Nat.le_trans hij hp) hn).1, (hs p hp).2.trans (h p (Nat.le_trans hij hp) hn).2⟩
theorem Lens.matS {n : Nat} {m : AB} (h : Lens n m) (op : Nat) (is : Int) (k : Nat) : Lens n (matS op is k m) := by
  unfold Lens at h ⊢
  unfold Go.Proofs.YtakfineljffoaaaGreatDoor.matS
  split
  · simp [h]
  split
  · split
    · split <;> simp [h]
    · simp [h]
  · simp [h]
theorem Lens.setE {n : Nat} {m : AB} (h : Lens n m) (i j : Nat) : Lens n (setE i j m) := by unfold Lens at h ⊢; unfold Go.Proofs.YtakfineljffoaaaGreatDoor.setE; simp [h]
theorem Lens.setH {n : Nat} {m : AB} (h : Lens n m) (i j k : Nat) : Lens n (setH i j k m) := by unfold Lens at h ⊢; unfold Go.Proofs.YtakfineljffoaaaGreatDoor.setH; simp [h]
theorem mat_other {op : Nat} {is : Int} {k p : Nat} {m : AB} (h5 : op ≠ 5) (h11 : op ≠ 11) (hp : p ≠ k) : EqAt p (matS op is k m) m := by
  unfold matS EqAt
  rw [if_neg h5, if_neg h11]
  exact ⟨gset_ne (Ne.symm hp) _, gset_ne (Ne.symm hp) _⟩
theorem mat_here {op : Nat} {is : Int} {k n : Nat} {m : AB} (h5 : op ≠ 5) (h11 : op ≠ 11) (hl : Lens n m) (hk : k < n) : (matS op is k m).1[k]? = some (-1) ∧ (matS op is k m).2[k]? = some (-1) := by
  unfold matS
  rw [if_neg h5, if_neg h11]
  exact ⟨gset_eq (by rw [hl.1]; exact hk) _, gset_eq (by rw [hl.2]; exact hk) _⟩
theorem wn_plain {T : Stk} {op : Nat} {k : Int} (h2 : ¬ (op = 2 ∨ op = 3 ∨ op = 4)) (h5 : op ≠ 5) (h11 : op ≠ 11) : wnext (T, false) op k = ((-2, 0), (T, false)) := by
  unfold wnext
  rw [if_neg (by simp), if_neg h2, if_neg h5, if_neg h11]
theorem wn_push {T : Stk} {op : Nat} {k : Int} (h2 : op = 2 ∨ op = 3 ∨ op = 4) (hT : ¬ 13 ≤ T.length) : wnext (T, false) op k = ((-2, 0), ((k, op) :: T, false)) := by
  unfold wnext
  rw [if_neg (by simp), if_pos h2, if_neg hT]
theorem wn_deep {T : Stk} {op : Nat} {k : Int} (h2 : op = 2 ∨ op = 3 ∨ op = 4) (hT : 13 ≤ T.length) : wnext (T, false) op k = ((-2, 7), (T, false)) := by
  unfold wnext
  rw [if_neg (by simp), if_pos h2, if_pos hT]
theorem wn_else {T : Stk} {p : Int} {v : Nat} {k : Int} (hv : v = 4) : wnext ((p, v) :: T, false) 5 k = ((p, 0), ((p, 5) :: T, false)) := by
  unfold wnext
  rw [if_neg (by simp), if_neg (by decide), if_pos rfl]
  simp [hv]
theorem wn_noelse {T : Stk} {p : Int} {v : Nat} {k : Int} (hv : v ≠ 4) : wnext ((p, v) :: T, false) 5 k = ((-2, 4), ((p, v) :: T, false)) := by
  unfold wnext
  rw [if_neg (by simp), if_neg (by decide), if_pos rfl]
  simp [hv]
theorem wn_end {T : Stk} {p : Int} {v : Nat} {k : Int} : wnext ((p, v) :: T, false) 11 k = ((p, 0), (T, decide (T.length = 0))) := by
  unfold wnext
  rw [if_neg (by simp), if_neg (by decide), if_neg (by decide), if_pos rfl]
theorem good_skip {l : List α} {i j : Nat} {T : Stk} {m m' : AB} {x : α} (hx : l[i]? = some x) (h0 : c x = 0) (h2 : ¬ (o x = 2 ∨ o x = 3 ∨ o x = 4)) (h5 : o x ≠ 5) (h11 : o x ≠ 11) (g : Good c o l (i + 1) j T m m') : Good c o l i j T m m' := by
  have hw := wn_plain (T := T) (k := i) h2 h5 h11
  have hi : i < l.length := (List.getElem?_eq_some_iff.1 hx).1
  refine ⟨by have := g.le; omega, g.lt, g.at_, ?_, g.lens, fun p hp => g.same p (by omega), ?_⟩
  · rw [chk_step hx h0 (by rw [hw]), hw]; exact g.chk
  · intro hl hc A hA
    obtain ⟨A', e1, e2, e3, e4⟩ := g.mat hl (hc.up (Nat.le_succ i)) (matS (o x) (-2) i A) (hA.matS _ _ _)
    refine ⟨A', ?_, e2, ?_, ?_⟩
    · rw [mat_step hx, hw]; exact e1
    · intro p hp
      exact (e3 p (by omega)).trans (mat_other h5 h11 (by omega))
    · intro p hp hj
      by_cases hpi : p = i
      · subst hpi
        have a1 := e3 p (by omega)
        have a2 := mat_here (is := -2) h5 h11 hA hi
        have a3 := hc p (Nat.le_refl _) hi
        have a4 := g.same p (Or.inl (by omega))
        exact ⟨a1.1.trans (a2.1.trans (a3.1.symm.trans a4.1.symm)), a1.2.trans (a2.2.trans (a3.2.symm.trans a4.2.symm))⟩
      · exact e4 p (by omega) hj
theorem eq_setE {i j p : Nat} (m : AB) (h1 : p ≠ i) (h2 : p ≠ j) : EqAt p (setE i j m) m := ⟨(gset_ne (Ne.symm h2) _).trans (gset_ne (Ne.symm h1) _), rfl⟩
theorem eq_setH {i j h p : Nat} (m : AB) (h1 : p ≠ i) (h2 : p ≠ h) : EqAt p (setH i j h m) m := ⟨gset_ne (Ne.symm h2) _, (gset_ne (Ne.symm h2) _).trans (gset_ne (Ne.symm h1) _)⟩
theorem getD_of {l : List Int} {i : Nat} {a : Int} (h : l[i]? = some a) (d : Int) : l.getD i d = a := by rw [List.getD_eq_getElem?_getD, h]; rfl
theorem good_blk {l : List α} {i j j1 : Nat} {T : Stk} {m m1 m' : AB} {x : α} (hx : l[i]? = some x) (h0 : c x = 0) (h2 : o x = 2 ∨ o x = 3 ∨ o x = 4) (hT : ¬ 13 ≤ T.length) (hT0 : T.length ≠ 0)
    (g : Good c o l (i + 1) j1 ((i, o x) :: T) m m1) (hj : opAt o l j1 = 11) (k : Good c o l (j1 + 1) j T (setE i j1 m1) m') : Good c o l i j T m m' := by
  have hw := wn_push (T := T) (k := i) h2 hT
  have hi : i < l.length := (List.getElem?_eq_some_iff.1 hx).1
  have h5 : o x ≠ 5 := by omega
  have h11 : o x ≠ 11 := by omega
  obtain ⟨y, hy, hy0, _⟩ := g.at_
  have hy11 : o y = 11 := by unfold opAt at hj; rw [hy] at hj; exact hj
  have hw1 := wn_end (T := T) (p := i) (v := o x) (k := j1)
  rw [decide_eq_false hT0] at hw1
  have hle := g.le
  have hlt := g.lt
  have hle2 := k.le
  refine ⟨by omega, k.lt, k.at_, ?_, fun h => k.lens ((g.lens h).setE _ _), ?_, ?_⟩
  · rw [chk_step hx h0 (by rw [hw]), hw, g.chk, chk_step hy hy0 (by rw [hy11, hw1]), hy11, hw1]
    exact k.chk
  · intro p hp
    have a1 := k.same p (by omega)
    have a2 := g.same p (by omega)
    exact a1.trans ((eq_setE m1 (by omega) (by omega)).trans a2)
  · intro hl hc A hA
    have hl1 := g.lens hl
    obtain ⟨A', e1, e2, e3, e4⟩ := g.mat hl (hc.up (Nat.le_succ i)) (matS (o x) (-2) i A) (hA.matS _ _ _)
    have hA2 := e2.matS 11 i j1
    have b1 := mat_here (is := -2) h5 h11 hA hi
    have b2 := e3 i (by omega)
    have hk0 : (A'.2.set j1 (-1)).getD i 0 = -1 := getD_of ((gset_ne (by omega) _).trans (b2.2.trans b1.2)) 0
    have hm3 : matS 11 (i : Int) j1 A' = (((A'.1.set j1 (-1)).set j1 i).set i j1, A'.2.set j1 (-1)) := by
      unfold matS
      rw [if_neg (by decide), if_pos rfl, if_pos (by omega), Int.toNat_natCast, hk0, if_neg (by decide)]
    have hcl : Clear l.length (j1 + 1) (setE i j1 m1) := (hc.of (m' := m1) (j := j1 + 1) (by omega) (fun p hp => g.same p (by omega))).of (Nat.le_refl _) (fun p hp => eq_setE m1 (by omega) (by omega))
    obtain ⟨B, f1, f2, f3, f4⟩ := k.mat (hl1.setE _ _) hcl (matS 11 i j1 A') hA2
    refine ⟨B, ?_, f2, ?_, ?_⟩
    · rw [mat_step hx, hw]
      refine e1.trans ?_
      rw [mat_step hy, hy11, hw1]
      exact f1
    · intro p hp
      refine (f3 p (by omega)).trans (EqAt.trans ?_ ((e3 p (by omega)).trans (mat_other h5 h11 (by omega))))
      rw [hm3]
      exact ⟨(gset_ne (by omega) _).trans ((gset_ne (by omega) _).trans (gset_ne (by omega) _)), gset_ne (by omega) _⟩
    · intro p hp hpj
      by_cases hp1 : j1 + 1 ≤ p
      · exact f4 p hp1 hpj
      · have c1 := f3 p (by omega)
        have c2 := k.same p (by omega)
        refine c1.trans (EqAt.trans ?_ c2.symm)
        rw [hm3]
        by_cases hpi : p = i
        · subst hpi
          have a3 := hc p (Nat.le_refl _) hi
          have a4 := g.same p (Or.inl (by omega))
          exact ⟨(gset_eq (by simp [e2.1]; omega) _).trans ((gset_ne (by omega) _).trans (gset_eq (by rw [hl1.1]; omega) _)).symm, (gset_ne (by omega) _).trans (b2.2.trans (b1.2.trans (a4.2.trans a3.2).symm))⟩
        · by_cases hpj1 : p = j1
          · subst hpj1
            have a3 := hc p (by omega) (by omega)
            have a4 := g.same p (Or.inr (Nat.le_refl _))
            exact ⟨((gset_ne (by omega) _).trans (gset_eq (by simp [e2.1]; omega) _)).trans (gset_eq (by simp [hl1.1]; omega) _).symm, (gset_eq (by rw [e2.2]; omega) _).trans (a4.2.trans a3.2).symm⟩
          · have a5 := e4 p (by omega) (by omega)
            exact ⟨((gset_ne (by omega) _).trans ((gset_ne (by omega) _).trans (gset_ne (by omega) _))).trans (a5.1.trans (eq_setE m1 hpi hpj1).1.symm), (gset_ne (by omega) _).trans a5.2⟩
theorem good_else {l : List α} {i h q j : Nat} {T : Stk} {m m1 mq m' : AB} {x : α} (hx : l[i]? = some x) (h0 : c x = 0) (h4 : o x = 4) (hT : ¬ 13 ≤ T.length) (hT0 : T.length ≠ 0)
    (g : Good c o l (i + 1) h ((i, 4) :: T) m m1) (hh : opAt o l h = 5) (r : Good c o l (h + 1) q ((i, 5) :: T) m1 mq) (hq : opAt o l q = 11) (k : Good c o l (q + 1) j T (setH i q h (setE i q mq)) m') : Good c o l i j T m m' := by
  have hw := wn_push (T := T) (k := i) (show o x = 2 ∨ o x = 3 ∨ o x = 4 by omega) hT
  rw [h4] at hw
  have hi : i < l.length := (List.getElem?_eq_some_iff.1 hx).1
  have h5 : o x ≠ 5 := by omega
  have h11 : o x ≠ 11 := by omega
  obtain ⟨y, hy, hy0, _⟩ := g.at_
  have hy5 : o y = 5 := by unfold opAt at hh; rw [hy] at hh; exact hh
  obtain ⟨z, hz, hz0, _⟩ := r.at_
  have hz11 : o z = 11 := by unfold opAt at hq; rw [hz] at hq; exact hq
  have hw1 := wn_else (T := T) (p := i) (v := 4) (k := h) rfl
  have hw2 := wn_end (T := T) (p := i) (v := 5) (k := q)
  rw [decide_eq_false hT0] at hw2
  have hle := g.le
  have hlt := g.lt
  have hle1 := r.le
  have hlt1 := r.lt
  have hle2 := k.le
  refine ⟨by omega, k.lt, k.at_, ?_, fun h9 => k.lens (((r.lens (g.lens h9)).setE _ _).setH _ _ _), ?_, ?_⟩
  · rw [chk_step hx h0 (by rw [h4, hw]), h4, hw, g.chk, chk_step hy hy0 (by rw [hy5, hw1]), hy5, hw1, r.chk, chk_step hz hz0 (by rw [hz11, hw2]), hz11, hw2]
    exact k.chk
  · intro p hp
    have a1 := k.same p (by omega)
    have a2 := r.same p (by omega)
    have a3 := g.same p (by omega)
    exact a1.trans ((eq_setH _ (by omega) (by omega)).trans ((eq_setE mq (by omega) (by omega)).trans (a2.trans a3)))
  · intro hl hc A hA
    have hl1 := g.lens hl
    have hlq := r.lens hl1
    obtain ⟨A', e1, e2, e3, e4⟩ := g.mat hl (hc.up (Nat.le_succ i)) (matS (o x) (-2) i A) (hA.matS _ _ _)
    have hm3 : matS 5 (i : Int) h A' = (A'.1.set h (-1), ((A'.2.set h (-1)).set h i).set i h) := by
      unfold matS
      rw [if_pos rfl, Int.toNat_natCast]
    have b1 := mat_here (is := -2) h5 h11 hA hi
    have b2 := e3 i (by omega)
    have hcl1 : Clear l.length (h + 1) m1 := hc.of (by omega) (fun p hp => g.same p (by omega))
    obtain ⟨B, f1, f2, f3, f4⟩ := r.mat hl1 hcl1 (matS 5 (i : Int) h A') (e2.matS 5 i h)
    -- what stands at i and h behind the second part
    have bi := f3 i (by omega)
    rw [hm3] at bi
    have bi2 : B.2[i]? = some (h : Int) := bi.2.trans (gset_eq (by simp [e2.2]; omega) _)
    have bh := f3 h (by omega)
    rw [hm3] at bh
    have bh2 : B.2[h]? = some (i : Int) := bh.2.trans ((gset_ne (by omega) _).trans (gset_eq (by simp [e2.2]; omega) _))
    have hk0 : (B.2.set q (-1)).getD i 0 = h := getD_of ((gset_ne (by omega) _).trans bi2) 0
    have hm4 : matS 11 (i : Int) q B = ((((B.1.set q (-1)).set q i).set i q).set h q, B.2.set q (-1)) := by
      unfold matS
      rw [if_neg (by decide), if_pos rfl, if_pos (by omega), Int.toNat_natCast, hk0, if_pos (by omega), Int.toNat_natCast]
    have hclq : Clear l.length (q + 1) (setH i q h (setE i q mq)) := hc.of (by omega) (fun p hp => (eq_setH _ (by omega) (by omega)).trans ((eq_setE mq (by omega) (by omega)).trans ((r.same p (by omega)).trans (g.same p (by omega)))))
    obtain ⟨D, d1, d2, d3, d4⟩ := k.mat ((hlq.setE _ _).setH _ _ _) hclq (matS 11 (i : Int) q B) (f2.matS 11 i q)
    refine ⟨D, ?_, d2, ?_, ?_⟩
    · rw [mat_step hx, h4, hw]
      rw [h4] at e1
      refine e1.trans ?_
      rw [mat_step hy, hy5, hw1]
      refine f1.trans ?_
      rw [mat_step hz, hz11, hw2]
      exact d1
    · intro p hp
      have g1 := d3 p (by omega)
      rw [hm4] at g1
      have g2 := f3 p (by omega)
      rw [hm3] at g2
      have g3 := (e3 p (by omega)).trans (mat_other h5 h11 (by omega))
      exact ⟨g1.1.trans ((gset_ne (by omega) _).trans ((gset_ne (by omega) _).trans ((gset_ne (by omega) _).trans ((gset_ne (by omega) _).trans (g2.1.trans ((gset_ne (by omega) _).trans g3.1)))))),
        g1.2.trans ((gset_ne (by omega) _).trans (g2.2.trans ((gset_ne (by omega) _).trans ((gset_ne (by omega) _).trans ((gset_ne (by omega) _).trans g3.2)))))⟩
    · intro p hp hpj
      by_cases hp1 : q + 1 ≤ p
      · exact d4 p hp1 hpj
      · have c1 := d3 p (by omega)
        have c2 := k.same p (by omega)
        refine c1.trans (EqAt.trans ?_ c2.symm)
        rw [hm4]
        by_cases hpi : p = i
        · subst hpi
          exact ⟨((gset_ne (by omega) _).trans (gset_eq (by simp [f2.1]; omega) _)).trans ((gset_ne (by omega) _).trans ((gset_ne (by omega) _).trans (gset_eq (by rw [hlq.1]; omega) _))).symm,
            ((gset_ne (by omega) _).trans bi2).trans ((gset_ne (by omega) _).trans (gset_eq (by show p < mq.2.length; rw [hlq.2]; omega) _)).symm⟩
        · by_cases hph : p = h
          · subst hph
            exact ⟨(gset_eq (by simp [f2.1]; omega) _).trans (gset_eq (by simp [setE, hlq.1]; omega) _).symm, ((gset_ne (by omega) _).trans bh2).trans (gset_eq (by simp [setE, hlq.2]; omega) _).symm⟩
          · by_cases hpq : p = q
            · subst hpq
              have a3 := hc p (by omega) (by omega)
              have a4 := (r.same p (Or.inr (Nat.le_refl _))).trans (g.same p (by omega))
              exact ⟨((gset_ne (by omega) _).trans ((gset_ne (by omega) _).trans (gset_eq (by simp [f2.1]; omega) _))).trans ((gset_ne (by omega) _).trans (gset_eq (by simp [hlq.1]; omega) _)).symm,
                (gset_eq (by rw [f2.2]; omega) _).trans (((gset_ne (by omega) _).trans ((gset_ne (by omega) _).trans (a4.2.trans a3.2))).symm)⟩
            · have a6 : EqAt p B mq := by
                by_cases hp2 : h < p
                · exact f4 p (by omega) (by omega)
                · have g2 := f3 p (by omega)
                  rw [hm3] at g2
                  have g3 := e4 p (by omega) (by omega)
                  have g4 := r.same p (by omega)
                  exact ⟨g2.1.trans ((gset_ne (by omega) _).trans (g3.1.trans g4.1.symm)), g2.2.trans ((gset_ne (by omega) _).trans ((gset_ne (by omega) _).trans ((gset_ne (by omega) _).trans (g3.2.trans g4.2.symm))))⟩
              exact ⟨((gset_ne (by omega) _).trans ((gset_ne (by omega) _).trans ((gset_ne (by omega) _).trans (gset_ne (by omega) _)))).trans (a6.1.trans ((eq_setH _ (by omega) (by omega)).trans (eq_setE mq (by omega) (by omega))).1.symm),
                ((gset_ne (by omega) _).trans a6.2).trans ((eq_setH (setE i q mq) (by omega) (by omega)).trans (eq_setE mq (by omega) (by omega))).2.symm⟩
theorem seq_run (l : List α) (f : Nat) : ∀ (deep i : Nat) (m : AB) (p : Int) (v : Nat) (T : Stk), l.length ≤ i + f → deep ≤ 12 → T.length = deep →
    ((seqM c o l f deep i m).2.1 ≠ 0 → chkR c o (l.drop i) i ((p, v) :: T, false) = (seqM c o l f deep i m).2.1) ∧
    ((seqM c o l f deep i m).2.1 = 0 → Good c o l i (seqM c o l f deep i m).1 ((p, v) :: T) m (seqM c o l f deep i m).2.2) := by
  induction f with
  | zero =>
    intro deep i m p v T hf hd hT
    refine ⟨fun _ => ?_, fun h => by simp [seqM] at h⟩
    rw [List.drop_eq_nil_of_le (by omega)]
    rfl
  | succ f ih =>
    intro deep i m p v T hf hd hT
    rw [seqM]
    cases hx : l[i]? with
    | none =>
      refine ⟨fun _ => ?_, fun h => by simp at h⟩
      rw [List.drop_eq_nil_of_le (List.getElem?_eq_none_iff.1 hx)]
      rfl
    | some x =>
      have hi : i < l.length := (List.getElem?_eq_some_iff.1 hx).1
      simp only
      by_cases h0 : c x = 0
      · rw [if_neg (fun h => h h0)]
        by_cases hs : o x = 5 ∨ o x = 11
        · rw [if_pos hs]
          refine ⟨fun h => absurd rfl h, fun _ => ⟨Nat.le_refl _, hi, ⟨x, hx, h0, hs⟩, rfl, fun h => h, fun _ _ => ⟨rfl, rfl⟩, fun _ _ A hA => ⟨A, rfl, hA, fun _ _ => ⟨rfl, rfl⟩, fun q h1 h2 => ?_⟩⟩⟩
          simp only at h2
          omega
        · rw [if_neg hs]
          by_cases hb : o x < 2 ∨ 4 < o x
          · rw [if_pos hb]
            have h2 : ¬ (o x = 2 ∨ o x = 3 ∨ o x = 4) := by omega
            have h5 : o x ≠ 5 := by omega
            have h11 : o x ≠ 11 := by omega
            obtain ⟨a1, a2⟩ := ih deep (i + 1) m p v T (by omega) hd hT
            refine ⟨fun h => ?_, fun h => good_skip hx h0 h2 h5 h11 (a2 h)⟩
            have hw := wn_plain (T := (p, v) :: T) (k := i) h2 h5 h11
            rw [chk_step hx h0 (by rw [hw]), hw]
            exact a1 h
          · rw [if_neg hb]
            have h2 : o x = 2 ∨ o x = 3 ∨ o x = 4 := by omega
            by_cases hd12 : deep = 12
            · rw [if_pos hd12]
              refine ⟨fun _ => ?_, fun h => by simp at h⟩
              have hw := wn_deep (T := (p, v) :: T) (k := i) h2 (by simp; omega)
              rw [chk_wrong hx h0 (by rw [hw]; simp), hw]
            · rw [if_neg hd12]
              have hTl : ¬ 13 ≤ ((p, v) :: T).length := by simp; omega
              have hw := wn_push (T := (p, v) :: T) (k := i) h2 hTl
              obtain ⟨a1, a2⟩ := ih (deep + 1) (i + 1) m i (o x) ((p, v) :: T) (by omega) (by omega) (by simp [hT])
              generalize seqM c o l f (deep + 1) (i + 1) m = r at *
              obtain ⟨j1, e1, m1⟩ := r
              simp only at a1 a2 ⊢
              have hstep : chkR c o (l.drop i) i ((p, v) :: T, false) = chkR c o (l.drop (i + 1)) (i + 1) ((i, o x) :: (p, v) :: T, false) := by rw [chk_step hx h0 (by rw [hw]), hw]
              by_cases he : e1 = 0
              · have G := a2 he
                obtain ⟨y, hy, hy0, hy2⟩ := G.at_
                have hop : opAt o l j1 = o y := by unfold opAt; rw [hy]
                by_cases h5 : opAt o l j1 = 5
                · by_cases h4 : o x = 4
                  · rw [if_pos ⟨he, h5, h4⟩]
                    have hG := G
                    rw [h4] at hG
                    have hw1 := wn_else (T := (p, v) :: T) (p := i) (v := o x) (k := j1) h4
                    have hstep2 : chkR c o (l.drop i) i ((p, v) :: T, false) = chkR c o (l.drop (j1 + 1)) (j1 + 1) ((i, 5) :: (p, v) :: T, false) := by
                      rw [hstep, G.chk, chk_step hy hy0 (by rw [← hop, h5, hw1]), ← hop, h5, hw1]
                    obtain ⟨b1, b2⟩ := ih (deep + 1) (j1 + 1) m1 i 5 ((p, v) :: T) (by have := G.le; omega) (by omega) (by simp [hT])
                    generalize seqM c o l f (deep + 1) (j1 + 1) m1 = q at *
                    obtain ⟨j2, e2, m2⟩ := q
                    simp only at b1 b2 ⊢
                    by_cases he2 : e2 = 0
                    · rw [if_neg (fun h => h he2)]
                      have G2 := b2 he2
                      obtain ⟨z, hz, hz0, hz2⟩ := G2.at_
                      have hop2 : opAt o l j2 = o z := by unfold opAt; rw [hz]
                      by_cases h52 : opAt o l j2 = 5
                      · rw [if_pos h52]
                        refine ⟨fun _ => ?_, fun h => by simp at h⟩
                        have hw2 := wn_noelse (T := (p, v) :: T) (p := i) (v := 5) (k := j2) (by decide)
                        rw [hstep2, G2.chk, chk_wrong hz hz0 (by rw [← hop2, h52, hw2]; simp), ← hop2, h52, hw2]
                      · rw [if_neg h52]
                        have h112 : opAt o l j2 = 11 := by rw [hop2]; rw [hop2] at h52; omega
                        have hw2 := wn_end (T := (p, v) :: T) (p := i) (v := 5) (k := j2)
                        rw [decide_eq_false (by simp)] at hw2
                        obtain ⟨d1, d2⟩ := ih deep (j2 + 1) (setH i j2 j1 (setE i j2 m2)) p v T (by have := G.le; have := G2.le; omega) hd hT
                        refine ⟨fun h => ?_, fun h => good_else hx h0 h4 hTl (by simp) hG h5 G2 h112 (d2 h)⟩
                        rw [hstep2, G2.chk, chk_step hz hz0 (by rw [← hop2, h112, hw2]), ← hop2, h112, hw2]
                        exact d1 h
                    · rw [if_pos he2]
                      exact ⟨fun _ => hstep2.trans (b1 he2), fun h => absurd h he2⟩
                  · rw [if_neg (fun h => h4 h.2.2), if_neg (fun h => h he), if_pos h5]
                    refine ⟨fun _ => ?_, fun h => by simp at h⟩
                    have hw1 := wn_noelse (T := (p, v) :: T) (p := i) (v := o x) (k := j1) h4
                    rw [hstep, G.chk, chk_wrong hy hy0 (by rw [← hop, h5, hw1]; simp), ← hop, h5, hw1]
                · rw [if_neg (fun h => h5 h.2.1), if_neg (fun h => h he), if_neg h5]
                  have h11 : opAt o l j1 = 11 := by rw [hop]; rw [hop] at h5; omega
                  have hw1 := wn_end (T := (p, v) :: T) (p := i) (v := o x) (k := j1)
                  rw [decide_eq_false (by simp)] at hw1
                  obtain ⟨d1, d2⟩ := ih deep (j1 + 1) (setE i j1 m1) p v T (by have := G.le; omega) hd hT
                  refine ⟨fun h => ?_, fun h => good_blk hx h0 h2 hTl (by simp) G h11 (d2 h)⟩
                  rw [hstep, G.chk, chk_step hy hy0 (by rw [← hop, h11, hw1]), ← hop, h11, hw1]
                  exact d1 h
              · rw [if_neg (fun h => he h.1), if_pos he]
                exact ⟨fun _ => hstep.trans (a1 he), fun h => absurd h he⟩
      · rw [if_pos h0]
        exact ⟨fun _ => chk_bad hx h0, fun h => absurd h h0⟩
variable (c o) in
def allM (l : List α) : Int × AB :=
  (if (seqM c o l l.length 0 0 (List.replicate l.length (-1), List.replicate l.length (-1))).2.1 ≠ 0 then (seqM c o l l.length 0 0 (List.replicate l.length (-1), List.replicate l.length (-1))).2.1
   else if opAt o l (seqM c o l l.length 0 0 (List.replicate l.length (-1), List.replicate l.length (-1))).1 = 5 then 4
   else match l[(seqM c o l l.length 0 0 (List.replicate l.length (-1), List.replicate l.length (-1))).1 + 1]? with
    | none => 0
    | some y => if c y ≠ 0 then c y else 4, (seqM c o l l.length 0 0 (List.replicate l.length (-1), List.replicate l.length (-1))).2.2)
theorem all_laws (l : List α) : chkR c o l 0 ([(-1, 2)], false) = (allM c o l).1 ∧ ((allM c o l).1 = 0 → ∀ A, Lens l.length A → matR o l 0 ([(-1, 2)], false) A = (allM c o l).2) := by
  obtain ⟨a1, a2⟩ := seq_run (c := c) (o := o) l l.length 0 0 (List.replicate l.length (-1), List.replicate l.length (-1)) (-1) 2 [] (by omega) (by omega) rfl
  unfold allM
  have hL : Lens l.length (List.replicate l.length (-1), List.replicate l.length (-1)) := ⟨by simp, by simp⟩
  have hC : Clear l.length 0 (List.replicate l.length (-1), List.replicate l.length (-1)) := fun p _ hn => by simp [hn]
  generalize ((List.replicate l.length (-1), List.replicate l.length (-1)) : AB) = m at *
  generalize seqM c o l l.length 0 0 m = r at *
  obtain ⟨j, e, m'⟩ := r
  simp only at a1 a2 ⊢
  have hd : l.drop 0 = l := rfl
  rw [hd] at a1
  by_cases he : e = 0
  · rw [if_neg (fun h => h he)]
    have G := a2 he
    obtain ⟨y, hy, hy0, hy2⟩ := G.at_
    have hop : opAt o l j = o y := by unfold opAt; rw [hy]
    have hchk := G.chk
    rw [hd] at hchk
    by_cases h5 : opAt o l j = 5
    · rw [if_pos h5]
      refine ⟨?_, fun h => by simp at h⟩
      have hw := wn_noelse (T := []) (p := -1) (v := 2) (k := j) (by decide)
      rw [hchk, chk_wrong hy hy0 (by rw [← hop, h5, hw]; simp), ← hop, h5, hw]
    · rw [if_neg h5]
      have h11 : opAt o l j = 11 := by rw [hop]; rw [hop] at h5; omega
      have hw := wn_end (T := []) (p := -1) (v := 2) (k := j)
      rw [decide_eq_true (by simp)] at hw
      have hstep : chkR c o l 0 ([(-1, 2)], false) = chkR c o (l.drop (j + 1)) (j + 1) ([], true) := by
        rw [hchk, chk_step hy hy0 (by rw [← hop, h11, hw]), ← hop, h11, hw]
      cases hz : l[j + 1]? with
      | none =>
        have hlen : l.length ≤ j + 1 := List.getElem?_eq_none_iff.1 hz
        have hnil : l.drop (j + 1) = [] := List.drop_eq_nil_of_le hlen
        rw [hnil] at hstep
        refine ⟨hstep.trans rfl, fun _ A hA => ?_⟩
        obtain ⟨A', e1, e2, e3, e4⟩ := G.mat hL hC A hA
        rw [hd] at e1
        have hlt := G.lt
        have hm : matS 11 (-1) j A' = ((A'.1.set j (-1)).set j (-1), A'.2.set j (-1)) := by
          unfold matS
          rw [if_neg (by decide), if_pos rfl, if_neg (by decide)]
        have hfin : matR o l 0 ([(-1, 2)], false) A = matS 11 (-1) j A' := by
          rw [e1, mat_step hy, ← hop, h11, hw, hnil]
          rfl
        have hlm := G.lens hL
        have key : ∀ q, EqAt q ((A'.1.set j (-1)).set j (-1), A'.2.set j (-1)) m' := by
          intro q
          by_cases hq : q < j
          · have := e4 q (by omega) hq
            exact ⟨(gset_ne (by omega) _).trans ((gset_ne (by omega) _).trans this.1), (gset_ne (by omega) _).trans this.2⟩
          · by_cases hqj : q = j
            · subst hqj
              have b1 := G.same q (Or.inr (Nat.le_refl _))
              have b2 := hC q (by omega) hlt
              exact ⟨(gset_eq (by simp [e2.1]; omega) _).trans (b1.1.trans b2.1).symm, (gset_eq (by rw [e2.2]; omega) _).trans (b1.2.trans b2.2).symm⟩
            · have n1 : A'.1.length ≤ q := by rw [e2.1]; omega
              have n2 : A'.2.length ≤ q := by rw [e2.2]; omega
              have n3 : m'.1.length ≤ q := by rw [hlm.1]; omega
              have n4 : m'.2.length ≤ q := by rw [hlm.2]; omega
              exact ⟨(List.getElem?_eq_none (by simpa using n1)).trans (List.getElem?_eq_none n3).symm, (List.getElem?_eq_none (by simpa using n2)).trans (List.getElem?_eq_none n4).symm⟩
        rw [hfin, hm]
        exact Prod.ext (List.ext_getElem? (fun q => (key q).1)) (List.ext_getElem? (fun q => (key q).2))
      | some z =>
        by_cases hz0 : c z = 0
        · refine ⟨?_, fun h => by simp [hz0] at h⟩
          rw [hstep, chk_wrong hz hz0 (by simp [wnext])]
          simp [wnext, hz0]
        · refine ⟨?_, fun h => by simp [hz0] at h⟩
          rw [hstep, chk_bad hz hz0]
          simp [hz0]
  · rw [if_pos he]
    exact ⟨a1 he, fun h => absurd h he⟩
theorem chk_zero (l : List α) (k : Nat) (st : Stk × Bool) (h : chkR c o l k st = 0) : ∀ x ∈ l, c x = 0 := by
  induction l generalizing k st with
  | nil => intro x hx; cases hx
  | cons y l ih =>
    rw [chkR] at h
    by_cases h0 : c y = 0
    · rw [if_neg (fun g => g h0)] at h
      by_cases h1 : (wnext st (o y) k).1.2 = 0
      · rw [if_neg (fun g => g h1)] at h
        intro x hx
        rcases List.mem_cons.1 hx with rfl | hx
        · exact h0
        · exact ih _ _ h x hx
      · rw [if_pos h1] at h; exact absurd h h1
    · rw [if_pos h0] at h; exact absurd h h0
end
end Go.Proofs.YtakfineljffoaaaGreatDoor
