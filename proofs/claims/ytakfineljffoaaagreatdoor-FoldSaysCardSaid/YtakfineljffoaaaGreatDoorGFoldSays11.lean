/-
  TREES OF BODIES, the plain law: a body that passes is a row of parts and an end; how deep and how many, counted along the row. No condition.
-/
import Derived.Test.YtakfineljffoaaaGreatDoorGFoldSays10
namespace Go.Proofs.YtakfineljffoaaaGreatDoor
open Go.RowKit Go.Lib

def endI : It := ⟨11, 0, 0, []⟩
def elseI : It := ⟨5, 0, 0, []⟩
inductive Seg : List It → Nat → Nat → Prop
  | nil : Seg [] 0 0
  | one (x : It) (xs : List It) (d s : Nat) : ¬ (x.op = 2 ∨ x.op = 3 ∨ x.op = 4 ∨ x.op = 5 ∨ x.op = 11) → Seg xs d s → Seg (x :: xs) d s
  | blk (x : It) (ys xs : List It) (d1 s1 d s : Nat) : (x.op = 2 ∨ x.op = 3) → Seg ys d1 s1 → Seg xs d s → Seg (x :: (ys ++ endI :: xs)) (max (d1 + 1) d) (s1 + 1 + s)
  | half (x : It) (ys xs : List It) (d1 s1 d s : Nat) : x.op = 4 → Seg ys d1 s1 → Seg xs d s → Seg (x :: (ys ++ endI :: xs)) (max (d1 + 1) d) (s1 + 1 + s)
  | both (x : It) (ys zs xs : List It) (d1 s1 d2 s2 d s : Nat) : x.op = 4 → Seg ys d1 s1 → Seg zs d2 s2 → Seg xs d s → Seg (x :: (ys ++ elseI :: (zs ++ endI :: xs))) (max (max d1 d2 + 1) d) (s1 + s2 + 1 + s)
theorem chk1_is {A B : Int} {xs : List Int} (h : chkI 1 A B xs = 0) : A = 0 ∧ B = 0 ∧ xs = [] := by
  unfold chkI at h
  rw [if_neg (by decide)] at h
  split at h
  · exact absurd h (by decide)
  split at h
  · next g =>
    simp [okA, okB, okT] at g
    exact ⟨g.1.1, g.1.2, g.2⟩
  · exact absurd h (by decide)
theorem end_is {x : It} (h : itC x = 0) (ho : x.op = 11) : x = endI := by
  obtain ⟨op, A, B, xs⟩ := x
  simp only at ho
  subst ho
  obtain ⟨rfl, rfl, rfl⟩ := chk1_is (show chkI 1 A B xs = 0 from h)
  rfl
theorem else_is {x : It} (h : itC x = 0) (ho : x.op = 5) : x = elseI := by
  obtain ⟨op, A, B, xs⟩ := x
  simp only at ho
  subst ho
  obtain ⟨rfl, rfl, rfl⟩ := chk1_is (show chkI 1 A B xs = 0 from h)
  rfl
theorem chk_cons {x : It} {l : List It} {k : Nat} {st : Stk × Bool} (h : chkR itC It.op (x :: l) k st = 0) : itC x = 0 ∧ (wnext st x.op k).1.2 = 0 ∧ chkR itC It.op l (k + 1) (wnext st x.op k).2 = 0 := by
  rw [chkR] at h
  split at h
  · next g => exact absurd h g
  · next g =>
    split at h
    · next g2 => exact absurd h g2
    · next g2 => exact ⟨Classical.not_not.1 g, Classical.not_not.1 g2, h⟩
theorem wn_open {T : Stk} {op : Nat} {k : Int} (h2 : op = 2 ∨ op = 3 ∨ op = 4) (h : (wnext (T, false) op k).1.2 = 0) : (wnext (T, false) op k).2 = ((k, op) :: T, false) := by
  unfold wnext at h ⊢
  rw [if_neg (by simp), if_pos h2] at h ⊢
  split
  · next g => rw [if_pos g] at h; exact absurd h (by show ¬ ((7 : Int) = 0); decide)
  · rfl
theorem wx_else {p : Int} {v : Nat} {T : Stk} {k : Int} (h : (wnext ((p, v) :: T, false) 5 k).1.2 = 0) : v = 4 ∧ (wnext ((p, v) :: T, false) 5 k).2 = ((p, 5) :: T, false) := by
  unfold wnext at h ⊢
  rw [if_neg (by simp), if_neg (by decide), if_pos rfl] at h ⊢
  simp only at h ⊢
  by_cases g : v ≠ 4
  · rw [if_pos g] at h; exact absurd h (by show ¬ ((4 : Int) = 0); decide)
  · rw [if_neg g]; exact ⟨Classical.not_not.1 g, rfl⟩
theorem wx_end (p : Int) (v : Nat) (T : Stk) (k : Int) : (wnext ((p, v) :: T, false) 11 k).2 = (T, decide (T.length = 0)) := by
  unfold wnext
  rw [if_neg (by simp), if_neg (by decide), if_neg (by decide), if_pos rfl]
theorem seg_of (n : Nat) : ∀ (l : List It) (k : Nat) (T : Stk), l.length ≤ n → T ≠ [] → chkR itC It.op l k (T, false) = 0 →
    ∃ (ys : List It) (e : It) (r : List It) (d s : Nat), l = ys ++ e :: r ∧ Seg ys d s ∧ itC e = 0 ∧ (e.op = 5 ∨ e.op = 11) ∧ chkR itC It.op (e :: r) (k + ys.length) (T, false) = 0 := by
  induction n with
  | zero =>
    intro l k T hn hT h
    obtain rfl : l = [] := List.length_eq_zero_iff.1 (by omega)
    simp [chkR] at h
  | succ n ih =>
    intro l k T hn hT h
    cases l with
    | nil => simp [chkR] at h
    | cons x l =>
      have hc := chk_cons h
      simp only [List.length_cons] at hn
      by_cases h5 : x.op = 5 ∨ x.op = 11
      · exact ⟨[], x, l, 0, 0, rfl, .nil, hc.1, h5, h⟩
      by_cases h2 : x.op = 2 ∨ x.op = 3 ∨ x.op = 4
      · rw [wn_open h2 hc.2.1] at hc
        obtain ⟨ys, e, r, d1, s1, rfl, hs, he, ho, hr⟩ := ih l (k + 1) ((k, x.op) :: T) (by omega) (by simp) hc.2.2
        have hc2 := chk_cons hr
        simp only [List.length_append, List.length_cons] at hn
        rcases ho with ho | ho
        · rw [ho] at hc2
          obtain ⟨h4, h6⟩ := wx_else hc2.2.1
          rw [h6] at hc2
          obtain rfl := else_is he ho
          obtain ⟨zs, e2, r2, d2, s2, rfl, hs2, he2, ho2, hr2⟩ := ih r _ ((k, 5) :: T) (by omega) (by simp) hc2.2.2
          have hc3 := chk_cons hr2
          simp only [List.length_append, List.length_cons] at hn
          rcases ho2 with ho2 | ho2
          · rw [ho2] at hc3
            exact absurd (wx_else hc3.2.1).1 (by decide)
          · rw [ho2, wx_end, decide_eq_false (by simpa using hT)] at hc3
            obtain rfl := end_is he2 ho2
            obtain ⟨xs, e3, r3, d, s, rfl, hs3, he3, ho3, hr3⟩ := ih r2 _ T (by omega) hT hc3.2.2
            refine ⟨x :: (ys ++ elseI :: (zs ++ endI :: xs)), e3, r3, _, _, by simp, .both x ys zs xs d1 s1 d2 s2 d s h4 hs hs2 hs3, he3, ho3, ?_⟩
            rw [← hr3]
            congr 1
            simp only [List.length_append, List.length_cons]
            omega
        · rw [ho, wx_end, decide_eq_false (by simpa using hT)] at hc2
          obtain rfl := end_is he ho
          obtain ⟨xs, e3, r3, d, s, rfl, hs3, he3, ho3, hr3⟩ := ih r _ T (by omega) hT hc2.2.2
          have hch : chkR itC It.op (e3 :: r3) (k + (x :: (ys ++ endI :: xs)).length) (T, false) = 0 := by
            rw [← hr3]
            congr 1
            simp only [List.length_append, List.length_cons]
            omega
          by_cases h4 : x.op = 4
          · exact ⟨x :: (ys ++ endI :: xs), e3, r3, _, _, by simp, .half x ys xs d1 s1 d s h4 hs hs3, he3, ho3, hch⟩
          · exact ⟨x :: (ys ++ endI :: xs), e3, r3, _, _, by simp, .blk x ys xs d1 s1 d s (by omega) hs hs3, he3, ho3, hch⟩
      · have hw := wn_plain (T := T) (op := x.op) (k := k) h2 (fun g => h5 (.inl g)) (fun g => h5 (.inr g))
        rw [hw] at hc
        obtain ⟨ys, e, r, d, s, rfl, hs, he, ho, hr⟩ := ih l (k + 1) T (by omega) hT hc.2.2
        refine ⟨x :: ys, e, r, d, s, rfl, .one x ys d s (by omega) hs, he, ho, ?_⟩
        rw [← hr]
        congr 1
        simp only [List.length_cons]
        omega
theorem body_seg {l : List It} (h : ncM l = 0) : l.length ≤ 200 ∧ ∃ ys d s, l = ys ++ [endI] ∧ Seg ys d s := by
  unfold ncM at h
  by_cases hb : 200 < l.length
  · rw [if_pos hb] at h; exact absurd h (by decide)
  rw [if_neg hb] at h
  refine ⟨by omega, ?_⟩
  obtain ⟨ys, e, r, d, s, rfl, hs, he, ho, hr⟩ := seg_of l.length l 0 [(-1, 2)] (Nat.le_refl _) (by simp) h
  have hc := chk_cons hr
  rcases ho with ho | ho
  · rw [ho] at hc
    exact absurd (wx_else hc.2.1).1 (by decide)
  · rw [ho, wx_end] at hc
    obtain rfl := end_is he ho
    refine ⟨ys, d, s, ?_, hs⟩
    cases r with
    | nil => rfl
    | cons y r =>
      have := (chk_cons hc.2.2).2.1
      exact absurd this (by simp [wnext])
theorem Seg.le {ys : List It} {d s : Nat} (h : Seg ys d s) : d ≤ ys.length ∧ s ≤ ys.length := by
  induction h with
  | nil => simp
  | one x xs d s _ _ ih => simp only [List.length_cons]; omega
  | blk x ys xs d1 s1 d s _ _ _ i1 i2 => simp only [List.length_cons, List.length_append]; omega
  | half x ys xs d1 s1 d s _ _ _ i1 i2 => simp only [List.length_cons, List.length_append]; omega
  | both x ys zs xs d1 s1 d2 s2 d s _ _ _ _ i1 i2 i3 => simp only [List.length_cons, List.length_append]; omega
theorem q3 {a b c d e f : Int} (h1 : a = d) (h2 : b = e) (h3 : c = f) : (a, b, c) = (d, e, f) := by rw [h1, h2, h3]
end Go.Proofs.YtakfineljffoaaaGreatDoor
namespace Go.Proofs.YtakfineljffoaaaGreatDoor
open Go.RowKit Go.Lib

def run1 (st : List Nat) (op : Nat) : Option (List Nat) :=
  match st with
  | [] => none
  | k :: st => if op = 2 ∨ op = 3 then some (2 :: k :: st) else if op = 4 then some (4 :: k :: st) else if op = 5 then (if k = 4 then some (2 :: st) else none) else if op = 11 then some st else some (k :: st)
def run : List It → List Nat → Option (List Nat)
  | [], st => some st
  | x :: l, st => (run1 st x.op).bind (run l)
def Fits (l : List It) : Prop := run l [2] = some []
theorem run_append (a b : List It) : ∀ st, run (a ++ b) st = (run a st).bind (run b) := by
  induction a with
  | nil => intro st; rfl
  | cons x a ih =>
    intro st
    simp only [List.cons_append, run]
    cases run1 st x.op with
    | none => rfl
    | some s => exact ih s
theorem run_nil (l : List It) : run l [] = some [] ↔ l = [] := by
  cases l with
  | nil => simp [run]
  | cons x l => simp [run, run1]
def flatOp (op : Nat) : Prop := ¬ (op = 2 ∨ op = 3 ∨ op = 4 ∨ op = 5 ∨ op = 11)
theorem run1_flat {op : Nat} (h : flatOp op) (k : Nat) (st : List Nat) : run1 (k :: st) op = some (k :: st) := by
  unfold flatOp at h
  unfold run1
  simp only
  rw [if_neg (by omega), if_neg (by omega), if_neg (by omega), if_neg (by omega)]
theorem seg_run {ys : List It} {d s : Nat} (h : Seg ys d s) : ∀ (k : Nat) (st : List Nat), run ys (k :: st) = some (k :: st) := by
  induction h with
  | nil => intro k st; rfl
  | one x xs d s hx _ ih =>
    intro k st
    rw [run, run1_flat hx]
    exact ih k st
  | blk x ys xs d1 s1 d s hx _ _ ih1 ih2 =>
    intro k st
    rw [run, show run1 (k :: st) x.op = some (2 :: k :: st) from by unfold run1; simp only; rw [if_pos hx]]
    simp only [Option.bind_some]
    rw [run_append, ih1]
    simp only [Option.bind_some, run]
    rw [show run1 (2 :: k :: st) endI.op = some (k :: st) from rfl]
    exact ih2 k st
  | half x ys xs d1 s1 d s hx _ _ ih1 ih2 =>
    intro k st
    rw [run, show run1 (k :: st) x.op = some (4 :: k :: st) from by unfold run1; simp only; rw [if_neg (by omega), if_pos hx]]
    simp only [Option.bind_some]
    rw [run_append, ih1]
    simp only [Option.bind_some, run]
    rw [show run1 (4 :: k :: st) endI.op = some (k :: st) from rfl]
    exact ih2 k st
  | both x ys zs xs d1 s1 d2 s2 d s hx _ _ _ ih1 ih2 ih3 =>
    intro k st
    rw [run, show run1 (k :: st) x.op = some (4 :: k :: st) from by unfold run1; simp only; rw [if_neg (by omega), if_pos hx]]
    simp only [Option.bind_some]
    rw [run_append, ih1]
    simp only [Option.bind_some, run]
    rw [show run1 (4 :: k :: st) elseI.op = some (2 :: k :: st) from rfl]
    simp only [Option.bind_some]
    rw [run_append, ih2]
    simp only [Option.bind_some, run]
    rw [show run1 (2 :: k :: st) endI.op = some (k :: st) from rfl]
    exact ih3 k st
theorem fits_of {l : List It} (h : ncM l = 0) : Fits l := by
  obtain ⟨_, ys, d, s, rfl, hs⟩ := body_seg h
  unfold Fits
  rw [run_append, seg_run hs]
  rfl
end Go.Proofs.YtakfineljffoaaaGreatDoor
namespace Go.Proofs.YtakfineljffoaaaGreatDoor
open Go.RowKit Go.Lib

inductive Bal : List It → Prop
  | nil : Bal []
  | one (x : It) (xs : List It) : flatOp x.op → Bal xs → Bal (x :: xs)
  | blk (x : It) (ys : List It) (e : It) (xs : List It) : (x.op = 2 ∨ x.op = 3 ∨ x.op = 4) → Bal ys → e.op = 11 → Bal xs → Bal (x :: (ys ++ e :: xs))
  | both (x : It) (ys : List It) (m : It) (zs : List It) (e : It) (xs : List It) : x.op = 4 → Bal ys → m.op = 5 → Bal zs → e.op = 11 → Bal xs → Bal (x :: (ys ++ m :: (zs ++ e :: xs)))
theorem run_blk {x : It} {k : Nat} {st : List Nat} (h : x.op = 2 ∨ x.op = 3) : run1 (k :: st) x.op = some (2 :: k :: st) := by unfold run1; simp only; rw [if_pos h]
theorem run_if {x : It} {k : Nat} {st : List Nat} (h : x.op = 4) : run1 (k :: st) x.op = some (4 :: k :: st) := by unfold run1; simp only; rw [if_neg (by omega), if_pos h]
theorem run_else {x : It} {k : Nat} {st : List Nat} (h : x.op = 5) : run1 (k :: st) x.op = if k = 4 then some (2 :: st) else none := by unfold run1; simp only; rw [if_neg (by omega), if_neg (by omega), if_pos h]
theorem run_end {x : It} {k : Nat} {st : List Nat} (h : x.op = 11) : run1 (k :: st) x.op = some st := by unfold run1; simp only; rw [if_neg (by omega), if_neg (by omega), if_neg (by omega), if_pos h]
theorem bal_run {ys : List It} (h : Bal ys) : ∀ (k : Nat) (st : List Nat), run ys (k :: st) = some (k :: st) := by
  induction h with
  | nil => intro k st; rfl
  | one x xs hx _ ih =>
    intro k st
    rw [run, run1_flat hx]
    exact ih k st
  | blk x ys e xs hx _ he _ ih1 ih2 =>
    intro k st
    rw [run]
    rcases hx with hx | hx | hx
    · rw [run_blk (.inl hx)]
      simp only [Option.bind_some]
      rw [run_append, ih1]
      simp only [Option.bind_some, run]
      rw [run_end he]
      exact ih2 k st
    · rw [run_blk (.inr hx)]
      simp only [Option.bind_some]
      rw [run_append, ih1]
      simp only [Option.bind_some, run]
      rw [run_end he]
      exact ih2 k st
    · rw [run_if hx]
      simp only [Option.bind_some]
      rw [run_append, ih1]
      simp only [Option.bind_some, run]
      rw [run_end he]
      exact ih2 k st
  | both x ys m zs e xs hx _ hm _ he _ ih1 ih2 ih3 =>
    intro k st
    rw [run, run_if hx]
    simp only [Option.bind_some]
    rw [run_append, ih1]
    simp only [Option.bind_some, run]
    rw [run_else hm, if_pos rfl]
    simp only [Option.bind_some]
    rw [run_append, ih2]
    simp only [Option.bind_some, run]
    rw [run_end he]
    exact ih3 k st
theorem parse (n : Nat) : ∀ (l : List It) (k : Nat) (st : List Nat), l.length ≤ n → run l (k :: st) = some [] →
    ∃ ys e r, l = ys ++ e :: r ∧ Bal ys ∧ ((e.op = 11 ∧ run r st = some []) ∨ (e.op = 5 ∧ k = 4 ∧ run r (2 :: st) = some [])) := by
  induction n with
  | zero =>
    intro l k st hn h
    obtain rfl : l = [] := List.length_eq_zero_iff.1 (by omega)
    simp [run] at h
  | succ n ih =>
    intro l k st hn h
    cases l with
    | nil => simp [run] at h
    | cons x l =>
      simp only [List.length_cons] at hn
      rw [run] at h
      by_cases h11 : x.op = 11
      · rw [run_end h11] at h
        exact ⟨[], x, l, rfl, .nil, .inl ⟨h11, h⟩⟩
      by_cases h5 : x.op = 5
      · rw [run_else h5] at h
        by_cases hk : k = 4
        · rw [if_pos hk] at h
          exact ⟨[], x, l, rfl, .nil, .inr ⟨h5, hk, h⟩⟩
        · rw [if_neg hk] at h
          simp at h
      by_cases hb : x.op = 2 ∨ x.op = 3
      · rw [run_blk hb] at h
        simp only [Option.bind_some] at h
        obtain ⟨ys, e, r, rfl, hy, ho⟩ := ih l 2 (k :: st) (by omega) h
        rcases ho with ⟨he, hr⟩ | ⟨_, h2, _⟩
        · simp only [List.length_append, List.length_cons] at hn
          obtain ⟨zs, e2, r2, rfl, hz, ho2⟩ := ih r k st (by omega) hr
          exact ⟨x :: (ys ++ e :: zs), e2, r2, by simp, .blk x ys e zs (by omega) hy he hz, ho2⟩
        · exact absurd h2 (by decide)
      by_cases h4 : x.op = 4
      · rw [run_if h4] at h
        simp only [Option.bind_some] at h
        obtain ⟨ys, e, r, rfl, hy, ho⟩ := ih l 4 (k :: st) (by omega) h
        simp only [List.length_append, List.length_cons] at hn
        rcases ho with ⟨he, hr⟩ | ⟨he, _, hr⟩
        · obtain ⟨zs, e2, r2, rfl, hz, ho2⟩ := ih r k st (by omega) hr
          exact ⟨x :: (ys ++ e :: zs), e2, r2, by simp, .blk x ys e zs (by omega) hy he hz, ho2⟩
        · obtain ⟨zs, e2, r2, rfl, hz, ho2⟩ := ih r 2 (k :: st) (by omega) hr
          rcases ho2 with ⟨he2, hr2⟩ | ⟨_, h2, _⟩
          · simp only [List.length_append, List.length_cons] at hn
            obtain ⟨ws, e3, r3, rfl, hw, ho3⟩ := ih r2 k st (by omega) hr2
            exact ⟨x :: (ys ++ e :: (zs ++ e2 :: ws)), e3, r3, by simp, .both x ys e zs e2 ws h4 hy he hz he2 hw, ho3⟩
          · exact absurd h2 (by decide)
      have hf : flatOp x.op := by unfold flatOp; omega
      rw [run1_flat hf] at h
      simp only [Option.bind_some] at h
      obtain ⟨ys, e, r, rfl, hy, ho⟩ := ih l k st (by omega) h
      exact ⟨x :: ys, e, r, rfl, .one x ys hf hy, ho⟩
def spanA : Int → Nat → List It → Nat
  | _, i, [] => i
  | d, i, x :: l =>
    if (if x.op = 2 ∨ x.op = 3 ∨ x.op = 4 then d + 1 else if x.op = 11 then d - 1 else d) = 0 then i + 1
    else spanA (if x.op = 2 ∨ x.op = 3 ∨ x.op = 4 then d + 1 else if x.op = 11 then d - 1 else d) (i + 1) l
def spanM (l : List It) : Nat := spanA 0 0 l
def othA : Int → Nat → List It → Nat
  | _, i, [] => i - 1
  | d, i, x :: l =>
    if x.op = 2 ∨ x.op = 3 ∨ x.op = 4 then othA (d + 1) (i + 1) l
    else if x.op = 5 then (if d = 1 then i else othA d (i + 1) l)
    else if x.op = 11 then (if d - 1 = 0 then i else othA (d - 1) (i + 1) l)
    else othA d (i + 1) l
def othM (l : List It) : Nat := othA 0 0 l
def uptA : Int → Int → Nat → List It → Int × Int
  | _, h, i, [] => ((i : Int) - 1, h)
  | o, h, i, x :: l =>
    if x.op = 11 then (if (if 2 ≤ x.op ∧ x.op ≤ 4 then o + 1 else o) - 1 ≤ 0 then ((i : Int), h) else uptA ((if 2 ≤ x.op ∧ x.op ≤ 4 then o + 1 else o) - 1) h (i + 1) l)
    else uptA (if 2 ≤ x.op ∧ x.op ≤ 4 then o + 1 else o) (if x.op = 5 ∧ (if 2 ≤ x.op ∧ x.op ≤ 4 then o + 1 else o) = 1 then (i : Int) else h) (i + 1) l
def uptM (l : List It) : Int × Int := uptA 0 (-1) 0 l
theorem span_open {d : Int} {i : Nat} {x : It} {l : List It} (h : x.op = 2 ∨ x.op = 3 ∨ x.op = 4) (hd : 0 ≤ d) : spanA d i (x :: l) = spanA (d + 1) (i + 1) l := by
  rw [spanA, if_pos h, if_neg (by omega)]
theorem span_flat {d : Int} {i : Nat} {x : It} {l : List It} (h : flatOp x.op ∨ x.op = 5) (hd : d ≠ 0) : spanA d i (x :: l) = spanA d (i + 1) l := by
  unfold flatOp at h
  have e : (if x.op = 2 ∨ x.op = 3 ∨ x.op = 4 then d + 1 else if x.op = 11 then d - 1 else d) = d := by rw [if_neg (by omega), if_neg (by omega)]
  rw [spanA, e, if_neg hd]
theorem span_end {d : Int} {i : Nat} {x : It} {l : List It} (h : x.op = 11) : spanA d i (x :: l) = if d - 1 = 0 then i + 1 else spanA (d - 1) (i + 1) l := by
  have e : (if x.op = 2 ∨ x.op = 3 ∨ x.op = 4 then d + 1 else if x.op = 11 then d - 1 else d) = d - 1 := by rw [if_neg (by omega), if_pos h]
  rw [spanA, e]
theorem bal_span {ys : List It} (h : Bal ys) : ∀ (d : Int) (i : Nat) (t : List It), 1 ≤ d → spanA d i (ys ++ t) = spanA d (i + ys.length) t := by
  induction h with
  | nil => intro d i t _; rfl
  | one x xs hx _ ih =>
    intro d i t hd
    rw [List.cons_append, span_flat (.inl hx) (by omega), ih d _ t hd, List.length_cons]
    congr 1; omega
  | blk x ys e xs hx _ he _ ih1 ih2 =>
    intro d i t hd
    rw [List.cons_append, span_open hx (by omega), List.append_assoc, ih1 _ _ _ (by omega), List.cons_append, span_end he, if_neg (by omega), show d + 1 - 1 = d by omega, ih2 d _ t hd]
    simp only [List.length_cons, List.length_append]
    congr 1; omega
  | both x ys m zs e xs hx _ hm _ he _ ih1 ih2 ih3 =>
    intro d i t hd
    rw [List.cons_append, span_open (.inr (.inr hx)) (by omega), List.append_assoc, ih1 _ _ _ (by omega), List.cons_append, span_flat (.inr hm) (by omega), List.append_assoc, ih2 _ _ _ (by omega), List.cons_append, span_end he, if_neg (by omega), show d + 1 - 1 = d by omega, ih3 d _ t hd]
    simp only [List.length_cons, List.length_append]
    congr 1; omega
theorem oth_open {d : Int} {i : Nat} {x : It} {l : List It} (h : x.op = 2 ∨ x.op = 3 ∨ x.op = 4) : othA d i (x :: l) = othA (d + 1) (i + 1) l := by rw [othA, if_pos h]
theorem oth_flat {d : Int} {i : Nat} {x : It} {l : List It} (h : flatOp x.op) : othA d i (x :: l) = othA d (i + 1) l := by
  unfold flatOp at h
  rw [othA, if_neg (by omega), if_neg (by omega), if_neg (by omega)]
theorem oth_else {d : Int} {i : Nat} {x : It} {l : List It} (h : x.op = 5) : othA d i (x :: l) = if d = 1 then i else othA d (i + 1) l := by rw [othA, if_neg (by omega), if_pos h]
theorem oth_end {d : Int} {i : Nat} {x : It} {l : List It} (h : x.op = 11) : othA d i (x :: l) = if d - 1 = 0 then i else othA (d - 1) (i + 1) l := by rw [othA, if_neg (by omega), if_neg (by omega), if_pos h]
theorem bal_oth {ys : List It} (h : Bal ys) : ∀ (d : Int) (i : Nat) (t : List It), 1 ≤ d → othA d i (ys ++ t) = othA d (i + ys.length) t := by
  induction h with
  | nil => intro d i t _; rfl
  | one x xs hx _ ih =>
    intro d i t hd
    rw [List.cons_append, oth_flat hx, ih d _ t hd, List.length_cons]
    congr 1; omega
  | blk x ys e xs hx _ he _ ih1 ih2 =>
    intro d i t hd
    rw [List.cons_append, oth_open hx, List.append_assoc, ih1 _ _ _ (by omega), List.cons_append, oth_end he, if_neg (by omega), show d + 1 - 1 = d by omega, ih2 d _ t hd]
    simp only [List.length_cons, List.length_append]
    congr 1; omega
  | both x ys m zs e xs hx _ hm _ he _ ih1 ih2 ih3 =>
    intro d i t hd
    rw [List.cons_append, oth_open (.inr (.inr hx)), List.append_assoc, ih1 _ _ _ (by omega), List.cons_append, oth_else hm, if_neg (by omega), List.append_assoc, ih2 _ _ _ (by omega), List.cons_append, oth_end he, if_neg (by omega), show d + 1 - 1 = d by omega, ih3 d _ t hd]
    simp only [List.length_cons, List.length_append]
    congr 1; omega
theorem upt_open {o h : Int} {i : Nat} {x : It} {l : List It} (hx : x.op = 2 ∨ x.op = 3 ∨ x.op = 4) : uptA o h i (x :: l) = uptA (o + 1) h (i + 1) l := by
  rw [uptA, if_neg (by omega), if_pos (by omega), if_neg (by omega)]
theorem upt_flat {o h : Int} {i : Nat} {x : It} {l : List It} (hx : flatOp x.op) : uptA o h i (x :: l) = uptA o h (i + 1) l := by
  unfold flatOp at hx
  rw [uptA, if_neg (by omega), if_neg (by omega), if_neg (by omega)]
theorem upt_else {o h : Int} {i : Nat} {x : It} {l : List It} (hx : x.op = 5) : uptA o h i (x :: l) = uptA o (if o = 1 then (i : Int) else h) (i + 1) l := by
  rw [uptA, if_neg (by omega), if_neg (by omega)]
  by_cases ho : o = 1
  · rw [if_pos ho, if_pos ⟨hx, ho⟩]
  · rw [if_neg ho, if_neg (fun g => ho g.2)]
theorem upt_end {o h : Int} {i : Nat} {x : It} {l : List It} (hx : x.op = 11) : uptA o h i (x :: l) = if o - 1 ≤ 0 then ((i : Int), h) else uptA (o - 1) h (i + 1) l := by
  have e : (if 2 ≤ x.op ∧ x.op ≤ 4 then o + 1 else o) = o := if_neg (by omega)
  rw [uptA, if_pos hx, e]
theorem bal_upt {ys : List It} (hb : Bal ys) : ∀ (o h : Int) (i : Nat) (t : List It), 1 ≤ o → uptA o h i (ys ++ t) = uptA o h (i + ys.length) t := by
  induction hb with
  | nil => intro o h i t _; rfl
  | one x xs hx _ ih =>
    intro o h i t ho
    rw [List.cons_append, upt_flat hx, ih o h _ t ho, List.length_cons]
    congr 1; omega
  | blk x ys e xs hx _ he _ ih1 ih2 =>
    intro o h i t ho
    rw [List.cons_append, upt_open hx, List.append_assoc, ih1 _ _ _ _ (by omega), List.cons_append, upt_end he, if_neg (by omega), show o + 1 - 1 = o by omega, ih2 o h _ t ho]
    simp only [List.length_cons, List.length_append]
    congr 1; omega
  | both x ys m zs e xs hx _ hm _ he _ ih1 ih2 ih3 =>
    intro o h i t ho
    rw [List.cons_append, upt_open (.inr (.inr hx)), List.append_assoc, ih1 _ _ _ _ (by omega), List.cons_append, upt_else hm, if_neg (by omega), List.append_assoc, ih2 _ _ _ _ (by omega), List.cons_append, upt_end he, if_neg (by omega), show o + 1 - 1 = o by omega, ih3 o h _ t ho]
    simp only [List.length_cons, List.length_append]
    congr 1; omega
end Go.Proofs.YtakfineljffoaaaGreatDoor
