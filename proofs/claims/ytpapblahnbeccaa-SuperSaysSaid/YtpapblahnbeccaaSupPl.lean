/-
  PACKAGE super AND ITS REFERENCE: Plan. Conditions: the lists' lengths are in the form's reach.
-/
import Derived.Test.YtpapblahnbeccaaSupP
namespace Go.Proofs.Ytpapblahnbeccaa
open Go.RowKit

def encKid (k : Bool × Bool) : List Value := [.bool k.1, .bool k.2]
theorem encKid_len (k : Bool × Bool) : (encKid k).length = 2 := rfl
def Kids (w : World) (v : Value) (ks : List (Bool × Bool)) : Prop := Lk encKid w v ks
theorem Kids.open {w : World} {v : Value} {ks : List (Bool × Bool)} (h : Kids w v ks) :
    (∃ ao cap, v = .slice ao 0 cap ∧ ks = [] ∧ (ao = none → cap = 0)) ∨ ∃ b off cap, v = .slice (some ⟨b, off, none⟩) ks.length cap ∧ 0 < ks.length ∧ ks.length ≤ cap ∧ cap ≤ 9223372036854775807 ∧
      (∀ j (h : j < ks.length), w.cell? ⟨b, off + j * 2, none⟩ = some (.bool ks[j].1)) ∧ (∀ j (h : j < ks.length), w.cell? ⟨b, off + j * 2 + 1, none⟩ = some (.bool ks[j].2)) := by
  rcases Lk.open h encKid_len (by decide) with h | ⟨b, off, cap, h1, h2, h3, h4, h5⟩
  · exact .inl h
  · exact .inr ⟨b, off, cap, h1, h2, h3, h4, fun j hj => h5 j hj 0 (by decide), fun j hj => h5 j hj 1 (by decide)⟩

set_option maxRecDepth 100000 in
theorem isStr_yes (n : Int) (w : World) (h : 1 ≤ n ∧ n ≤ 3) : Calls Try.prog 99 #[.int .i64 n] w fun e w' => e = .returned (.bool true) ∧ w = w' := by
  obtain ⟨h1, h2⟩ := h
  go_enter Try.func99, Try.ntmps99
  go_wp2
  go_ret
  exact ⟨rfl, rfl⟩
set_option maxRecDepth 100000 in
theorem isStr_no (n : Int) (w : World) (h : n < 1 ∨ 3 < n) : Calls Try.prog 99 #[.int .i64 n] w fun e w' => e = .returned (.bool false) ∧ w = w' := by
  rcases h with h | h
  · go_enter Try.func99, Try.ntmps99
    go_wp2
    go_ret
    exact ⟨rfl, rfl⟩
  · have h0 : 1 ≤ n := by omega
    have h1 : ¬ n ≤ 3 := by omega
    go_enter Try.func99, Try.ntmps99
    go_wp2
    go_ret
    exact ⟨rfl, rfl⟩

/-- who is stopped, who is started, among the children from 'fr' on -/
def selStop (ks : List (Bool × Bool)) (f i : Nat) : Bool := (i != f) && (ks.getD i (false, false)).1
def selStart (ks : List (Bool × Bool)) (i : Nat) : Bool := (ks.getD i (false, false)).2
def nums (l : List Nat) : List Int := l.map fun i : Nat => (i : Int)
def inn (strategy : Int) (f i : Nat) : Bool := i == f || strategy == 2 || (strategy == 3 && decide (f < i))

/-- what both Plan's answer -/
def planF (strategy : Int) (ks : List (Bool × Bool)) (failed : Int) : List Int × List Int × Int :=
  if 8 < ks.length then ([], [], 2)
  else if strategy < 1 ∨ 3 < strategy ∨ failed < 0 ∨ (ks.length : Int) ≤ failed then ([], [], 1)
  else if (ks.getD failed.toNat (false, false)).2 = false then ([], [], 0)
  else (nums (((List.range ks.length).filter (fun i => inn strategy failed.toNat i && selStop ks failed.toNat i)).reverse),
        nums ((List.range ks.length).filter (fun i => inn strategy failed.toNat i && selStart ks i)), 0)

def PlanPost (W : World) (r : List Int × List Int × Int) (e : Ending) (w' : World) : Prop :=
  ∃ v u, e = .returned (.tuple #[v, u, .int .i64 r.2.2]) ∧ OwnI w' W.heap.size .i64 3 v r.1 ∧ OwnI w' W.heap.size .i64 3 u r.2.1 ∧ Sep v u ∧ Below W.heap.size W w'
theorem PlanPost.err (W : World) (n : Int) : PlanPost W ([], [], n) (.returned (.tuple #[.slice none 0 0, .slice none 0 0, .int .i64 n])) W := ⟨_, _, rfl, OwnI.nil _ _ _ _, OwnI.nil _ _ _ _, Sep.nil_left _, Below.refl _ _⟩

theorem nums_filter_yes {p : Nat → Bool} {a j : Nat} (h : p (a + j) = true) : nums ((List.range' a (j + 1)).filter p) = nums ((List.range' a j).filter p) ++ [((a + j : Nat) : Int)] := by
  rw [List.range'_1_concat, List.filter_append]
  simp [nums, h]
theorem nums_filter_no {p : Nat → Bool} {a j : Nat} (h : p (a + j) = false) : nums ((List.range' a (j + 1)).filter p) = nums ((List.range' a j).filter p) := by
  rw [List.range'_1_concat, List.filter_append]
  simp [nums, h]
theorem nums_len {p : Nat → Bool} {a j : Nat} : (nums ((List.range' a j).filter p)).length ≤ j := by
  unfold nums
  rw [List.length_map]
  exact Nat.le_trans (List.length_filter_le _ _) (by simp)

/-- where the loop of Plan stands after j rounds -/
def PlanRel (W : World) (ks : List (Bool × Bool)) (f fr j : Nat) (v u : Value) (wr : World) : Prop :=
  OwnI wr W.heap.size .i64 3 v (nums ((List.range' fr j).filter (selStop ks f))) ∧ OwnI wr W.heap.size .i64 3 u (nums ((List.range' fr j).filter (selStart ks))) ∧ Sep v u ∧ Below W.heap.size W wr

theorem pr_none {W : World} {ks : List (Bool × Bool)} {f fr j : Nat} {v u : Value} {wr : World} (h : PlanRel W ks f fr j v u wr) (h1 : selStop ks f (fr + j) = false) (h2 : selStart ks (fr + j) = false) (o : Obj) : PlanRel W ks f fr (j + 1) v u (wr.alloc o) := by
  obtain ⟨a, b, c, d⟩ := h
  refine ⟨?_, ?_, c, d.alloc d.size _⟩
  · rw [nums_filter_no h1]; exact World.ownsRow.alloc a _
  · rw [nums_filter_no h2]; exact World.ownsRow.alloc b _
theorem pr_stop {W : World} {ks : List (Bool × Bool)} {f fr j : Nat} {v u v' : Value} {wr w1 : World} {y : Int} {o : Obj} (h : PlanRel W ks f fr j v u wr) (h1 : selStop ks f (fr + j) = true) (h2 : selStart ks (fr + j) = false) (hy : y = ((fr + j : Nat) : Int))
    (ho : OwnI w1 W.heap.size .i64 3 v' (nums ((List.range' fr j).filter (selStop ks f)) ++ [y])) (hb : Below W.heap.size (wr.alloc o) w1) (hg : Grew (wr.alloc o) v w1 v') : PlanRel W ks f fr (j + 1) v' u w1 := by
  obtain ⟨a, b, c, d⟩ := h
  obtain ⟨e1, e2⟩ := hg.other (World.ownsRow.alloc b o) c.symm
  refine ⟨?_, ?_, e2.symm, (d.alloc d.size _).trans hb⟩
  · rw [nums_filter_yes h1, ← hy]; exact ho
  · rw [nums_filter_no h2]; exact e1
theorem pr_start {W : World} {ks : List (Bool × Bool)} {f fr j : Nat} {v u u' : Value} {wr w1 : World} {y : Int} {o : Obj} (h : PlanRel W ks f fr j v u wr) (h1 : selStop ks f (fr + j) = false) (h2 : selStart ks (fr + j) = true) (hy : y = ((fr + j : Nat) : Int))
    (ho : OwnI w1 W.heap.size .i64 3 u' (nums ((List.range' fr j).filter (selStart ks)) ++ [y])) (hb : Below W.heap.size (wr.alloc o) w1) (hg : Grew (wr.alloc o) u w1 u') : PlanRel W ks f fr (j + 1) v u' w1 := by
  obtain ⟨a, b, c, d⟩ := h
  obtain ⟨e1, e2⟩ := hg.other (World.ownsRow.alloc a o) c
  refine ⟨?_, ?_, e2, (d.alloc d.size _).trans hb⟩
  · rw [nums_filter_no h1]; exact e1
  · rw [nums_filter_yes h2, ← hy]; exact ho
theorem pr_both {W : World} {ks : List (Bool × Bool)} {f fr j : Nat} {v u v' u' : Value} {wr w1 w2 : World} {y y' : Int} {o : Obj} (h : PlanRel W ks f fr j v u wr) (h1 : selStop ks f (fr + j) = true) (h2 : selStart ks (fr + j) = true) (hy : y = ((fr + j : Nat) : Int)) (hy' : y' = ((fr + j : Nat) : Int))
    (ho : OwnI w1 W.heap.size .i64 3 v' (nums ((List.range' fr j).filter (selStop ks f)) ++ [y])) (hb : Below W.heap.size (wr.alloc o) w1) (hg : Grew (wr.alloc o) v w1 v')
    (ho' : OwnI w2 W.heap.size .i64 3 u' (nums ((List.range' fr j).filter (selStart ks)) ++ [y'])) (hb' : Below W.heap.size w1 w2) (hg' : Grew w1 u w2 u') : PlanRel W ks f fr (j + 1) v' u' w2 := by
  obtain ⟨a, b, c, d⟩ := h
  obtain ⟨_, e2⟩ := hg.other (World.ownsRow.alloc b o) c.symm
  obtain ⟨e3, e4⟩ := hg'.other ho e2.symm
  refine ⟨?_, ?_, e4, ((d.alloc d.size _).trans hb).trans hb'⟩
  · rw [nums_filter_yes h1, ← hy]; exact e3
  · rw [nums_filter_yes h2, ← hy']; exact ho'

end Go.Proofs.Ytpapblahnbeccaa
