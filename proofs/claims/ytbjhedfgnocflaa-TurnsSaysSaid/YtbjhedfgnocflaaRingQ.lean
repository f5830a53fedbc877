/-
  THE RING OF THE PROGRAM: Add, Drop, Next, Pick. Conditions: the object's own invariant; at most 8796093022207 ids.
-/
import Derived.Test.YtbjhedfgnocflaaRingP
namespace Go.Proofs.Ytbjhedfgnocflaa
open Go.RowKit Go.Lib
attribute [local go_sem ↓] Go.wp_at_zero Go.wp_at_succ

theorem nd_set1 {w : World} {b a : Nat} {ty : TypeId} {x p q v : Value} (h : Blk w b ty [x, p, q]) : Blk (w.setCell ⟨a, 1, none⟩ v) b ty [x, if b = a then v else p, q] := by
  by_cases e : b = a
  · subst e; rw [if_pos rfl]; exact h.set 1 v
  · rw [if_neg e]; exact h.other (fun h2 => e h2.symm) v
theorem nd_set2 {w : World} {b a : Nat} {ty : TypeId} {x p q v : Value} (h : Blk w b ty [x, p, q]) : Blk (w.setCell ⟨a, 2, none⟩ v) b ty [x, p, if b = a then v else q] := by
  by_cases e : b = a
  · subst e; rw [if_pos rfl]; exact h.set 2 v
  · rw [if_neg e]; exact h.other (fun h2 => e h2.symm) v

/-- a new link behind the others -/
theorem add_fin {w w' : World} {base B g : Nat} {f : Nat → Nat} {xs : List Int} {id : Int} (h : PRing w base B f xs) (hn : 0 < xs.length) (hg : w.heap.size ≤ g) (hs : w.heap.size ≤ w'.heap.size)
    (hB : Blk w' B 112 [pt (f 0), .int .i64 (xs.length + 1)]) (hG : Blk w' g 172 [.int .i64 id, pt (f (xs.length - 1)), pt (f 0)])
    (hN : ∀ i (h : i < xs.length), Blk w' (f i) 172 [.int .i64 xs[i], if f i = f 0 then pt g else pt (f (pv xs.length i)), if f i = f (xs.length - 1) then pt g else pt (f (nx xs.length i))]) :
    PRing w' base B (fun i => if i = xs.length then g else f i) (xs ++ [id]) := by
  have hlt := fun i hi => (h.node i hi).lt
  have hBlt := h.blk.lt
  refine ⟨?_, ?_, ?_, ?_, h.le, Nat.le_trans h.base hs⟩
  · have e : hdF (fun i => if i = xs.length then g else f i) (xs ++ [id]).length = pt (f 0) := by
      unfold hdF
      rw [if_neg (by simp)]
      show pt (if 0 = xs.length then g else f 0) = _
      rw [if_neg (by omega)]
    rw [e]
    have e2 : (((xs ++ [id]).length : Nat) : Int) = (xs.length : Int) + 1 := by simp
    rw [e2]
    exact hB
  · intro i hi
    have hi' : i < xs.length + 1 := by simpa using hi
    have e3 : (xs ++ [id]).length = xs.length + 1 := by simp
    rw [e3]
    by_cases e : i = xs.length
    · subst e
      have x1 : (xs ++ [id])[xs.length] = id := by simp
      have x2 : pv (xs.length + 1) xs.length = xs.length - 1 := by unfold pv; split <;> omega
      have x3 : nx (xs.length + 1) xs.length = 0 := by unfold nx; rw [if_pos rfl]
      rw [x1, x2, x3]
      simp only [if_true, if_neg (show ¬ xs.length - 1 = xs.length by omega), if_neg (show ¬ 0 = xs.length by omega)]
      exact hG
    · have hi2 : i < xs.length := by omega
      have x1 : (xs ++ [id])[i] = xs[i] := by rw [List.getElem_append_left hi2]
      have hb := hN i hi2
      rw [x1]
      have p1 : (if f i = f 0 then pt g else pt (f (pv xs.length i))) = pt (if pv (xs.length + 1) i = xs.length then g else f (pv (xs.length + 1) i)) := by
        by_cases e0 : i = 0
        · subst e0; rw [if_pos rfl, if_pos (by unfold pv; simp)]
        · rw [if_neg (fun e2 => e0 (h.inj i 0 hi2 hn e2)), if_neg (by unfold pv; rw [if_neg e0]; omega)]
          unfold pv; rw [if_neg e0, if_neg e0]
      have p2 : (if f i = f (xs.length - 1) then pt g else pt (f (nx xs.length i))) = pt (if nx (xs.length + 1) i = xs.length then g else f (nx (xs.length + 1) i)) := by
        have hx : nx (xs.length + 1) i = i + 1 := by unfold nx; rw [if_neg (by omega)]
        rw [hx]
        by_cases e0 : i = xs.length - 1
        · rw [if_pos (by rw [← e0]), if_pos (by omega)]
        · rw [if_neg (fun e2 => e0 (h.inj i _ hi2 (by omega) e2)), if_neg (by omega)]
          unfold nx; rw [if_neg (by omega)]
      rw [p1, p2] at hb
      show Blk w' (if i = xs.length then g else f i) _ _
      rw [if_neg e]
      exact hb
  · intro i j hi hj hf
    have hi' : i < xs.length + 1 := by simpa using hi
    have hj' : j < xs.length + 1 := by simpa using hj
    replace hf : (if i = xs.length then g else f i) = (if j = xs.length then g else f j) := hf
    by_cases e1 : i = xs.length
    · by_cases e2 : j = xs.length
      · omega
      · rw [if_pos e1, if_neg e2] at hf
        have := hlt j (by omega); omega
    · by_cases e2 : j = xs.length
      · rw [if_neg e1, if_pos e2] at hf
        have := hlt i (by omega); omega
      · rw [if_neg e1, if_neg e2] at hf
        exact h.inj i j (by omega) (by omega) hf
  · intro i hi
    have hi' : i < xs.length + 1 := by simpa using hi
    show base ≤ (if i = xs.length then g else f i) ∧ (if i = xs.length then g else f i) ≠ B
    by_cases e1 : i = xs.length
    · rw [if_pos e1]; have := h.base; exact ⟨by omega, by omega⟩
    · rw [if_neg e1]; exact h.ge i (by omega)
theorem add_foot {B g m : Nat} {f : Nat → Nat} {n : Nat} (hg : m ≤ g) : ∀ k, footR B (fun i => if i = n then g else f i) (n + 1) k → footR B f n k ∨ m ≤ k := by
  rintro k (e | ⟨i, hi, e⟩)
  · exact .inl (.inl e)
  · simp only at e
    by_cases e1 : i = n
    · rw [if_pos e1] at e; exact .inr (by omega)
    · rw [if_neg e1] at e; exact .inl (.inr ⟨i, by omega, e⟩)

/-- the link of number k is gone -/
theorem drop_fin {w w' : World} {base B k : Nat} {f : Nat → Nat} {xs : List Int} (h : PRing w base B f xs) (hn : 2 ≤ xs.length) (hk : k < xs.length) (hs : w.heap.size ≤ w'.heap.size)
    (hB : Blk w' B 112 [pt (if k = 0 then f (nx xs.length k) else f 0), .int .i64 ((xs.length : Int) - 1)])
    (hN : ∀ i (h : i < xs.length), i ≠ k → Blk w' (f i) 172 [.int .i64 xs[i], if f i = f (nx xs.length k) then pt (f (pv xs.length k)) else pt (f (pv xs.length i)), if f i = f (pv xs.length k) then pt (f (nx xs.length k)) else pt (f (nx xs.length i))]) :
    PRing w' base B (fun i => f (if i < k then i else i + 1)) (xs.eraseIdx k) := by
  have e3 : (xs.eraseIdx k).length = xs.length - 1 := List.length_eraseIdx_of_lt hk
  refine ⟨?_, ?_, ?_, ?_, h.le, Nat.le_trans h.base hs⟩
  · have e : hdF (fun i => f (if i < k then i else i + 1)) (xs.eraseIdx k).length = pt (if k = 0 then f (nx xs.length k) else f 0) := by
      unfold hdF
      rw [e3, if_neg (by omega)]
      by_cases e0 : k = 0
      · subst e0
        show pt (f (if 0 < 0 then 0 else 0 + 1)) = _
        rw [if_pos rfl, if_neg (by omega)]; unfold nx; rw [if_neg (by omega)]
      · show pt (f (if 0 < k then 0 else 0 + 1)) = _
        rw [if_neg e0, if_pos (by omega)]
    rw [e]
    have e2 : (((xs.eraseIdx k).length : Nat) : Int) = (xs.length : Int) - 1 := by rw [e3]; omega
    rw [e2]
    exact hB
  · intro j hj
    have hj' : j < xs.length - 1 := by omega
    generalize ho : (if j < k then j else j + 1) = o
    have hok : o ≠ k := by rw [← ho]; split <;> omega
    have hol : o < xs.length := by rw [← ho]; split <;> omega
    have hb := hN o hol hok
    have x1 : (xs.eraseIdx k)[j] = xs[o] := by
      rw [List.getElem_eraseIdx]
      subst ho
      split
      · simp
      · simp
    rw [x1, e3]
    have hin := fun i (hi : i < xs.length) => (show f o = f i ↔ o = i from ⟨fun e => h.inj o i hol hi e, fun e => by rw [e]⟩)
    have i1 := hin _ (nx_lt hk)
    have i2 := hin _ (pv_lt hk)
    have p1 : (if f o = f (nx xs.length k) then pt (f (pv xs.length k)) else pt (f (pv xs.length o))) = pt (f (if pv (xs.length - 1) j < k then pv (xs.length - 1) j else pv (xs.length - 1) j + 1)) := by
      by_cases c : o = nx xs.length k
      · rw [if_pos (i1.2 c)]
        congr 3
        subst ho
        unfold nx at c
        unfold pv
        split at c <;> split at c <;> (repeat' split) <;> omega
      · rw [if_neg (fun e => c (i1.1 e))]
        congr 3
        subst ho
        unfold nx at c
        unfold pv
        split at c <;> split at c <;> (repeat' split) <;> omega
    have p2 : (if f o = f (pv xs.length k) then pt (f (nx xs.length k)) else pt (f (nx xs.length o))) = pt (f (if nx (xs.length - 1) j < k then nx (xs.length - 1) j else nx (xs.length - 1) j + 1)) := by
      by_cases c : o = pv xs.length k
      · rw [if_pos (i2.2 c)]
        congr 3
        subst ho
        unfold pv at c
        unfold nx
        split at c <;> split at c <;> (repeat' split) <;> omega
      · rw [if_neg (fun e => c (i2.1 e))]
        congr 3
        subst ho
        unfold pv at c
        unfold nx
        split at c <;> split at c <;> (repeat' split) <;> omega
    rw [p1, p2] at hb
    exact hb
  · intro i j hi hj hf
    have h1 : i < xs.length - 1 := by omega
    have h2 : j < xs.length - 1 := by omega
    have := h.inj _ _ (show (if i < k then i else i + 1) < xs.length by split <;> omega) (show (if j < k then j else j + 1) < xs.length by split <;> omega) hf
    split at this <;> split at this <;> omega
  · intro i hi
    exact h.ge _ (show (if i < k then i else i + 1) < xs.length by split <;> omega)
theorem drop_foot {B k n m : Nat} {f : Nat → Nat} : ∀ j, footR B (fun i => f (if i < k then i else i + 1)) (n - 1) j → footR B f n j ∨ m ≤ j := by
  rintro j (e | ⟨i, hi, e⟩)
  · exact .inl (.inl e)
  · exact .inl (.inr ⟨_, by split <;> omega, e⟩)

/-- the first goes behind all others -/
theorem next_fin {w w' : World} {base B : Nat} {f : Nat → Nat} {xs : List Int} (h : PRing w base B f xs) (hn : 0 < xs.length) (hs : w.heap.size ≤ w'.heap.size)
    (hB : Blk w' B 112 [pt (f (nx xs.length 0)), .int .i64 (xs.length : Int)])
    (hN : ∀ i (h : i < xs.length), Blk w' (f i) 172 [.int .i64 xs[i], pt (f (pv xs.length i)), pt (f (nx xs.length i))]) :
    PRing w' base B (fun i => f (nx xs.length i)) (nextL xs) := by
  have e3 : (nextL xs).length = xs.length := by unfold nextL; simp; omega
  refine ⟨?_, ?_, ?_, ?_, h.le, Nat.le_trans h.base hs⟩
  · have e : hdF (fun i => f (nx xs.length i)) (nextL xs).length = pt (f (nx xs.length 0)) := by
      unfold hdF
      rw [e3, if_neg (by omega)]
    rw [e, e3]
    exact hB
  · intro j hj
    have hj' : j < xs.length := by omega
    have hb := hN (nx xs.length j) (nx_lt hj')
    have x1 : (nextL xs)[j] = xs[nx xs.length j]'(nx_lt hj') := by
      have hj2 : j < (xs.drop 1 ++ xs.take 1).length := hj
      show (xs.drop 1 ++ xs.take 1)[j]'hj2 = _
      by_cases c : j + 1 = xs.length
      · have hx : nx xs.length j = 0 := by unfold nx; rw [if_pos c]
        simp only [hx]
        rw [List.getElem_append_right (by simp; omega)]
        simp
        congr 1
        omega
      · have hx : nx xs.length j = j + 1 := by unfold nx; rw [if_neg c]
        simp only [hx]
        rw [List.getElem_append_left (by simp; omega)]
        simp
    have x2 : pv xs.length (nx xs.length j) = nx xs.length (pv xs.length j) := by unfold pv nx; (repeat' split) <;> omega
    rw [x1, e3]
    rw [x2] at hb
    exact hb
  · intro i j hi hj hf
    have h1 : i < xs.length := by omega
    have h2 : j < xs.length := by omega
    have := h.inj _ _ (nx_lt h1) (nx_lt h2) hf
    unfold nx at this
    split at this <;> split at this <;> omega
  · intro i hi
    exact h.ge _ (nx_lt (by omega))
theorem next_foot {B n m : Nat} {f : Nat → Nat} : ∀ j, footR B (fun i => f (nx n i)) n j → footR B f n j ∨ m ≤ j := by
  rintro j (e | ⟨i, hi, e⟩)
  · exact .inl (.inl e)
  · exact .inl (.inr ⟨_, nx_lt hi, e⟩)
end Go.Proofs.Ytbjhedfgnocflaa
