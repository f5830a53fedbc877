/-
  WHAT THE LAWS OVER STEPS SHARE: a list of flat structs as an argument; the number of a step. No condition.
-/
import Derived.Test.YtnifgmijjggjjaaDoorRowK
import Derived.Test.YtnifgmijjggjjaaDoorGAsmSays1
import Derived.Test.YtnifgmijjggjjaaDoorGAsmSays4
import Derived.Test.YtnifgmijjggjjaaDoorStepS
import Derived.Test.YtnifgmijjggjjaaDoorInG
import Derived.IntWalk
import Derived.Lib.OthersKept
namespace Go.Proofs.YtnifgmijjggjjaaDoor
open Go.RowKit

theorem flat_of {α : Type} (enc : α → List Value) : ∀ (css : List (List Value)) (ys : List α), css.length = ys.length → (∀ i (h1 : i < css.length) (h2 : i < ys.length), css[i] = enc ys[i]) → css.flatten = ys.flatMap enc := by
  intro css
  induction css with
  | nil => intro ys hl _; cases ys with
    | nil => rfl
    | cons _ _ => simp at hl
  | cons c r ih =>
    intro ys hl h
    cases ys with
    | nil => simp at hl
    | cons y ys =>
      have h0 := h 0 (by simp) (by simp)
      simp only [List.getElem_cons_zero] at h0
      rw [List.flatten_cons, List.flatMap_cons, h0, ih ys (by simpa using hl) (fun i h1 h2 => by have := h (i + 1) (by simpa using h1) (by simpa using h2); simpa using this)]
theorem slice_flat {W : World} {s bytes : Nat} {α : Type} {R : List Value → α → Prop} {v : Value} {ys : List α} (enc : α → List Value) (Q : α → Prop) (h : ∀ cs y, R cs y → cs = enc y ∧ Q y) (hs : sliceR W s bytes R [v] ys) : Lk enc W v ys ∧ (∀ y ∈ ys, Q y) ∧ ys.length * bytes ≤ 140737488351232 := by
  obtain ⟨v', css, hv, hsl, hl, hb, hel⟩ := hs
  simp only [List.cons.injEq, and_true] at hv
  subst hv
  refine ⟨?_, ?_, hb⟩
  · rw [flat_of enc css ys hl (fun i h1 h2 => (h _ _ (hel i h1 h2).2).1)] at hsl
    exact hsl
  · intro y hy
    obtain ⟨i, hi, rfl⟩ := List.getElem_of_mem hy
    exact (h _ _ (hel i (by omega) hi).2).2

theorem wf_i64 {n : Int} (h : (Lit.int .i64 n).wf = true) : -9223372036854775808 ≤ n ∧ n ≤ 9223372036854775807 := by
  simpa [Lit.wf, IntKind.min, IntKind.max, IntKind.signed, IntKind.bits] using h
theorem wf_u64 {n : Int} (h : (Lit.int .u64 n).wf = true) : 0 ≤ n ∧ n ≤ 18446744073709551615 := by
  simpa [Lit.wf, IntKind.min, IntKind.max, IntKind.signed, IntKind.bits] using h

theorem rest_neg {n m : Int} (hm : 1 ≤ m) (h : n.tmod m < 0) : n % m = n.tmod m + m := by
  rw [Int.emod_eq_tmod]
  have hn : ¬ (0 ≤ n ∨ m ∣ n) := by
    rintro (h1 | h1)
    · have := Int.tmod_nonneg m h1; omega
    · have := Int.tmod_eq_zero_of_dvd h1; omega
  rw [if_neg hn]
  omega
theorem rest_pos {n m : Int} (_ : 1 ≤ m) (h : 0 ≤ n.tmod m) : n % m = n.tmod m := by
  rw [Int.emod_eq_tmod]
  by_cases hn : 0 ≤ n ∨ m ∣ n
  · rw [if_pos hn]; omega
  · have h1 : ¬ 0 ≤ n := fun h => hn (.inl h)
    have h2 : ¬ m ∣ n := fun h => hn (.inr h)
    have h3 : n.tmod m ≤ 0 := by
      have := Int.tmod_nonneg m (by omega : 0 ≤ -n)
      rw [Int.neg_tmod] at this; omega
    have h4 : n.tmod m = 0 := by omega
    exact absurd (Int.dvd_of_tmod_eq_zero h4) h2

end Go.Proofs.YtnifgmijjggjjaaDoor
namespace Go.Proofs.YtnifgmijjggjjaaDoor
open Go.RowKit Go.Lib
attribute [local go_sem ↓] Go.wp_at_zero Go.wp_at_succ

/-- what is there once j of the numbers are written -/
def w4 (op n : Nat) (xs : List Int) (j : Nat) : List UInt8 := byteOf (op : Int) :: (encU 9 n ++ (xs.take j).flatMap (fun m => encU 9 m.toNat))
theorem w4_next {op n : Nat} {xs : List Int} {j : Nat} (h : j < xs.length) : w4 op n xs (j + 1) = w4 op n xs j ++ encU 9 (xs[j]).toNat := by
  unfold w4
  rw [List.take_succ_eq_append_getElem h, List.flatMap_append]
  simp
theorem w4_len (op n : Nat) (xs : List Int) : ∀ j, (w4 op n xs j).length ≤ 11 + 10 * j
  | 0 => by have := encU_len 9 n; simp [w4]; omega
  | j + 1 => by
    by_cases h : j < xs.length
    · rw [w4_next h, List.length_append]
      have h1 := w4_len op n xs j
      have h2 := encU_len 9 (xs[j]).toNat
      omega
    · have e : w4 op n xs (j + 1) = w4 op n xs j := by unfold w4; rw [List.take_of_length_le (by omega), List.take_of_length_le (by omega)]
      rw [e]
      have h1 := w4_len op n xs j
      omega

end Go.Proofs.YtnifgmijjggjjaaDoor
namespace Go.Proofs.YtnifgmijjggjjaaDoor
open Go.RowKit Go.Lib
attribute [local go_sem ↓] Go.wp_at_zero Go.wp_at_succ

end Go.Proofs.YtnifgmijjggjjaaDoor
namespace Go.Proofs.YtnifgmijjggjjaaDoor
open Go.RowKit Go.Lib
attribute [local go_sem ↓] Go.wp_at_zero Go.wp_at_succ

theorem elem_i64w : Elem Tryd.prog 43 2 (.int .i64 0) 1 8 := ⟨Tryd.underlying43, by kernel_rfl, rfl, by decide⟩
set_option maxRecDepth 100000 in
set_option maxHeartbeats 1000000 in
theorem copy_i64 (v : Value) (xs : List Int) (w : World) (hv : Ints w .i64 v xs) (hl : xs.length ≤ 1000) :
    Calls Tryd.prog 21 #[v] w fun e w' => ∃ v', e = .returned v' ∧ OwnI w' w.heap.size .i64 2 v' xs ∧ Below w.heap.size w w' := by
  have HV := hid hv
  clear hv
  go_enter Tryd.func21, Tryd.ntmps21
  go_wp2_with (at_builtin; go_must (refine app_ints elem_i64w (base := w.heap.size) rfl _ _ rfl rfl rfl (OwnI.nil _ _ _ _) HV.out (by simp; omega) (by simp; omega) (Nat.le_refl _) ?_); intro v' w' ho hb2 _)
  go_ret
  rw [List.nil_append] at ho
  exact ⟨_, rfl, ho, hb2⟩
theorem blk_at1 {w : World} {b : Nat} {ty : TypeId} {c : Value} (h : Blk w b ty [c]) : At w b 0 [c] := by
  intro j hj
  have e : j = 0 := by simp at hj; omega
  subst e
  exact h.cell (i := 0) rfl
/-- what is there once j of the numbers, the last one A, are written -/
theorem w4_end (op n : Nat) (xs : List Int) (A B : Int) (hn : xs.length = n) : w4 op n (xs ++ [A]) (n + 1) = wrI 4 op A B xs := by
  unfold w4 wrI wrB
  rw [List.take_of_length_le (by simp; omega), List.flatMap_append]
  simp [hn]

end Go.Proofs.YtnifgmijjggjjaaDoor
