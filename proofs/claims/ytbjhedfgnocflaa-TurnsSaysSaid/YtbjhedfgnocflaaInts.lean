/-
  SLICES OF int: the element, Copy, prefixes and tails. Condition: lengths in the form's reach.
-/
import Derived.Test.YtbjhedfgnocflaaRowK
namespace Go.Proofs.Ytbjhedfgnocflaa
open Go.RowKit Go.Lib

theorem elem_i64 : Elem Try.prog 24 3 (.int .i64 0) 1 8 := ⟨Try.underlying24, by kernel_rfl, rfl, by decide⟩
set_option maxRecDepth 100000 in
theorem copy_i64 (v : Value) (xs : List Int) (w : World) (hv : Ints w .i64 v xs) (hl : xs.length * 8 ≤ 140737488355328) :
    Calls Try.prog 74 #[v] w fun e w' => ∃ v', e = .returned v' ∧ OwnI w' w.heap.size .i64 3 v' xs ∧ Below w.heap.size w w' := by
  have HV := hid hv
  clear hv
  go_enter Try.func74, Try.ntmps74
  go_wp2_with (at_builtin; go_must (refine app_ints elem_i64 (base := w.heap.size) rfl _ _ rfl rfl rfl (OwnI.nil _ _ _ _) HV.out (by simp; omega) (by simp; omega) (Nat.le_refl _) ?_); intro v' w' ho hb2 _)
  go_ret
  exact ⟨_, rfl, by simpa using ho, hb2⟩

/-- the row that a box holds -/
theorem ints_prefix {w : World} {base : Nat} {k : IntKind} {e : TypeId} {g n cap : Nat} {xs : List Int} (h : OwnI w base k e (.slice (some ⟨g, 0, none⟩) n cap) xs) (hn : n = xs.length) (i : Nat) (hi : i ≤ n) :
    Ints w k (.slice (some ⟨g, 0, none⟩) i cap) (xs.take i) := by
  subst hn
  have h0 : w.ownsRow base e 1 (.slice (some ⟨g, 0, none⟩) xs.length cap) xs.length (xs.map (Value.int k)) := h
  have h1 := own_sl (own_prefix h0 i hi)
  rw [Nat.mul_one, ← List.map_take] at h1
  show Sl w _ (xs.take i).length _
  rw [List.length_take, Nat.min_eq_left hi]
  exact h1
theorem ints_tail {w : World} {base : Nat} {k : IntKind} {e : TypeId} {g n cap : Nat} {xs : List Int} (h : OwnI w base k e (.slice (some ⟨g, 0, none⟩) n cap) xs) (hn : n = xs.length) (i : Nat) (hi : i ≤ n) (o : Nat) (ho : i < cap → o = i * 1) :
    Ints w k (.slice (some ⟨g, o, none⟩) (n - i) (cap - i)) (xs.drop i) := by
  subst hn
  have h0 : w.ownsRow base e 1 (.slice (some ⟨g, 0, none⟩) xs.length cap) xs.length (xs.map (Value.int k)) := h
  have h1 := own_tail h0 i hi o ho
  rw [Nat.mul_one, ← List.map_drop] at h1
  show Sl w _ (xs.drop i).length _
  rw [List.length_drop]
  exact h1
end Go.Proofs.Ytbjhedfgnocflaa
