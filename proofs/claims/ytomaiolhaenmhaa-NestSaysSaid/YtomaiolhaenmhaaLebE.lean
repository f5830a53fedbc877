/-
  THE REFERENCE's LebS WRITES THE SAME BYTES AS THE PROGRAM's. No condition.
-/
import Derived.Test.YtomaiolhaenmhaaLebU
namespace Go.Proofs.Ytomaiolhaenmhaa
open Go.RowKit

theorem kS_cond (k : Nat) (n : Int) : (n / 2 ^ (7 * (k + 1) - 1) = 0 ∨ n / 2 ^ (7 * (k + 1) - 1) = -1) ↔ (n / 2 ^ (7 * k) / 64 = 0 ∨ n / 2 ^ (7 * k) / 64 = -1) := by
  have e : n / 2 ^ (7 * (k + 1) - 1) = n / 2 ^ (7 * k) / 64 := by
    rw [show 7 * (k + 1) - 1 = 7 * k + 6 by omega, Int.pow_add, ← Int.ediv_ediv_of_nonneg (Int.pow_nonneg (by decide))]
    rfl
  rw [e]
theorem div_step (k : Nat) (n : Int) : n / 2 ^ (7 * (k + 1)) = n / 128 / 2 ^ (7 * k) := by
  rw [show 7 * (k + 1) = 7 + 7 * k by omega, Int.pow_add, ← Int.ediv_ediv_of_nonneg (by decide)]
  rfl
theorem kS_shift (f : Nat) : ∀ (k : Nat) (n : Int), kS f (k + 2) n = kS f (k + 1) (n / 128) + 1 := by
  induction f with
  | zero => intro k n; simp [kS]
  | succ f ih =>
    intro k n
    rw [kS, kS]
    have h1 := kS_cond (k + 1) n
    have h2 := kS_cond k (n / 128)
    rw [div_step] at h1
    rw [show k + 2 = k + 1 + 1 by omega]
    by_cases hc : n / 128 / 2 ^ (7 * k) / 64 = 0 ∨ n / 128 / 2 ^ (7 * k) / 64 = -1
    · rw [if_pos (h1.2 hc), if_pos (h2.2 hc)]
    · rw [if_neg (fun h => hc (h1.1 h)), if_neg (fun h => hc (h2.1 h)), ih (k + 1)]

theorem byteS_succ (n : Int) (K i : Nat) : byteS n (K + 1) (i + 1) = byteS (n / 128) K i := by
  unfold byteS
  rw [div_step]
  congr 2
  simp

theorem encS_eq (f : Nat) : ∀ n : Int, encS f n = (List.range (kS f 1 n)).map (byteS n (kS f 1 n)) := by
  induction f with
  | zero => intro n; simp [encS, kS, byteS, List.range_succ]
  | succ f ih =>
    intro n
    have hc := kS_cond 0 n
    simp only [Nat.mul_zero, Int.pow_zero, Int.ediv_one] at hc
    rw [encS, kS]
    by_cases h : -64 ≤ n ∧ n < 64
    · rw [if_pos h, if_pos (hc.2 (by omega))]
      simp [byteS, List.range_succ]
    · have hc' : ¬ (n / 2 ^ (7 * 1 - 1) = 0 ∨ n / 2 ^ (7 * 1 - 1) = -1) := fun h' => by
        rcases hc.1 h' with h2 | h2 <;> omega
      rw [if_neg h, if_neg hc', kS_shift f 0 n, ih, List.range_succ_eq_map, List.map_cons, List.map_map]
      have h1 : 1 ≤ kS f (0 + 1) (n / 128) := (kS_le f 1 (n / 128)).1
      congr 1
      · unfold byteS
        rw [if_pos (by omega)]
        simp
      · apply List.map_congr_left
        intro i _
        exact (byteS_succ n _ i).symm

theorem rlebS_any (n : Int) (w : World) : Calls Try.prog 121 #[.int .i64 n] w fun e w' => e = .returned (.string (S (encS 9 n))) ∧ Below w.heap.size w w' := by
  rw [encS_eq]
  exact refLebS n w
end Go.Proofs.Ytomaiolhaenmhaa
