/-
  THE LAW LebSays: the program's writers and the reference's are one, for all numbers. No condition.
-/
import Derived.Test.YtbjhedfgnocflaaLebU
import Derived.Test.YtbjhedfgnocflaaOpen
namespace Go.Proofs.Ytbjhedfgnocflaa
open Go.RowKit

theorem kS_cond (k : Nat) (n : Int) : (n / 2 ^ (7 * (k + 1) - 1) = 0 ∨ n / 2 ^ (7 * (k + 1) - 1) = -1) ↔ (n / 2 ^ (7 * k) / 64 = 0 ∨ n / 2 ^ (7 * k) / 64 = -1) := by
  have e : n / 2 ^ (7 * (k + 1) - 1) = n / 2 ^ (7 * k) / 64 := by
    rw [show 7 * (k + 1) - 1 = 7 * k + 6 by omega, Int.pow_add, ← Int.ediv_ediv_of_nonneg (Int.pow_nonneg (by decide))]
    rfl
  rw [e]
theorem div_step (k : Nat) (n : Int) : n / 2 ^ (7 * (k + 1)) = n / 128 / 2 ^ (7 * k) := by
  rw [show 7 * (k + 1) = 7 + 7 * k by omega, Int.pow_add, ← Int.ediv_ediv_of_nonneg (by decide)]
  rfl
theorem kS_shift (f : Nat) : ∀ (k : Nat) (n : Int), kS f (k + 2) n = kS f (k + 1) (n / 128) + 1 := by
  induction f with
  | zero => intro k n; simp [kS]
  | succ f ih =>
    intro k n
    rw [kS, kS]
    have h1 := kS_cond (k + 1) n
    have h2 := kS_cond k (n / 128)
    rw [div_step] at h1
    rw [show k + 2 = k + 1 + 1 by omega]
    by_cases hc : n / 128 / 2 ^ (7 * k) / 64 = 0 ∨ n / 128 / 2 ^ (7 * k) / 64 = -1
    · rw [if_pos (h1.2 hc), if_pos (h2.2 hc)]
    · rw [if_neg (fun h => hc (h1.1 h)), if_neg (fun h => hc (h2.1 h)), ih (k + 1)]

theorem byteS_succ (n : Int) (K i : Nat) : byteS n (K + 1) (i + 1) = byteS (n / 128) K i := by
  unfold byteS
  rw [div_step]
  congr 2
  simp

theorem encS_eq (f : Nat) : ∀ n : Int, encS f n = (List.range (kS f 1 n)).map (byteS n (kS f 1 n)) := by
  induction f with
  | zero => intro n; simp [encS, kS, byteS, List.range_succ]
  | succ f ih =>
    intro n
    have hc := kS_cond 0 n
    simp only [Nat.mul_zero, Int.pow_zero, Int.ediv_one] at hc
    rw [encS, kS]
    by_cases h : -64 ≤ n ∧ n < 64
    · rw [if_pos h, if_pos (hc.2 (by omega))]
      simp [byteS, List.range_succ]
    · have hc' : ¬ (n / 2 ^ (7 * 1 - 1) = 0 ∨ n / 2 ^ (7 * 1 - 1) = -1) := fun h' => by
        rcases hc.1 h' with h2 | h2 <;> omega
      rw [if_neg h, if_neg hc', kS_shift f 0 n, ih, List.range_succ_eq_map, List.map_cons, List.map_map]
      have h1 : 1 ≤ kS f (0 + 1) (n / 128) := (kS_le f 1 (n / 128)).1
      congr 1
      · unfold byteS
        rw [if_pos (by omega)]
        simp
      · apply List.map_congr_left
        intro i _
        exact (byteS_succ n _ i).symm

set_option maxRecDepth 100000 in
set_option maxHeartbeats 1000000 in
theorem law_LebSays (v0 v1 : Value) (x0 x1 : Int) (W : World) (i0 : IsInt .u64 W v0 x0) (i1 : IsInt .i64 W v1 x1) :
    Calls Try.prog 5 #[v0, v1] W fun e w' => e = .returned (.bool true) ∧ Below W.heap.size W w' := by
  obtain ⟨rfl, h0⟩ := i0
  obtain ⟨rfl, h1⟩ := i1
  have h0' : 0 ≤ x0 ∧ x0 < 18446744073709551616 := by simp [Lit.wf, IntKind.min, IntKind.max, IntKind.signed, IntKind.bits] at h0; omega
  have h1' : -9223372036854775808 ≤ x1 ∧ x1 < 9223372036854775808 := by simp [Lit.wf, IntKind.min, IntKind.max, IntKind.signed, IntKind.bits] at h1; omega
  clear h0 h1
  obtain ⟨n, rfl⟩ := Int.eq_ofNat_of_zero_le h0'.1
  have hn : n < 18446744073709551616 := by omega
  have c1 := fun w => lebU_any n w hn
  have c2 := fun w => refLebU 9 n w hn (by omega) (by omega)
  have c3 := fun w => lebS_any x1 w h1'.1 h1'.2
  have c4 := fun w => refLebS x1 w
  rw [← encS_eq] at c4
  generalize S (encU 9 n) = a at *
  generalize S (encS 9 x1) = b at *
  have C1 := hid c1
  have C2 := hid c2
  have C3 := hid c3
  have C4 := hid c4
  clear c1 c2 c3 c4 hn h0' h1'
  go_enter Try.func5, Try.ntmps5
  go_wp2_with fail
  refine (C1.out _).mono ?_
  rintro e w1 ⟨rfl, b1⟩
  go_wp2_with fail
  refine (C2.out _).mono ?_
  rintro e w2 ⟨rfl, b2⟩
  go_wp2_with fail
  refine (C3.out _).mono ?_
  rintro e w3 ⟨rfl, b3⟩
  go_wp2_with fail
  refine (C4.out _).mono ?_
  rintro e w4 ⟨rfl, b4⟩
  go_wp2_with fail
  go_ret
  have s1 := b1.size
  have s2 := b2.size
  have s3 := b3.size
  exact ⟨rfl, b1.trans ((b2.mono (by omega)).trans ((b3.mono (by omega)).trans (b4.mono (by omega))))⟩
end Go.Proofs.Ytbjhedfgnocflaa
