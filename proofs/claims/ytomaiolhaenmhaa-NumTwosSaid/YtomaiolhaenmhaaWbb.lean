/-
  BITS AS LISTS: what the bit by bit instructions give, as BitVec. Plain; condition: the number of the instruction is 7 to 14, the move is less than the width.
-/
import Derived.Test.YtomaiolhaenmhaaWba
namespace Go.Proofs.Ytomaiolhaenmhaa
open Go.RowKit

def bwV {n : Nat} (which : Nat) (a b : BitVec n) (k : Nat) : BitVec n :=
  match which with
  | 7 => a &&& b
  | 8 => a ||| b
  | 9 => a ^^^ b
  | 10 => a <<< k
  | 11 => a.sshiftRight k
  | 12 => a >>> k
  | 13 => a.rotateLeft k
  | _ => a.rotateRight k
theorem bw_bl {n : Nat} (which : Nat) (a b : BitVec n) (k : Nat) (hk : k < n) (h : 7 ≤ which ∧ which ≤ 14) : (List.range n).map (bwF which a b k) = bl (bwV which a b k) := by
  unfold bl
  apply List.map_congr_left
  intro i hi
  rw [List.mem_range] at hi
  rcases (by omega : which = 7 ∨ which = 8 ∨ which = 9 ∨ which = 10 ∨ which = 11 ∨ which = 12 ∨ which = 13 ∨ which = 14) with rfl | rfl | rfl | rfl | rfl | rfl | rfl | rfl
  · simp [bwF, bwV]
  · simp [bwF, bwV]
  · simp [bwF, bwV]
  · simp only [bwF, bwV, BitVec.getLsbD_shiftLeft]
    by_cases h : k ≤ i
    · simp [h, hi]
    · simp [h]
  · simp only [bwF, bwV, BitVec.getLsbD_sshiftRight, BitVec.msb_eq_getLsbD_last]
    by_cases h : k + i < n
    · rw [Nat.min_eq_right (by omega), if_pos h, Nat.add_comm]; simp [hi]
    · rw [Nat.min_eq_left (by omega), if_neg h]; simp [hi]
  · simp only [bwF, bwV, BitVec.getLsbD_ushiftRight]
    by_cases h : i + k < n
    · rw [decide_eq_true h, Bool.true_and, Nat.add_comm]
    · simp [h]; rw [BitVec.getLsbD_of_ge]; omega
  · simp only [bwF, bwV, BitVec.getLsbD_rotateLeft, Nat.mod_eq_of_lt hk]
    by_cases h : i < k
    · have e : (i + n - k) % n = n - k + i := by rw [Nat.mod_eq_of_lt (by omega)]; omega
      simp [h, e]
    · have e : (i + n - k) % n = i - k := by rw [show i + n - k = (i - k) + n by omega, Nat.add_mod_right, Nat.mod_eq_of_lt (by omega)]
      simp [h, e, hi]
  · simp only [bwF, bwV, BitVec.getLsbD_rotateRight, Nat.mod_eq_of_lt hk]
    by_cases h : i < n - k
    · have e : (i + k) % n = k + i := by rw [Nat.mod_eq_of_lt (by omega)]; omega
      simp [h, e]
    · have e : (i + k) % n = i - (n - k) := by rw [show i + k = (i - (n - k)) + n by omega, Nat.add_mod_right, Nat.mod_eq_of_lt (by omega)]
      simp [h, e, hi]
end Go.Proofs.Ytomaiolhaenmhaa
