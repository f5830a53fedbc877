/-
  BITS AS LISTS: a division by hand, step by step. Plain; no condition; no program.
-/
import Derived.Test.YtomaiolhaenmhaaWdt
namespace Go.Proofs.Ytomaiolhaenmhaa
open Go.RowKit

def bitN (x : Bool) : Nat := if x = true then 1 else 0
theorem bitN_le (x : Bool) : bitN x ≤ 1 := by cases x <;> simp [bitN]
/-- the rest and the quotient once the bits from k on are taken -/
def rK {n : Nat} (b c : BitVec n) (k : Nat) : BitVec (n + 1) := BitVec.ofNat (n + 1) (b.toNat / 2 ^ k % c.toNat)
def qK {n : Nat} (b c : BitVec n) (k : Nat) : BitVec n := BitVec.ofNat n (b.toNat / 2 ^ k / c.toNat * 2 ^ k)
/-- the rest with one more bit taken, before the comparison -/
def rS {n : Nat} (b c : BitVec n) (j : Nat) : BitVec (n + 1) := BitVec.ofNat (n + 1) (2 * (b.toNat / 2 ^ (j + 1) % c.toNat) + bitN (b.getLsbD j))
def wideK {n : Nat} (c : BitVec n) : BitVec (n + 1) := c.setWidth (n + 1)

theorem wide_bl {n : Nat} (c : BitVec n) : bl c ++ [false] = bl (wideK c) := by
  apply bl_eq
  · simp [bl_length]
  · intro i hi
    simp [bl_length] at hi
    unfold wideK
    rw [BitVec.getLsbD_setWidth]
    by_cases h : i < n
    · rw [List.getElem_append_left (by simpa [bl_length] using h), bl_get]
      simp; omega
    · obtain rfl : i = n := by omega
      rw [List.getElem_append_right (by simp [bl_length])]
      simp [bl_length]
theorem wide_toNat {n : Nat} (c : BitVec n) : (wideK c).toNat = c.toNat := by
  unfold wideK
  rw [BitVec.toNat_setWidth]
  have h1 := c.isLt
  exact Nat.mod_eq_of_lt (by rw [Nat.pow_succ]; omega)
theorem c_pos {n : Nat} {c : BitVec n} (h : c ≠ 0#n) : 0 < c.toNat := by
  rcases Nat.eq_zero_or_pos c.toNat with h0 | h0
  · exact absurd (BitVec.eq_of_toNat_eq (by simpa using h0)) h
  · exact h0
theorem rK_toNat {n : Nat} (b c : BitVec n) (k : Nat) (hc : 0 < c.toNat) : (rK b c k).toNat = b.toNat / 2 ^ k % c.toNat := by
  unfold rK
  rw [BitVec.toNat_ofNat]
  have h1 := c.isLt
  have h2 := Nat.mod_lt (b.toNat / 2 ^ k) hc
  have h4 : 2 ^ (n + 1) = 2 * 2 ^ n := by rw [Nat.pow_succ, Nat.mul_comm]
  exact Nat.mod_eq_of_lt (by omega)
theorem rS_toNat {n : Nat} (b c : BitVec n) (j : Nat) (hc : 0 < c.toNat) : (rS b c j).toNat = 2 * (b.toNat / 2 ^ (j + 1) % c.toNat) + bitN (b.getLsbD j) := by
  unfold rS
  rw [BitVec.toNat_ofNat]
  have h1 := c.isLt
  have h2 := Nat.mod_lt (b.toNat / 2 ^ (j + 1)) hc
  have h3 := bitN_le (b.getLsbD j)
  have h4 : 2 ^ (n + 1) = 2 * 2 ^ n := by rw [Nat.pow_succ, Nat.mul_comm]
  exact Nat.mod_eq_of_lt (by omega)
theorem qK_toNat {n : Nat} (b c : BitVec n) (k : Nat) (_ : 0 < c.toNat) : (qK b c k).toNat = b.toNat / 2 ^ k / c.toNat * 2 ^ k := by
  unfold qK
  rw [BitVec.toNat_ofNat]
  have h1 := b.isLt
  have h2 := Nat.div_le_self (b.toNat / 2 ^ k) c.toNat
  have h3 : b.toNat / 2 ^ k / c.toNat * 2 ^ k ≤ b.toNat / 2 ^ k * 2 ^ k := Nat.mul_le_mul_right _ h2
  have h4 := Nat.div_mul_le_self b.toNat (2 ^ k)
  exact Nat.mod_eq_of_lt (by omega)
theorem rK_start {n : Nat} (b c : BitVec n) : rK b c n = 0#(n + 1) := by
  unfold rK
  rw [Nat.div_eq_of_lt b.isLt, Nat.zero_mod]
theorem qK_start {n : Nat} (b c : BitVec n) : qK b c n = 0#n := by
  unfold qK
  rw [Nat.div_eq_of_lt b.isLt, Nat.zero_div, Nat.zero_mul]
theorem qK_end {n : Nat} (b c : BitVec n) (hc : 0 < c.toNat) : qK b c 0 = b / c := by
  apply BitVec.eq_of_toNat_eq
  rw [qK_toNat b c 0 hc, BitVec.toNat_udiv]
  simp
theorem rK_end {n : Nat} (b c : BitVec n) (hc : 0 < c.toNat) : (bl (rK b c 0)).take n = bl (b % c) := by
  apply bl_eq
  · rw [List.length_take, bl_length]; omega
  · intro i hi
    rw [List.length_take, bl_length] at hi
    rw [List.getElem_take, bl_get, ← BitVec.testBit_toNat, ← BitVec.testBit_toNat, rK_toNat b c 0 hc, BitVec.toNat_umod]
    simp
theorem rS_set {n : Nat} (b c : BitVec n) (j : Nat) (hc : 0 < c.toNat) : (bl (rK b c (j + 1) <<< 1)).set 0 (b.getLsbD j) = bl (rS b c j) := by
  apply bl_set
  intro i hi
  rw [BitVec.getLsbD_shiftLeft, ← BitVec.testBit_toNat (x := rS b c j), rS_toNat b c j hc, ← BitVec.testBit_toNat (x := rK b c (j + 1)), rK_toNat b c _ hc]
  generalize b.toNat / 2 ^ (j + 1) % c.toNat = r
  cases i with
  | zero => cases b.getLsbD j <;> simp [Nat.testBit_eq_decide_div_mod_eq, bitN] <;> omega
  | succ i =>
    rw [if_neg (by omega), Nat.testBit_succ]
    have h3 := bitN_le (b.getLsbD j)
    have e : (2 * r + bitN (b.getLsbD j)) / 2 = r := by omega
    rw [e]
    have h1 : ¬ i + 1 < 1 := by omega
    simp [hi]
theorem rS_less {n : Nat} (b c : BitVec n) (j : Nat) (hc : 0 < c.toNat) : (rS b c j).ult (wideK c) = decide (2 * (b.toNat / 2 ^ (j + 1) % c.toNat) + bitN (b.getLsbD j) < c.toNat) := by
  unfold BitVec.ult
  rw [rS_toNat b c j hc, wide_toNat]
theorem hand_at {n : Nat} (b c : BitVec n) (j : Nat) (hc : 0 < c.toNat) :
    (b.toNat / 2 ^ j % c.toNat = if c.toNat ≤ 2 * (b.toNat / 2 ^ (j + 1) % c.toNat) + bitN (b.getLsbD j) then 2 * (b.toNat / 2 ^ (j + 1) % c.toNat) + bitN (b.getLsbD j) - c.toNat else 2 * (b.toNat / 2 ^ (j + 1) % c.toNat) + bitN (b.getLsbD j)) ∧
    (b.toNat / 2 ^ j / c.toNat = if c.toNat ≤ 2 * (b.toNat / 2 ^ (j + 1) % c.toNat) + bitN (b.getLsbD j) then 2 * (b.toNat / 2 ^ (j + 1) / c.toNat) + 1 else 2 * (b.toNat / 2 ^ (j + 1) / c.toNat)) := by
  have h := div_hand (b.toNat / 2 ^ (j + 1)) c.toNat (bitN (b.getLsbD j)) hc (bitN_le _)
  have hs := div_step b.toNat j
  rw [BitVec.testBit_toNat] at hs
  rw [hs]
  exact h
theorem step_less {n : Nat} (b c : BitVec n) (j : Nat) (hc : 0 < c.toNat) (h : (rS b c j).ult (wideK c) = true) : rS b c j = rK b c j ∧ qK b c (j + 1) = qK b c j := by
  rw [rS_less b c j hc, decide_eq_true_iff] at h
  have hh := hand_at b c j hc
  rw [if_neg (by omega), if_neg (by omega)] at hh
  constructor
  · apply BitVec.eq_of_toNat_eq
    rw [rS_toNat b c j hc, rK_toNat b c j hc, hh.1]
  · apply BitVec.eq_of_toNat_eq
    rw [qK_toNat b c _ hc, qK_toNat b c _ hc, hh.2]
    generalize b.toNat / 2 ^ (j + 1) / c.toNat = q
    rw [Nat.pow_succ, Nat.mul_comm 2 q, Nat.mul_assoc, Nat.mul_comm 2 (2 ^ j)]
theorem step_more {n : Nat} (b c : BitVec n) (j : Nat) (hc : 0 < c.toNat) (h : (rS b c j).ult (wideK c) = false) : rS b c j - wideK c = rK b c j ∧ (bl (qK b c (j + 1))).set j true = bl (qK b c j) := by
  rw [rS_less b c j hc, decide_eq_false_iff_not] at h
  have hh := hand_at b c j hc
  rw [if_pos (by omega), if_pos (by omega)] at hh
  constructor
  · apply BitVec.eq_of_toNat_eq
    have hle : wideK c ≤ rS b c j := by rw [BitVec.le_def, rS_toNat b c j hc, wide_toNat]; omega
    rw [BitVec.toNat_sub_of_le hle, rS_toNat b c j hc, wide_toNat, rK_toNat b c j hc, hh.1]
  · apply bl_set
    intro i hi
    rw [← BitVec.testBit_toNat (x := qK b c j), ← BitVec.testBit_toNat (x := qK b c (j + 1)), qK_toNat b c _ hc, qK_toNat b c _ hc, hh.2]
    generalize b.toNat / 2 ^ (j + 1) / c.toNat = q
    rw [Nat.testBit_mul_two_pow, Nat.testBit_mul_two_pow]
    by_cases e : i = j
    · subst e
      simp [Nat.testBit_eq_decide_div_mod_eq]
    · rw [if_neg e]
      by_cases hlt : i < j
      · have h1 : ¬ j ≤ i := by omega
        have h2 : ¬ j + 1 ≤ i := by omega
        simp [h1, h2]
      · have h1 : j ≤ i := by omega
        have h2 : j + 1 ≤ i := by omega
        obtain ⟨d, rfl⟩ : ∃ d, i = j + 1 + d := ⟨i - (j + 1), by omega⟩
        rw [show j + 1 + d - j = d + 1 by omega, show j + 1 + d - (j + 1) = d by omega, Nat.testBit_succ]
        have e2 : (2 * q + 1) / 2 = q := by omega
        rw [e2]
        simp [h1]
end Go.Proofs.Ytomaiolhaenmhaa
