/-
  BITS AS LISTS: what sums, moves, comparisons and divisions do to them. Plain; no condition; no program.
-/
import Derived.Test.YtomaiolhaenmhaaWdn
namespace Go.Proofs.Ytomaiolhaenmhaa
open Go.RowKit

/-- bit k of a sum -/
theorem add_bit {n : Nat} (b c : BitVec n) (cin : Bool) (k : Nat) (hk : k < n) :
    (b + c + BitVec.setWidth n (BitVec.ofBool cin)).getLsbD k = ((b.getLsbD k != c.getLsbD k) != BitVec.carry k b c cin) := by
  rw [BitVec.getLsbD_add_add_bool hk]
  cases b.getLsbD k <;> cases c.getLsbD k <;> cases BitVec.carry k b c cin <;> rfl
theorem carry_next {n : Nat} (b c : BitVec n) (cin : Bool) (k : Nat) :
    BitVec.carry (k + 1) b c cin = ((b.getLsbD k && c.getLsbD k) || (BitVec.carry k b c cin && (b.getLsbD k || c.getLsbD k))) := by
  rw [BitVec.carry_succ]
  cases b.getLsbD k <;> cases c.getLsbD k <;> cases BitVec.carry k b c cin <;> rfl
theorem minus_eq {n : Nat} (b : BitVec n) : ~~~b + 0#n + BitVec.setWidth n (BitVec.ofBool true) = -b := by
  have h : BitVec.setWidth n (BitVec.ofBool true) = 1#n := by
    apply BitVec.eq_of_toNat_eq
    simp [BitVec.toNat_setWidth, BitVec.ofBool]
  rw [h, BitVec.add_zero, BitVec.neg_eq_not_add]
theorem sub_eq {n : Nat} (b c : BitVec n) : b + ~~~c + BitVec.setWidth n (BitVec.ofBool true) = b - c := by
  have h : BitVec.setWidth n (BitVec.ofBool true) = 1#n := by
    apply BitVec.eq_of_toNat_eq
    simp [BitVec.toNat_setWidth, BitVec.ofBool]
  rw [h, BitVec.sub_eq_add_neg, BitVec.neg_eq_not_add, BitVec.add_assoc]
theorem sum_eq {n : Nat} (b c : BitVec n) : b + c + BitVec.setWidth n (BitVec.ofBool false) = b + c := by
  have h : BitVec.setWidth n (BitVec.ofBool false) = 0#n := by
    apply BitVec.eq_of_toNat_eq
    simp [BitVec.toNat_setWidth, BitVec.ofBool]
  rw [h, BitVec.add_zero]
/-- a move upward, as lists -/
theorem up_eq {n : Nat} (b : BitVec n) (k : Nat) (hk : k ≤ n) : List.replicate k false ++ (bl b).take (n - k) = bl (b <<< k) := by
  apply bl_eq
  · rw [List.length_append, List.length_replicate, bl_take_len b _ (by omega)]; omega
  · intro i hi
    rw [List.length_append, List.length_replicate, bl_take_len b _ (by omega)] at hi
    rw [BitVec.getLsbD_shiftLeft]
    by_cases h : i < k
    · rw [List.getElem_append_left (by simpa using h)]
      simp [h]
    · rw [List.getElem_append_right (by simpa using Nat.le_of_not_lt h), List.getElem_take, bl_get, List.length_replicate]
      have h2 : i < n := by omega
      simp [h, h2]
/-- the first bit from the top that differs decides -/
theorem less_at {n : Nat} (b c : BitVec n) (k : Nat) (h : b.toNat / 2 ^ (k + 1) = c.toNat / 2 ^ (k + 1)) (hne : b.getLsbD k ≠ c.getLsbD k) : b.ult c = c.getLsbD k := by
  have hb := div_step b.toNat k
  have hc := div_step c.toNat k
  rw [BitVec.testBit_toNat] at hb hc
  have hp : 0 < 2 ^ k := Nat.two_pow_pos k
  have key : ∀ x y : Nat, x / 2 ^ k < y / 2 ^ k → x < y := by
    intro x y hxy
    exact Nat.lt_of_not_le (fun hle => by
      have := Nat.div_le_div_right (c := 2 ^ k) hle
      omega)
  unfold BitVec.ult
  cases h1 : b.getLsbD k with
  | false =>
    cases h2 : c.getLsbD k with
    | false => exact absurd (h1.trans h2.symm) hne
    | true =>
      rw [h1] at hb; rw [h2] at hc
      have : b.toNat < c.toNat := key _ _ (by simp at hb hc; omega)
      simp [this]
  | true =>
    cases h2 : c.getLsbD k with
    | true => exact absurd (h1.trans h2.symm) hne
    | false =>
      rw [h1] at hb; rw [h2] at hc
      have : c.toNat < b.toNat := key _ _ (by simp at hb hc; omega)
      simp; omega
theorem div_same {n : Nat} (b c : BitVec n) (k : Nat) (h : b.toNat / 2 ^ (k + 1) = c.toNat / 2 ^ (k + 1)) (he : b.getLsbD k = c.getLsbD k) : b.toNat / 2 ^ k = c.toNat / 2 ^ k := by
  rw [div_step b.toNat k, div_step c.toNat k, BitVec.testBit_toNat, BitVec.testBit_toNat, h, he]
/-- products: the low k bits of the second -/
def mulK {n : Nat} (b c : BitVec n) (k : Nat) : BitVec n := b * BitVec.ofNat n (c.toNat % 2 ^ k)
theorem mod_step (x k : Nat) : x % 2 ^ (k + 1) = x % 2 ^ k + (if x.testBit k = true then 2 ^ k else 0) := by
  rw [Nat.testBit_eq_decide_div_mod_eq, Nat.pow_succ, Nat.mod_mul]
  by_cases h : x / 2 ^ k % 2 = 1
  · simp [h]
  · have : x / 2 ^ k % 2 = 0 := by omega
    simp [this]
theorem mulK_zero {n : Nat} (b c : BitVec n) : mulK b c 0 = 0#n := by unfold mulK; rw [Nat.pow_zero, Nat.mod_one]; simp
theorem mulK_yes {n : Nat} (b c : BitVec n) (k : Nat) (h : c.getLsbD k = true) : mulK b c (k + 1) = mulK b c k + b <<< k := by
  unfold mulK
  rw [mod_step, BitVec.testBit_toNat, h, if_pos rfl, BitVec.ofNat_add, BitVec.mul_add]
  congr 1
  rw [BitVec.shiftLeft_eq_mul_twoPow]
  congr 1
  apply BitVec.eq_of_toNat_eq
  simp [BitVec.toNat_twoPow]
theorem mulK_no {n : Nat} (b c : BitVec n) (k : Nat) (h : c.getLsbD k = false) : mulK b c (k + 1) = mulK b c k := by
  unfold mulK
  rw [mod_step, BitVec.testBit_toNat, h, if_neg (by decide), Nat.add_zero]
theorem mulK_full {n : Nat} (b c : BitVec n) : mulK b c n = b * c := by
  unfold mulK
  rw [Nat.mod_eq_of_lt c.isLt, BitVec.ofNat_toNat, BitVec.setWidth_eq]
/-- one step of a division by hand -/
theorem div_hand (X c bit : Nat) (hc : 0 < c) (hb : bit ≤ 1) :
    ((2 * X + bit) % c = if c ≤ 2 * (X % c) + bit then 2 * (X % c) + bit - c else 2 * (X % c) + bit) ∧
    ((2 * X + bit) / c = if c ≤ 2 * (X % c) + bit then 2 * (X / c) + 1 else 2 * (X / c)) := by
  have h1 := Nat.div_add_mod X c
  have h2 := Nat.mod_lt X hc
  generalize X / c = q at *
  generalize X % c = r at *
  have e : 2 * X + bit = 2 * r + bit + c * (2 * q) := by
    rw [← h1, Nat.mul_add, Nat.mul_left_comm]; omega
  rw [e, Nat.add_mul_mod_self_left, Nat.add_mul_div_left _ _ hc]
  by_cases h : c ≤ 2 * r + bit
  · rw [if_pos h, if_pos h]
    have e2 : 2 * r + bit = (2 * r + bit - c) + c * 1 := by omega
    constructor
    · rw [e2, Nat.add_mul_mod_self_left, Nat.mod_eq_of_lt (by omega)]; omega
    · rw [e2, Nat.add_mul_div_left _ _ hc, Nat.div_eq_of_lt (by omega)]; omega
  · rw [if_neg h, if_neg h, Nat.mod_eq_of_lt (by omega), Nat.div_eq_of_lt (by omega)]
    exact ⟨rfl, by omega⟩
end Go.Proofs.Ytomaiolhaenmhaa
