/-
  INSTRUCTIONS OF TWO NUMBERS, plain: what both sides give, and when a division has no place. No program.
-/
import Derived.Test.YtomaiolhaenmhaaWbe
import Derived.Test.YtomaiolhaenmhaaWbh
import Derived.Test.YtomaiolhaenmhaaWdz
namespace Go.Proofs.Ytomaiolhaenmhaa
open Go.RowKit

theorem size_nat {n : Nat} (b : BitVec n) (h0 : 0 < n) : (sizeV b).toNat = b.toInt.natAbs := by
  have hl := b.isLt
  have h2 : 2 ^ n = 2 * 2 ^ (n - 1) := by rw [← Nat.pow_succ']; congr 1; omega
  unfold sizeV
  rw [← BitVec.msb_eq_getLsbD_last]
  by_cases hm : b.msb = true
  · rw [if_pos hm, BitVec.toNat_neg, BitVec.toInt_eq_msb_cond, if_pos hm]
    rw [BitVec.msb_eq_decide, decide_eq_true_iff] at hm
    rw [h2] at hl ⊢
    generalize 2 ^ (n - 1) = P at *
    have : (2 * P - b.toNat) % (2 * P) = 2 * P - b.toNat := Nat.mod_eq_of_lt (by omega)
    rw [this]
    omega
  · rw [if_neg hm, BitVec.toInt_eq_msb_cond, if_neg hm]
    omega
theorem toInt_bd {n : Nat} (b : BitVec n) (h0 : 0 < n) : -(2 ^ (n - 1) : Nat) ≤ b.toInt ∧ b.toInt < (2 ^ (n - 1) : Nat) := by
  have hl := b.isLt
  have h2 : 2 ^ n = 2 * 2 ^ (n - 1) := by rw [← Nat.pow_succ']; congr 1; omega
  rw [BitVec.toInt_eq_toNat_cond, h2]
  rw [h2] at hl
  generalize 2 ^ (n - 1) = P at *
  split <;> omega
theorem sign_bit {n : Nat} (b : BitVec n) : b.getLsbD (n - 1) = decide (b.toInt < 0) := by
  rw [← BitVec.msb_eq_getLsbD_last, BitVec.msb_eq_toInt]
theorem ovf_iff {n : Nat} (a b : BitVec n) (h0 : 0 < n) (hb : b ≠ 0#n) : ovf a b = true ↔ (b.toInt = -1 ∧ a.toInt = -((2 ^ (n - 1) : Nat) : Int)) := by
  have ha1 := toInt_bd a h0
  have hb1 := toInt_bd b h0
  have hb0 : b.toInt ≠ 0 := fun e => hb (BitVec.eq_of_toInt_eq (by rw [e]; simp))
  unfold ovf
  rw [show (sizeV a / sizeV b).getLsbD (n - 1) = (sizeV a / sizeV b).msb from (BitVec.msb_eq_getLsbD_last _).symm, BitVec.msb_eq_decide, BitVec.toNat_udiv, size_nat a h0, size_nat b h0, sign_bit, sign_bit]
  have hP : 0 < 2 ^ (n - 1) := Nat.two_pow_pos _
  generalize 2 ^ (n - 1) = P at *
  generalize a.toInt = A at *
  generalize b.toInt = B at *
  rw [Bool.and_eq_true, beq_iff_eq, decide_eq_true_iff, decide_eq_decide]
  constructor
  · rintro ⟨h1, h2⟩
    by_cases hB : 2 ≤ B.natAbs
    · have h3 : A.natAbs / B.natAbs ≤ A.natAbs / 2 := Nat.div_le_div_left hB (by decide)
      omega
    · have h4 : B.natAbs = 1 := by omega
      rw [h4, Nat.div_one] at h2
      omega
  · rintro ⟨rfl, rfl⟩
    refine ⟨by omega, ?_⟩
    have : (-1 : Int).natAbs = 1 := rfl
    rw [this, Nat.div_one]
    omega

/-- an instruction of reckon, by its number: the number and the error -/
def rkV {n : Nat} (which : Nat) (x y : BitVec n) : BitVec n :=
  match which with
  | 0 => x + y
  | 1 => x - y
  | 2 => x * y
  | 3 => x.sdiv y
  | 4 => x / y
  | 5 => x.srem y
  | 6 => x % y
  | k => bwV k x y (y.toNat % n)
def rkE {n : Nat} (which : Nat) (x y : BitVec n) : Int :=
  if 3 ≤ which ∧ which ≤ 6 ∧ y = 0#n then 21 else if which = 3 ∧ ovf x y = true then 22 else 0
def rkN {n : Nat} (which : Nat) (x y : BitVec n) : Int := if rkE which x y = 0 then (rkV which x y).toInt else 0
/-- an instruction of two numbers -/
def twoN (op : Nat) (a b : Int) : Int :=
  if 70 ≤ op ∧ op ≤ 79 then tv (cmpF (op - 70) (BitVec.ofInt 32 a) (BitVec.ofInt 32 b))
  else if 81 ≤ op ∧ op ≤ 90 then tv (cmpF (op - 81) (BitVec.ofInt 64 a) (BitVec.ofInt 64 b))
  else if 106 ≤ op ∧ op ≤ 120 then rkN (op - 106) (BitVec.ofInt 32 a) (BitVec.ofInt 32 b)
  else if 124 ≤ op ∧ op ≤ 138 then rkN (op - 124) (BitVec.ofInt 64 a) (BitVec.ofInt 64 b)
  else 0
def twoE (op : Nat) (a b : Int) : Int :=
  if 70 ≤ op ∧ op ≤ 79 then 0
  else if 81 ≤ op ∧ op ≤ 90 then 0
  else if 106 ≤ op ∧ op ≤ 120 then rkE (op - 106) (BitVec.ofInt 32 a) (BitVec.ofInt 32 b)
  else if 124 ≤ op ∧ op ≤ 138 then rkE (op - 124) (BitVec.ofInt 64 a) (BitVec.ofInt 64 b)
  else 6

theorem toInt_32 (a : Int) : (BitVec.ofInt 32 a).toInt = wrap32 a := by
  rw [BitVec.toInt_ofInt, Int.bmod_def]
  unfold wrap32
  simp only [Nat.reducePow]
  split <;> omega
theorem toNat_32 (a : Int) : ((BitVec.ofInt 32 a).toNat : Int) = a % 4294967296 := by
  rw [BitVec.toNat_ofInt]
  simp only [Nat.reducePow]
  omega
theorem toInt_64 (a : Int) (h : -9223372036854775808 ≤ a ∧ a < 9223372036854775808) : (BitVec.ofInt 64 a).toInt = a := by
  rw [BitVec.toInt_ofInt, Int.bmod_def]
  simp only [Nat.reducePow]
  split <;> omega
theorem toNat_64 (a : Int) : ((BitVec.ofInt 64 a).toNat : Int) = a % 18446744073709551616 := by
  rw [BitVec.toNat_ofInt]
  simp only [Nat.reducePow]
  omega
theorem back_32 (v : BitVec 32) : wrap32 (v.toNat : Int) = v.toInt := by
  rw [← toInt_32, BitVec.ofInt_natCast, BitVec.ofNat_toNat]; simp
theorem back_64 (v : BitVec 64) : wrap64 (v.toNat : Int) = v.toInt := by
  have := v.isLt
  rw [BitVec.toInt_eq_toNat_cond]
  unfold wrap64
  simp only [Nat.reducePow] at *
  split <;> omega
end Go.Proofs.Ytomaiolhaenmhaa
