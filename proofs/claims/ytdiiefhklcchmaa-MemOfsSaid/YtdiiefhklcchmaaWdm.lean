/-
  BITS AS LISTS, plain lemmas: a word is the list of the bits of a BitVec, the lowest first. No condition; no program.
-/
import Derived.Test.YtdiiefhklcchmaaRow
namespace Go.Proofs.Ytdiiefhklcchmaa
open Go.RowKit

def bl {w : Nat} (b : BitVec w) : List Bool := (List.range w).map b.getLsbD
theorem bl_length {w : Nat} (b : BitVec w) : (bl b).length = w := by simp [bl]
theorem bl_get {w : Nat} (b : BitVec w) (i : Nat) (h : i < (bl b).length) : (bl b)[i] = b.getLsbD i := by simp [bl]
theorem bl_take {w : Nat} (b : BitVec w) (k : Nat) (h : k < w) : (bl b).take (k + 1) = (bl b).take k ++ [b.getLsbD k] := by
  rw [List.take_succ_eq_append_getElem (by rw [bl_length]; exact h), bl_get]
theorem bl_full {w : Nat} (b : BitVec w) : (bl b).take w = bl b := List.take_of_length_le (by rw [bl_length]; exact Nat.le_refl w)
theorem bl_take_len {w : Nat} (b : BitVec w) (k : Nat) (h : k ≤ w) : ((bl b).take k).length = k := by rw [List.length_take, bl_length]; omega
theorem bl_eq {w : Nat} {l : List Bool} {b : BitVec w} (hl : l.length = w) (h : ∀ i (hi : i < l.length), l[i] = b.getLsbD i) : l = bl b := by
  apply List.ext_getElem (by rw [bl_length, hl])
  intro i h1 h2
  rw [h i h1, bl_get]
theorem bl_inj {w : Nat} {a b : BitVec w} (h : bl a = bl b) : a = b := by
  apply BitVec.eq_of_getLsbD_eq
  intro i hi
  have h1 := bl_get a i (by rw [bl_length]; exact hi)
  have h2 := bl_get b i (by rw [bl_length]; exact hi)
  rw [← h1, ← h2]
  congr 1

theorem and_one (n : Int) : bits .and .i64 n 1 = n % 2 := by
  simp only [bits, BitVec.toNat_and]
  have e2 : (BitVec.ofInt (IntKind.i64.bits) (1 : Int)).toNat = 1 := by decide
  rw [e2, show (1 : Nat) = 2 ^ 1 - 1 by decide, Nat.and_two_pow_sub_one_eq_mod, BitVec.toNat_ofInt]
  have h : (((n % ((2 ^ IntKind.i64.bits : Nat) : Int)).toNat % 2 ^ 1 : Nat) : Int) = n % 2 := by
    show (((n % 18446744073709551616).toNat % 2 : Nat) : Int) = n % 2
    omega
  rw [h, IntKind.wrap_i64]
  omega
theorem div_bit (a : Int) (n k : Nat) (hk : k < n) : (a % (2 ^ n : Int)).toNat / 2 ^ k % 2 = (a / 2 ^ k % 2).toNat := by
  have hpk : (0 : Int) < 2 ^ k := Int.pow_pos (by decide)
  have hpn : (0 : Int) < 2 ^ n := Int.pow_pos (by decide)
  have e1 : (2 : Int) ^ n = 2 ^ k * (2 * 2 ^ (n - k - 1)) := by
    rw [← Int.mul_assoc, ← Int.pow_succ, ← Int.pow_add]
    congr 1
    omega
  have e2 : a / 2 ^ k = (a % 2 ^ n) / 2 ^ k + 2 * 2 ^ (n - k - 1) * (a / 2 ^ n) := by
    have h0 : a = a % 2 ^ n + 2 ^ k * (2 * 2 ^ (n - k - 1) * (a / 2 ^ n)) := by
      rw [← Int.mul_assoc, ← e1, Int.add_comm]
      exact (Int.mul_ediv_add_emod a (2 ^ n)).symm
    conv => lhs; rw [h0]
    rw [Int.add_mul_ediv_left _ _ (by omega)]
  have hr0 : 0 ≤ a % 2 ^ n := Int.emod_nonneg a (by omega)
  obtain ⟨r, hr⟩ := Int.eq_ofNat_of_zero_le hr0
  have e3 : ((r / 2 ^ k : Nat) : Int) = (a % 2 ^ n) / 2 ^ k := by rw [hr]; push_cast; rfl
  have e4 : a / 2 ^ k % 2 = ((r / 2 ^ k % 2 : Nat) : Int) := by
    rw [e2, ← e3, Int.mul_assoc]
    generalize 2 ^ (n - k - 1) * (a / 2 ^ n) = m
    omega
  rw [e4, hr]
  rfl
/-- bit k of a number -/
theorem word_bit (a : Int) (n k : Nat) (hk : k < n) : (bits .and .i64 (a / 2 ^ k) 1 == 1) = (BitVec.ofInt n a).getLsbD k := by
  rw [and_one, ← BitVec.testBit_toNat, Nat.testBit_eq_decide_div_mod_eq, BitVec.toNat_ofInt]
  have := div_bit a n k hk
  rw [show (((2 ^ n : Nat) : Int)) = (2 : Int) ^ n by push_cast; rfl, this]
  rw [Bool.eq_iff_iff, beq_iff_eq, decide_eq_true_iff]
  omega

theorem wrap_toInt (b : BitVec 64) : IntKind.i64.wrap (b.toNat : Int) = b.toInt := by
  rw [IntKind.wrap_i64, BitVec.toInt_eq_toNat_cond]
  have := b.isLt
  have e : (2 : Nat) ^ 64 = 18446744073709551616 := by decide
  rw [e] at *
  split <;> omega
theorem or_toInt (x y : BitVec 64) : bits .or .i64 x.toInt y.toInt = (x ||| y).toInt := by
  show IntKind.i64.wrap (((BitVec.ofInt 64 x.toInt ||| BitVec.ofInt 64 y.toInt).toNat : Nat) : Int) = _
  rw [BitVec.ofInt_toInt, BitVec.ofInt_toInt, wrap_toInt]
theorem shl_toInt (k : Nat) (hk : k < 64) : IntKind.i64.wrap (2 ^ k) = ((1#64) <<< k).toInt := by
  rw [← wrap_toInt]
  congr 1
  rw [BitVec.toNat_shiftLeft]
  have h1 : (1#64).toNat = 1 := rfl
  have h2 : 2 ^ k < 2 ^ 64 := Nat.pow_lt_pow_right (by decide) hk
  rw [h1, Nat.one_shiftLeft, Nat.mod_eq_of_lt h2]
  push_cast
  rfl
/-- the low k bits, as 64 bits -/
def lowK {w : Nat} (b : BitVec w) (k : Nat) : BitVec 64 := (b.setWidth k).setWidth 64
theorem lowK_zero {w : Nat} (b : BitVec w) : (lowK b 0).toInt = 0 := by
  have : lowK b 0 = 0#64 := by
    apply BitVec.eq_of_getLsbD_eq
    intro i hi
    simp [lowK]
  rw [this]; rfl
theorem lowK_yes {w : Nat} (b : BitVec w) (k : Nat) (hw : w ≤ 64) (hk : k < w) (h : b.getLsbD k = true) : lowK b (k + 1) = lowK b k ||| ((1#64) <<< k) := by
  apply BitVec.eq_of_getLsbD_eq
  intro i hi
  simp only [lowK, BitVec.getLsbD_setWidth, BitVec.getLsbD_or, BitVec.getLsbD_shiftLeft, BitVec.getLsbD_one]
  by_cases h1 : i < k
  · simp [h1, hi]; omega
  · by_cases h2 : i = k
    · subst h2; simp [hi, h]
    · have h3 : ¬ i < k + 1 := by omega
      have h4 : ¬ i - k = 0 := by omega
      simp [h1, h3, h4]
theorem lowK_no {w : Nat} (b : BitVec w) (k : Nat) (h : b.getLsbD k = false) : lowK b (k + 1) = lowK b k := by
  apply BitVec.eq_of_getLsbD_eq
  intro i hi
  simp only [lowK, BitVec.getLsbD_setWidth]
  by_cases h1 : i < k
  · have : i < k + 1 := by omega
    simp [h1, hi, this]
  · by_cases h2 : i = k
    · subst h2; simp [hi, h]
    · have h3 : ¬ i < k + 1 := by omega
      simp [h1, h3]
theorem lowK_full64 (b : BitVec 64) : lowK b 64 = b := by
  apply BitVec.eq_of_getLsbD_eq
  intro i hi
  simp [lowK, hi]
theorem lowK_full {w : Nat} (b : BitVec w) (hw : w < 64) : (lowK b w).toInt = b.toNat := by
  have h1 : (lowK b w).toNat = b.toNat := by
    unfold lowK
    rw [BitVec.toNat_setWidth, BitVec.toNat_setWidth]
    have h2 := b.isLt
    have h3 : 2 ^ w < 2 ^ 64 := Nat.pow_lt_pow_right (by decide) hw
    rw [Nat.mod_eq_of_lt h2, Nat.mod_eq_of_lt (by omega)]
  have h2 := b.isLt
  have h3 : 2 ^ w ≤ 2 ^ 63 := Nat.pow_le_pow_right (by decide) (by omega)
  have e : (2 : Nat) ^ 64 = 2 * 2 ^ 63 := by decide
  rw [BitVec.toInt_eq_toNat_cond, h1, if_pos (by omega)]
end Go.Proofs.Ytdiiefhklcchmaa
