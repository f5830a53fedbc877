/-
  PLAIN LEMMAS ON BITS, WRAPS AND BYTES. No condition beside those that each lemma bears.
-/
import Derived.Test.YtnifgmijjggjjaaDoorBase
import Derived.Laws.BitsLemmas
namespace Go.Proofs.YtnifgmijjggjjaaDoor
open Go.RowKit

theorem wrap_congr (k : IntKind) {a c : Int} (h : a % 2 ^ k.bits = c % 2 ^ k.bits) : k.wrap a = k.wrap c := by
  simp only [IntKind.wrap, h]

theorem or_add (k : IntKind) (x y : Int) (p : Nat) (hp : p ≤ k.bits) (h0 : 0 ≤ x) (h1 : x < 2 ^ p) (hy : y % 2 ^ p = 0) :
    bits .or k x y = k.wrap (x + y) := by
  obtain ⟨a, rfl⟩ := Int.eq_ofNat_of_zero_le h0
  have ha : a < 2 ^ p := by exact_mod_cast h1
  have hpn : 2 ^ p ≤ 2 ^ k.bits := Nat.pow_le_pow_right (by decide) hp
  have hpos : (0 : Int) < 2 ^ k.bits := Int.pow_pos (by decide)
  have hY0 : 0 ≤ y % 2 ^ k.bits := Int.emod_nonneg _ (by omega)
  obtain ⟨b, hb⟩ := Int.eq_ofNat_of_zero_le hY0
  have e1 : (BitVec.ofInt k.bits (a : Int)).toNat = a := by
    rw [BitVec.ofInt_natCast, BitVec.toNat_ofNat]; exact Nat.mod_eq_of_lt (by omega)
  have e2 : (BitVec.ofInt k.bits y).toNat = b := by
    rw [BitVec.toNat_ofInt]
    have : (y % ((2 ^ k.bits : Nat) : Int)) = (b : Int) := by rw [← hb]; simp
    rw [this]; simp
  have hd : b % 2 ^ p = 0 := by
    have : (b : Int) % 2 ^ p = 0 := by
      rw [← hb]
      rw [Int.emod_emod_of_dvd _ ⟨2 ^ (k.bits - p), by rw [← Int.pow_add]; congr 1; omega⟩]
      exact hy
    exact_mod_cast this
  have hq : b = 2 ^ p * (b / 2 ^ p) := by
    have := Nat.div_add_mod b (2 ^ p)
    omega
  have e3 : (a ||| b) = a + b := by
    rw [hq, Nat.or_comm, ← Nat.two_pow_add_eq_or_of_lt ha (b / 2 ^ p)]
    omega
  simp only [bits, BitVec.toNat_or, e1, e2, e3]
  refine wrap_congr k ?_
  push_cast
  rw [← hb]
  simp

theorem u64w (n : Nat) (h : n < 18446744073709551616) : IntKind.u64.wrap (n : Int) = n := by
  rw [Go.IntKind.wrap_u64]; omega

theorem and127 (c : UInt8) : bits .and .u8 (c.toNat : Int) 127 = ((c.toNat % 128 : Nat) : Int) := by
  have h := bits_mask .u8 8 (by decide) wraps_u8 7 (by decide) (c.toNat : Int) (by omega) (by have := c.toNat_lt; omega)
  have e : ((2 : Int) ^ 7 - 1) = 127 := by decide
  rw [e] at h
  rw [h]; simp

theorem pow_lt_u64 (k : Nat) (hk : k ≤ 9) : (2 : Nat) ^ (7 * k) ≤ 9223372036854775808 := by
  have : (2 : Nat) ^ (7 * k) ≤ 2 ^ 63 := Nat.pow_le_pow_right (by decide) (by omega)
  have e : (2 : Nat) ^ 63 = 9223372036854775808 := by decide
  omega

theorem byte_lt (c : UInt8) : c.toNat < 256 := c.toNat_lt

end Go.Proofs.YtnifgmijjggjjaaDoor
