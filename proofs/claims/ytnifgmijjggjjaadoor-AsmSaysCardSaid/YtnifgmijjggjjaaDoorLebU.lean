/-
  THE WALKS of the LEB128 writers. No condition beside the kinds' bounds.
-/
import Derived.Test.YtnifgmijjggjjaaDoorLebV
namespace Go.Proofs.YtnifgmijjggjjaaDoor
open Go.RowKit

/-- the bytes of a number with its sign -/
def encS : Nat → Int → List UInt8
  | 0, n => [byteOf (n % 128)]
  | f + 1, n => if -64 ≤ n ∧ n < 64 then [byteOf (n % 128)] else byteOf (n % 128 + 128) :: encS f (n / 128)

theorem i64_and127' (n : Int) : bits .and .i64 n 127 = n % 128 := by
  have e : (127 : Int) = ((127 : Nat) : Int) := rfl
  simp only [bits, BitVec.toNat_and]
  have e2 : (BitVec.ofInt (IntKind.i64.bits) (127 : Int)).toNat = 127 := by decide
  rw [e2, show (127 : Nat) = 2 ^ 7 - 1 by decide, Nat.and_two_pow_sub_one_eq_mod, BitVec.toNat_ofInt]
  have h : (((n % ((2 ^ IntKind.i64.bits : Nat) : Int)).toNat % 2 ^ 7 : Nat) : Int) = n % 128 := by
    show (((n % 18446744073709551616).toNat % 128 : Nat) : Int) = n % 128
    omega
  rw [h, wrap_i64', wrap64_small (by omega) (by omega)]

theorem encS_last {f : Nat} {n : Int} (h : -64 ≤ n ∧ n < 64) : encS f n = [byteOf (n % 128)] := by
  cases f <;> simp [encS, h]
theorem encS_lt {f : Nat} {m : Int} (h : Hid (-(64 * 128 ^ (f + 1)) ≤ m ∧ m < 64 * 128 ^ (f + 1))) : Hid (-(64 * 128 ^ f) ≤ m / 128 ∧ m / 128 < 64 * 128 ^ f) := by
  have h := h.out
  rw [Int.pow_succ] at h
  show _ ∧ _
  omega
theorem encS_next {f : Nat} {m n : Int} {xs : List Int} (h : Hid ((xs.map fun n => UInt8.ofNat n.toNat) ++ encS (f + 1) m = encS 9 n)) (hm : ¬ (-64 ≤ m ∧ m < 64)) :
    Hid (((xs ++ [m % 128 + 128]).map fun n => UInt8.ofNat n.toNat) ++ encS f (m / 128) = encS 9 n) := by
  rw [← h.out, encS, if_neg hm]
  show _ = _
  simp only [List.map_append, List.map_cons, List.map_nil, List.append_assoc, List.cons_append, List.nil_append]
  congr 2
  rw [byteOf]
  congr 2
  omega

/-- how many bytes a number wants: from k on, at most f more -/
def kS : Nat → Nat → Int → Nat
  | 0, k, _ => k
  | f + 1, k, n => if n / 2 ^ (7 * k - 1) = 0 ∨ n / 2 ^ (7 * k - 1) = -1 then k else kS f (k + 1) n
theorem kS_le (f k : Nat) (n : Int) : k ≤ kS f k n ∧ kS f k n ≤ k + f := by
  induction f generalizing k with
  | zero => simp [kS]
  | succ f ih =>
    rw [kS]
    split
    · omega
    · have := ih (k + 1); omega
/-- one byte of a number with its sign: the last one has no mark -/
def byteS (n : Int) (k i : Nat) : UInt8 := byteOf (n / 2 ^ (7 * i) % 128 + if i + 1 < k then 128 else 0)

theorem byteS_mark {n : Int} {k j : Nat} (h : j + 1 < k) : byteS n k j = byteOf (wrap64 (bits .and .i64 (n / 2 ^ (7 * j)) 127 + 128)) := by
  rw [i64_and127', wrap64_small (by omega) (by omega), byteS, if_pos h]
theorem byteS_bare {n : Int} {k j : Nat} (h : ¬ j + 1 < k) : byteS n k j = byteOf (bits .and .i64 (n / 2 ^ (7 * j)) 127) := by
  rw [i64_and127', byteS, if_neg h, Int.add_zero]
theorem kS_stop {k : Nat} {n : Int} (h : Hid (kS (10 - k) k n = kS 9 1 n)) (hk : 10 ≤ k ∨ n / 2 ^ (7 * k - 1) = 0 ∨ n / 2 ^ (7 * k - 1) = -1) (hk10 : k ≤ 10) : kS 9 1 n = k := by
  rw [← h.out]
  by_cases hk' : k = 10
  · subst hk'; rfl
  · obtain ⟨q, hq⟩ : ∃ q, 10 - k = q + 1 := ⟨9 - k, by omega⟩
    rw [hq, kS, if_pos (by omega)]
theorem kS_go {k : Nat} {n : Int} (h : Hid (kS (10 - k) k n = kS 9 1 n)) (hk10 : k < 10) (h1 : n / 2 ^ (7 * k - 1) ≠ 0) (h2 : n / 2 ^ (7 * k - 1) ≠ -1) : Hid (kS (10 - (k + 1)) (k + 1) n = kS 9 1 n) := by
  rw [← h.out]
  obtain ⟨q, hq⟩ : ∃ q, 10 - k = q + 1 := ⟨9 - k, by omega⟩
  rw [hq, kS, if_neg (by omega), show 10 - (k + 1) = q by omega]
  exact rfl

end Go.Proofs.YtnifgmijjggjjaaDoor
