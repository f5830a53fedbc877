/-
  THE WALKS of the LEB128 writers. No condition beside the kinds' bounds.
-/
import Derived.Test.YtnifgmijjggjjaaDoorLebP
import Derived.Test.YtnifgmijjggjjaaDoorBytes
namespace Go.Proofs.YtnifgmijjggjjaaDoor
open Go.RowKit

/-- the bytes of a number, seven bits at a time (f: how many more there may be) -/
def encU : Nat → Nat → List UInt8
  | 0, n => [byteOf n]
  | f + 1, n => if n < 128 then [byteOf n] else byteOf ((n : Int) % 128 + 128) :: encU f (n / 128)

theorem u64_and127 (n : Nat) (h : n < 18446744073709551616) : bits .and .u64 (n : Int) 127 = ((n % 128 : Nat) : Int) := by
  have h := bits_mask .u64 64 (by decide) (fun x h0 h1 => by rw [Go.IntKind.wrap_u64]; omega) 7 (by decide) (n : Int) (by omega) (by omega)
  have e : ((2 : Int) ^ 7 - 1) = 127 := by decide
  rw [e] at h
  rw [h]; simp
theorem u8_or128' (c : Nat) (h : c < 128) : bits .or .u8 (c : Int) 128 = ((c + 128 : Nat) : Int) := by
  have := or_add .u8 (c : Int) 128 7 (by decide) (by omega) (by omega) (by decide)
  rw [this, Go.IntKind.wrap_u8]; omega

theorem encU_len (f n : Nat) : (encU f n).length ≤ f + 1 := by
  induction f generalizing n with
  | zero => simp [encU]
  | succ f ih =>
    rw [encU]
    split
    · simp
    · have := ih (n / 128); simp; omega
theorem encU_last {f m : Nat} (h : m < 128) : encU f m = [byteOf m] := by
  cases f <;> simp [encU, h]
theorem encU_lt {f m : Nat} (h : Hid (m < 128 ^ (f + 1 + 1))) (_ : ¬ m < 128) : Hid (m / 128 < 128 ^ (f + 1)) := by
  have := h.out
  rw [Nat.pow_succ] at this
  exact Nat.div_lt_of_lt_mul (by rw [Nat.mul_comm]; exact this)
theorem encU_next {f m n : Nat} {xs : List Int} (h : Hid ((xs.map fun n => UInt8.ofNat n.toNat) ++ encU (f + 1) m = encU 9 n)) (hm : ¬ m < 128) :
    Hid (((xs ++ [((m % 128 + 128 : Nat) : Int)]).map fun n => UInt8.ofNat n.toNat) ++ encU f (m / 128) = encU 9 n) := by
  rw [← h.out, encU, if_neg hm]
  show _ = _
  simp only [List.map_append, List.map_cons, List.map_nil, List.append_assoc, List.cons_append, List.nil_append]
  congr 2
  rw [byteOf]
  congr 1
  omega

end Go.Proofs.YtnifgmijjggjjaaDoor
