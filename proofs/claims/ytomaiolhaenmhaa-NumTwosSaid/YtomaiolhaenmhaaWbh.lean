/-
  THE PROGRAM's reckon, at 32 and 64 bits. Condition: the number of the instruction is 0, 1, 2 or 7 to 14.
-/
import Derived.Test.YtomaiolhaenmhaaWbg
import Derived.Test.YtomaiolhaenmhaaWbb
namespace Go.Proofs.Ytomaiolhaenmhaa
open Go.RowKit Go.Lib

theorem sar_ones {n : Nat} (x : BitVec n) (k : Nat) (hk : k < n) (hm : x.getLsbD (n - 1) = true) : x >>> k ||| (BitVec.allOnes n <<< (n - k)) = x.sshiftRight k := by
  apply BitVec.eq_of_getLsbD_eq
  intro i hi
  rw [BitVec.getLsbD_or, BitVec.getLsbD_ushiftRight, BitVec.getLsbD_shiftLeft, BitVec.getLsbD_sshiftRight, BitVec.msb_eq_getLsbD_last, hm]
  by_cases h : k + i < n
  · have h2 : i < n - k := by omega
    simp [h, h2, hi]
  · have h2 : ¬ i < n - k := by omega
    have h3 : i - (n - k) < n := by omega
    simp [h, h2, hi, h3]
theorem sar_plain {n : Nat} (x : BitVec n) (k : Nat) (hk : k < n) (hm : x.getLsbD (n - 1) = false) : x >>> k = x.sshiftRight k := by
  apply BitVec.eq_of_getLsbD_eq
  intro i hi
  rw [BitVec.getLsbD_ushiftRight, BitVec.getLsbD_sshiftRight, BitVec.msb_eq_getLsbD_last, hm]
  by_cases h : k + i < n
  · simp [h, hi]
  · simp [h, hi]; rw [BitVec.getLsbD_of_ge]; omega
theorem top_div {n : Nat} (x : BitVec n) (h0 : 0 < n) : ((x.toNat : Int) / 2 ^ (n - 1)) = if x.getLsbD (n - 1) = true then 1 else 0 := by
  have h := div_step x.toNat (n - 1)
  rw [show n - 1 + 1 = n by omega, Nat.div_eq_of_lt x.isLt, BitVec.testBit_toNat] at h
  have e : ((x.toNat : Int) / 2 ^ (n - 1)) = ((x.toNat / 2 ^ (n - 1) : Nat) : Int) := by push_cast; rfl
  rw [e, h]
  split <;> rfl
theorem shr_nat {n : Nat} (x : BitVec n) (k : Nat) : ((x.toNat : Int) / 2 ^ k) = ((x >>> k).toNat : Int) := by
  rw [BitVec.toNat_ushiftRight, Nat.shiftRight_eq_div_pow]; push_cast; rfl

theorem wr_u32 (b : BitVec 32) : IntKind.u32.wrap (b.toNat : Int) = b.toNat := by
  have := b.isLt
  simp [IntKind.wrap, IntKind.bits, IntKind.signed]; omega
theorem wp_u32 (z : Int) : IntKind.u32.wrap z = z % 4294967296 := by simp [IntKind.wrap, IntKind.bits, IntKind.signed]
theorem of_u32 (b : BitVec 32) : BitVec.ofInt 32 (b.toNat : Int) = b := by rw [BitVec.ofInt_natCast, BitVec.ofNat_toNat]; simp
theorem and_u32 (x y : BitVec 32) : bits .and .u32 x.toNat y.toNat = ((x &&& y).toNat : Int) := by
  show IntKind.u32.wrap (((BitVec.ofInt 32 x.toNat &&& BitVec.ofInt 32 y.toNat).toNat : Nat) : Int) = _
  rw [wr_u32, of_u32, of_u32]
theorem or_u32 (x y : BitVec 32) : bits .or .u32 x.toNat y.toNat = ((x ||| y).toNat : Int) := by
  show IntKind.u32.wrap (((BitVec.ofInt 32 x.toNat ||| BitVec.ofInt 32 y.toNat).toNat : Nat) : Int) = _
  rw [wr_u32, of_u32, of_u32]
theorem xor_u32 (x y : BitVec 32) : bits .xor .u32 x.toNat y.toNat = ((x ^^^ y).toNat : Int) := by
  show IntKind.u32.wrap (((BitVec.ofInt 32 x.toNat ^^^ BitVec.ofInt 32 y.toNat).toNat : Nat) : Int) = _
  rw [wr_u32, of_u32, of_u32]
theorem by_u32 (y : BitVec 32) : bits .and .u32 y.toNat 31 = ((y.toNat % 32 : Nat) : Int) := by
  have h := and_u32 y 31#32
  rw [show ((31#32).toNat : Int) = 31 from rfl] at h
  rw [h, BitVec.toNat_and, show (31#32).toNat = 2 ^ 5 - 1 from rfl, Nat.and_two_pow_sub_one_eq_mod]
theorem add_u32 (x y : BitVec 32) : ((x.toNat : Int) + y.toNat) % 4294967296 = ((x + y).toNat : Int) := by
  rw [BitVec.toNat_add]; simp only [Nat.reducePow]; omega
theorem sub_u32 (x y : BitVec 32) : ((x.toNat : Int) - y.toNat) % 4294967296 = ((x - y).toNat : Int) := by
  have := y.isLt
  rw [BitVec.toNat_sub]; simp only [Nat.reducePow] at *; omega
set_option maxRecDepth 100000 in
theorem mul_u32 (x y : BitVec 32) : ((x.toNat : Int) * y.toNat) % 4294967296 = ((x * y).toNat : Int) := by
  rw [BitVec.toNat_mul, Int.natCast_emod, Int.natCast_mul]; rfl
set_option maxRecDepth 100000 in
theorem shl_u32 (x : BitVec 32) (k : Nat) : ((x.toNat : Int) * 2 ^ k) % 4294967296 = ((x <<< k).toNat : Int) := by
  rw [BitVec.toNat_shiftLeft, Nat.shiftLeft_eq, Int.natCast_emod, Int.natCast_mul, Int.natCast_pow]; rfl

set_option maxRecDepth 100000 in
set_option maxHeartbeats 4000000 in
theorem prk_32_0 (x y : BitVec 32) (w : World) :
    Calls Try.prog 85 #[.int .u8 0, .int .u32 x.toNat, .int .u32 y.toNat, .int .i64 32] w fun e w' => e = .returned (.int .u32 ((x + y : BitVec 32).toNat : Int)) ∧ Below w.heap.size w w' := by
  have hby := by_u32 y
  have hk : y.toNat % 32 < 32 := Nat.mod_lt _ (by decide)
  generalize y.toNat % 32 = k at *
  have R := hid (add_u32 x y)
  go_enter Try.func85, Try.ntmps85
  go_wp2_with fail
  go_ret
  exact ⟨ret1 R.out, Below.refl _ _⟩

set_option maxRecDepth 100000 in
set_option maxHeartbeats 4000000 in
theorem prk_32_1 (x y : BitVec 32) (w : World) :
    Calls Try.prog 85 #[.int .u8 1, .int .u32 x.toNat, .int .u32 y.toNat, .int .i64 32] w fun e w' => e = .returned (.int .u32 ((x - y : BitVec 32).toNat : Int)) ∧ Below w.heap.size w w' := by
  have hby := by_u32 y
  have hk : y.toNat % 32 < 32 := Nat.mod_lt _ (by decide)
  generalize y.toNat % 32 = k at *
  have R := hid (sub_u32 x y)
  go_enter Try.func85, Try.ntmps85
  go_wp2_with fail
  go_ret
  exact ⟨ret1 R.out, Below.refl _ _⟩

set_option maxRecDepth 100000 in
set_option maxHeartbeats 4000000 in
theorem prk_32_2 (x y : BitVec 32) (w : World) :
    Calls Try.prog 85 #[.int .u8 2, .int .u32 x.toNat, .int .u32 y.toNat, .int .i64 32] w fun e w' => e = .returned (.int .u32 ((x * y : BitVec 32).toNat : Int)) ∧ Below w.heap.size w w' := by
  have hby := by_u32 y
  have hk : y.toNat % 32 < 32 := Nat.mod_lt _ (by decide)
  generalize y.toNat % 32 = k at *
  have R := hid (mul_u32 x y)
  go_enter Try.func85, Try.ntmps85
  go_wp2_with fail
  go_ret
  exact ⟨ret1 R.out, Below.refl _ _⟩

set_option maxRecDepth 100000 in
set_option maxHeartbeats 4000000 in
theorem prk_32_7 (x y : BitVec 32) (w : World) :
    Calls Try.prog 85 #[.int .u8 7, .int .u32 x.toNat, .int .u32 y.toNat, .int .i64 32] w fun e w' => e = .returned (.int .u32 ((bwV 7 x y (y.toNat % 32) : BitVec 32).toNat : Int)) ∧ Below w.heap.size w w' := by
  have hby := by_u32 y
  have hk : y.toNat % 32 < 32 := Nat.mod_lt _ (by decide)
  generalize y.toNat % 32 = k at *
  have R := hid (and_u32 x y)
  go_enter Try.func85, Try.ntmps85
  go_wp2_with fail
  go_ret
  exact ⟨ret1 R.out, Below.refl _ _⟩

set_option maxRecDepth 100000 in
set_option maxHeartbeats 4000000 in
theorem prk_32_8 (x y : BitVec 32) (w : World) :
    Calls Try.prog 85 #[.int .u8 8, .int .u32 x.toNat, .int .u32 y.toNat, .int .i64 32] w fun e w' => e = .returned (.int .u32 ((bwV 8 x y (y.toNat % 32) : BitVec 32).toNat : Int)) ∧ Below w.heap.size w w' := by
  have hby := by_u32 y
  have hk : y.toNat % 32 < 32 := Nat.mod_lt _ (by decide)
  generalize y.toNat % 32 = k at *
  have R := hid (or_u32 x y)
  go_enter Try.func85, Try.ntmps85
  go_wp2_with fail
  go_ret
  exact ⟨ret1 R.out, Below.refl _ _⟩

set_option maxRecDepth 100000 in
set_option maxHeartbeats 4000000 in
theorem prk_32_9 (x y : BitVec 32) (w : World) :
    Calls Try.prog 85 #[.int .u8 9, .int .u32 x.toNat, .int .u32 y.toNat, .int .i64 32] w fun e w' => e = .returned (.int .u32 ((bwV 9 x y (y.toNat % 32) : BitVec 32).toNat : Int)) ∧ Below w.heap.size w w' := by
  have hby := by_u32 y
  have hk : y.toNat % 32 < 32 := Nat.mod_lt _ (by decide)
  generalize y.toNat % 32 = k at *
  have R := hid (xor_u32 x y)
  go_enter Try.func85, Try.ntmps85
  go_wp2_with fail
  go_ret
  exact ⟨ret1 R.out, Below.refl _ _⟩

set_option maxRecDepth 100000 in
set_option maxHeartbeats 4000000 in
theorem prk_32_10 (x y : BitVec 32) (w : World) :
    Calls Try.prog 85 #[.int .u8 10, .int .u32 x.toNat, .int .u32 y.toNat, .int .i64 32] w fun e w' => e = .returned (.int .u32 ((bwV 10 x y (y.toNat % 32) : BitVec 32).toNat : Int)) ∧ Below w.heap.size w w' := by
  have hby := by_u32 y
  have hk : y.toNat % 32 < 32 := Nat.mod_lt _ (by decide)
  generalize y.toNat % 32 = k at *
  have R := hid (shl_u32 x k)
  go_enter Try.func85, Try.ntmps85
  go_wp2_with fail
  go_ret
  exact ⟨ret1 R.out, Below.refl _ _⟩

set_option maxRecDepth 100000 in
set_option maxHeartbeats 4000000 in
theorem prk_32_11 (x y : BitVec 32) (w : World) :
    Calls Try.prog 85 #[.int .u8 11, .int .u32 x.toNat, .int .u32 y.toNat, .int .i64 32] w fun e w' => e = .returned (.int .u32 ((bwV 11 x y (y.toNat % 32) : BitVec 32).toNat : Int)) ∧ Below w.heap.size w w' := by
  have hby := by_u32 y
  have hk : y.toNat % 32 < 32 := Nat.mod_lt _ (by decide)
  generalize y.toNat % 32 = k at *
  have T := top_div x (by decide)
  have R0 := hid (shr_nat x k)
  have R1 := hid (fun h => sar_plain x k hk h)
  have R2 := hid (fun h => sar_ones x k hk h)
  have R3 := hid (or_u32 (x >>> k) (BitVec.allOnes 32 <<< (32 - k)))
  have R4 := hid (shl_u32 (BitVec.allOnes 32) (32 - k))
  rw [show (((BitVec.allOnes 32).toNat : Nat) : Int) = 4294967295 from rfl] at R4
  cases hb : x.getLsbD (32 - 1)
  · rw [hb] at T
    have R5 := hid (R1.out hb)
    have T2 : (x.toNat : Int) / 2147483648 = 0 := T
    clear hb T
    by_cases h0 : k = 0
    · subst h0
      go_enter Try.func85, Try.ntmps85
      go_wp2_with fail
      go_ret
      exact ⟨ret1 (by show _ = ((x.sshiftRight 0).toNat : Int); rw [← R5.out, ← R0.out]; simp), Below.refl _ _⟩
    · have h1 : 0 < k := by omega
      go_enter Try.func85, Try.ntmps85
      go_wp2_with fail
      go_ret
      exact ⟨ret1 (by show _ = ((x.sshiftRight k).toNat : Int); rw [← R5.out, ← R0.out]), Below.refl _ _⟩
  · rw [hb] at T
    have R5 := hid (R2.out hb)
    have T2 : (x.toNat : Int) / 2147483648 = 1 := T
    clear hb T
    by_cases h0 : k = 0
    · subst h0
      have R6 := hid (show ((x.sshiftRight 0).toNat : Int) = x.toNat by simp)
      go_enter Try.func85, Try.ntmps85
      go_wp2_with fail
      go_ret
      exact ⟨ret1 (by show _ = ((x.sshiftRight 0).toNat : Int); rw [R6.out]), Below.refl _ _⟩
    · have h1 : 0 < k := by omega
      have hs : (32 : Int) - k = ((32 - k : Nat) : Int) := by omega
      have hj : 32 - k < 32 := by omega
      go_enter Try.func85, Try.ntmps85
      go_wp2_with fail
      go_ret
      exact ⟨ret1 (by show _ = ((x.sshiftRight k).toNat : Int); rw [← R5.out, ← R3.out, ← R4.out, ← R0.out, show bits BinOp.xor IntKind.u32 IntKind.u32.max 0 = 4294967295 from by decide]), Below.refl _ _⟩

set_option maxRecDepth 100000 in
set_option maxHeartbeats 4000000 in
theorem prk_32_12 (x y : BitVec 32) (w : World) :
    Calls Try.prog 85 #[.int .u8 12, .int .u32 x.toNat, .int .u32 y.toNat, .int .i64 32] w fun e w' => e = .returned (.int .u32 ((bwV 12 x y (y.toNat % 32) : BitVec 32).toNat : Int)) ∧ Below w.heap.size w w' := by
  have hby := by_u32 y
  have hk : y.toNat % 32 < 32 := Nat.mod_lt _ (by decide)
  generalize y.toNat % 32 = k at *
  have R := hid (shr_nat x k)
  go_enter Try.func85, Try.ntmps85
  go_wp2_with fail
  go_ret
  exact ⟨ret1 R.out, Below.refl _ _⟩

set_option maxRecDepth 100000 in
set_option maxHeartbeats 4000000 in
theorem prk_32_13 (x y : BitVec 32) (w : World) :
    Calls Try.prog 85 #[.int .u8 13, .int .u32 x.toNat, .int .u32 y.toNat, .int .i64 32] w fun e w' => e = .returned (.int .u32 ((bwV 13 x y (y.toNat % 32) : BitVec 32).toNat : Int)) ∧ Below w.heap.size w w' := by
  have hby := by_u32 y
  have hk : y.toNat % 32 < 32 := Nat.mod_lt _ (by decide)
  generalize y.toNat % 32 = k at *
  have R1 := hid (shl_u32 x k)
  have R2 := hid (shr_nat x (32 - k))
  have R3 := hid (or_u32 (x <<< k) (x >>> (32 - k)))
  have R4 := hid (show x.rotateLeft k = (x <<< k) ||| (x >>> (32 - k)) from by unfold BitVec.rotateLeft; rw [Nat.mod_eq_of_lt hk]; rfl)
  have hs : (32 : Int) - k = ((32 - k : Nat) : Int) := by omega
  have hj : 32 - k ≤ 32 := by omega
  have hi : IntKind.i64.wrap ((32 : Int) - k) = ((32 - k : Nat) : Int) := by rw [IntKind.wrap_i64]; omega
  have hd1 : decide ((k : Int) < 0) = false := by simp
  have hd2 : decide (((32 - k : Nat) : Int) < 0) = false := by simp
  have hd3 : ¬ ((k : Int) < 0) := by omega
  have hd4 : ¬ (((32 - k : Nat) : Int) < 0) := by omega
  go_enter Try.func85, Try.ntmps85
  go_wp2_with fail
  go_quiet (fail)
  go_wp2_with fail
  go_ret
  exact ⟨ret1 (by show _ = ((x.rotateLeft k).toNat : Int); (try rw [wp_u32]); rw [R4.out, ← R3.out, ← R1.out, ← R2.out]), drew_bel' (n := nq) (Below.refl _ _)⟩

set_option maxRecDepth 100000 in
set_option maxHeartbeats 4000000 in
theorem prk_32_14 (x y : BitVec 32) (w : World) :
    Calls Try.prog 85 #[.int .u8 14, .int .u32 x.toNat, .int .u32 y.toNat, .int .i64 32] w fun e w' => e = .returned (.int .u32 ((bwV 14 x y (y.toNat % 32) : BitVec 32).toNat : Int)) ∧ Below w.heap.size w w' := by
  have hby := by_u32 y
  have hk : y.toNat % 32 < 32 := Nat.mod_lt _ (by decide)
  generalize y.toNat % 32 = k at *
  have R1 := hid (shr_nat x k)
  have R2 := hid (shl_u32 x (32 - k))
  have R3 := hid (or_u32 (x >>> k) (x <<< (32 - k)))
  have R4 := hid (show x.rotateRight k = (x >>> k) ||| (x <<< (32 - k)) from by unfold BitVec.rotateRight; rw [Nat.mod_eq_of_lt hk]; rfl)
  have hs : (32 : Int) - k = ((32 - k : Nat) : Int) := by omega
  have hj : 32 - k ≤ 32 := by omega
  have hi : IntKind.i64.wrap ((32 : Int) - k) = ((32 - k : Nat) : Int) := by rw [IntKind.wrap_i64]; omega
  have hd1 : decide ((k : Int) < 0) = false := by simp
  have hd2 : decide (((32 - k : Nat) : Int) < 0) = false := by simp
  have hd3 : ¬ ((k : Int) < 0) := by omega
  have hd4 : ¬ (((32 - k : Nat) : Int) < 0) := by omega
  go_enter Try.func85, Try.ntmps85
  go_wp2_with fail
  go_quiet (fail)
  go_wp2_with fail
  go_ret
  exact ⟨ret1 (by show _ = ((x.rotateRight k).toNat : Int); (try rw [wp_u32]); rw [R4.out, ← R3.out, ← R1.out, ← R2.out]), drew_bel' (n := nq) (Below.refl _ _)⟩

theorem wr_u64 (b : BitVec 64) : IntKind.u64.wrap (b.toNat : Int) = b.toNat := by
  have := b.isLt
  simp [IntKind.wrap, IntKind.bits, IntKind.signed]; omega
theorem wp_u64 (z : Int) : IntKind.u64.wrap z = z % 18446744073709551616 := by simp [IntKind.wrap, IntKind.bits, IntKind.signed]
theorem of_u64 (b : BitVec 64) : BitVec.ofInt 64 (b.toNat : Int) = b := by rw [BitVec.ofInt_natCast, BitVec.ofNat_toNat]; simp
theorem and_u64 (x y : BitVec 64) : bits .and .u64 x.toNat y.toNat = ((x &&& y).toNat : Int) := by
  show IntKind.u64.wrap (((BitVec.ofInt 64 x.toNat &&& BitVec.ofInt 64 y.toNat).toNat : Nat) : Int) = _
  rw [wr_u64, of_u64, of_u64]
theorem or_u64 (x y : BitVec 64) : bits .or .u64 x.toNat y.toNat = ((x ||| y).toNat : Int) := by
  show IntKind.u64.wrap (((BitVec.ofInt 64 x.toNat ||| BitVec.ofInt 64 y.toNat).toNat : Nat) : Int) = _
  rw [wr_u64, of_u64, of_u64]
theorem xor_u64 (x y : BitVec 64) : bits .xor .u64 x.toNat y.toNat = ((x ^^^ y).toNat : Int) := by
  show IntKind.u64.wrap (((BitVec.ofInt 64 x.toNat ^^^ BitVec.ofInt 64 y.toNat).toNat : Nat) : Int) = _
  rw [wr_u64, of_u64, of_u64]
theorem by_u64 (y : BitVec 64) : bits .and .u64 y.toNat 63 = ((y.toNat % 64 : Nat) : Int) := by
  have h := and_u64 y 63#64
  rw [show ((63#64).toNat : Int) = 63 from rfl] at h
  rw [h, BitVec.toNat_and, show (63#64).toNat = 2 ^ 6 - 1 from rfl, Nat.and_two_pow_sub_one_eq_mod]
theorem add_u64 (x y : BitVec 64) : ((x.toNat : Int) + y.toNat) % 18446744073709551616 = ((x + y).toNat : Int) := by
  rw [BitVec.toNat_add]; simp only [Nat.reducePow]; omega
theorem sub_u64 (x y : BitVec 64) : ((x.toNat : Int) - y.toNat) % 18446744073709551616 = ((x - y).toNat : Int) := by
  have := y.isLt
  rw [BitVec.toNat_sub]; simp only [Nat.reducePow] at *; omega
set_option maxRecDepth 100000 in
theorem mul_u64 (x y : BitVec 64) : ((x.toNat : Int) * y.toNat) % 18446744073709551616 = ((x * y).toNat : Int) := by
  rw [BitVec.toNat_mul, Int.natCast_emod, Int.natCast_mul]; rfl
set_option maxRecDepth 100000 in
theorem shl_u64 (x : BitVec 64) (k : Nat) : ((x.toNat : Int) * 2 ^ k) % 18446744073709551616 = ((x <<< k).toNat : Int) := by
  rw [BitVec.toNat_shiftLeft, Nat.shiftLeft_eq, Int.natCast_emod, Int.natCast_mul, Int.natCast_pow]; rfl

set_option maxRecDepth 100000 in
set_option maxHeartbeats 4000000 in
theorem prk_64_0 (x y : BitVec 64) (w : World) :
    Calls Try.prog 86 #[.int .u8 0, .int .u64 x.toNat, .int .u64 y.toNat, .int .i64 64] w fun e w' => e = .returned (.int .u64 ((x + y : BitVec 64).toNat : Int)) ∧ Below w.heap.size w w' := by
  have hby := by_u64 y
  have hk : y.toNat % 64 < 64 := Nat.mod_lt _ (by decide)
  generalize y.toNat % 64 = k at *
  have R := hid (add_u64 x y)
  go_enter Try.func86, Try.ntmps86
  go_wp2_with fail
  go_ret
  exact ⟨ret1 R.out, Below.refl _ _⟩

set_option maxRecDepth 100000 in
set_option maxHeartbeats 4000000 in
theorem prk_64_1 (x y : BitVec 64) (w : World) :
    Calls Try.prog 86 #[.int .u8 1, .int .u64 x.toNat, .int .u64 y.toNat, .int .i64 64] w fun e w' => e = .returned (.int .u64 ((x - y : BitVec 64).toNat : Int)) ∧ Below w.heap.size w w' := by
  have hby := by_u64 y
  have hk : y.toNat % 64 < 64 := Nat.mod_lt _ (by decide)
  generalize y.toNat % 64 = k at *
  have R := hid (sub_u64 x y)
  go_enter Try.func86, Try.ntmps86
  go_wp2_with fail
  go_ret
  exact ⟨ret1 R.out, Below.refl _ _⟩

set_option maxRecDepth 100000 in
set_option maxHeartbeats 4000000 in
theorem prk_64_2 (x y : BitVec 64) (w : World) :
    Calls Try.prog 86 #[.int .u8 2, .int .u64 x.toNat, .int .u64 y.toNat, .int .i64 64] w fun e w' => e = .returned (.int .u64 ((x * y : BitVec 64).toNat : Int)) ∧ Below w.heap.size w w' := by
  have hby := by_u64 y
  have hk : y.toNat % 64 < 64 := Nat.mod_lt _ (by decide)
  generalize y.toNat % 64 = k at *
  have R := hid (mul_u64 x y)
  go_enter Try.func86, Try.ntmps86
  go_wp2_with fail
  go_ret
  exact ⟨ret1 R.out, Below.refl _ _⟩

set_option maxRecDepth 100000 in
set_option maxHeartbeats 4000000 in
theorem prk_64_7 (x y : BitVec 64) (w : World) :
    Calls Try.prog 86 #[.int .u8 7, .int .u64 x.toNat, .int .u64 y.toNat, .int .i64 64] w fun e w' => e = .returned (.int .u64 ((bwV 7 x y (y.toNat % 64) : BitVec 64).toNat : Int)) ∧ Below w.heap.size w w' := by
  have hby := by_u64 y
  have hk : y.toNat % 64 < 64 := Nat.mod_lt _ (by decide)
  generalize y.toNat % 64 = k at *
  have R := hid (and_u64 x y)
  go_enter Try.func86, Try.ntmps86
  go_wp2_with fail
  go_ret
  exact ⟨ret1 R.out, Below.refl _ _⟩

set_option maxRecDepth 100000 in
set_option maxHeartbeats 4000000 in
theorem prk_64_8 (x y : BitVec 64) (w : World) :
    Calls Try.prog 86 #[.int .u8 8, .int .u64 x.toNat, .int .u64 y.toNat, .int .i64 64] w fun e w' => e = .returned (.int .u64 ((bwV 8 x y (y.toNat % 64) : BitVec 64).toNat : Int)) ∧ Below w.heap.size w w' := by
  have hby := by_u64 y
  have hk : y.toNat % 64 < 64 := Nat.mod_lt _ (by decide)
  generalize y.toNat % 64 = k at *
  have R := hid (or_u64 x y)
  go_enter Try.func86, Try.ntmps86
  go_wp2_with fail
  go_ret
  exact ⟨ret1 R.out, Below.refl _ _⟩

set_option maxRecDepth 100000 in
set_option maxHeartbeats 4000000 in
theorem prk_64_9 (x y : BitVec 64) (w : World) :
    Calls Try.prog 86 #[.int .u8 9, .int .u64 x.toNat, .int .u64 y.toNat, .int .i64 64] w fun e w' => e = .returned (.int .u64 ((bwV 9 x y (y.toNat % 64) : BitVec 64).toNat : Int)) ∧ Below w.heap.size w w' := by
  have hby := by_u64 y
  have hk : y.toNat % 64 < 64 := Nat.mod_lt _ (by decide)
  generalize y.toNat % 64 = k at *
  have R := hid (xor_u64 x y)
  go_enter Try.func86, Try.ntmps86
  go_wp2_with fail
  go_ret
  exact ⟨ret1 R.out, Below.refl _ _⟩

set_option maxRecDepth 100000 in
set_option maxHeartbeats 4000000 in
theorem prk_64_10 (x y : BitVec 64) (w : World) :
    Calls Try.prog 86 #[.int .u8 10, .int .u64 x.toNat, .int .u64 y.toNat, .int .i64 64] w fun e w' => e = .returned (.int .u64 ((bwV 10 x y (y.toNat % 64) : BitVec 64).toNat : Int)) ∧ Below w.heap.size w w' := by
  have hby := by_u64 y
  have hk : y.toNat % 64 < 64 := Nat.mod_lt _ (by decide)
  generalize y.toNat % 64 = k at *
  have R := hid (shl_u64 x k)
  go_enter Try.func86, Try.ntmps86
  go_wp2_with fail
  go_ret
  exact ⟨ret1 R.out, Below.refl _ _⟩

set_option maxRecDepth 100000 in
set_option maxHeartbeats 4000000 in
theorem prk_64_11 (x y : BitVec 64) (w : World) :
    Calls Try.prog 86 #[.int .u8 11, .int .u64 x.toNat, .int .u64 y.toNat, .int .i64 64] w fun e w' => e = .returned (.int .u64 ((bwV 11 x y (y.toNat % 64) : BitVec 64).toNat : Int)) ∧ Below w.heap.size w w' := by
  have hby := by_u64 y
  have hk : y.toNat % 64 < 64 := Nat.mod_lt _ (by decide)
  generalize y.toNat % 64 = k at *
  have T := top_div x (by decide)
  have R0 := hid (shr_nat x k)
  have R1 := hid (fun h => sar_plain x k hk h)
  have R2 := hid (fun h => sar_ones x k hk h)
  have R3 := hid (or_u64 (x >>> k) (BitVec.allOnes 64 <<< (64 - k)))
  have R4 := hid (shl_u64 (BitVec.allOnes 64) (64 - k))
  rw [show (((BitVec.allOnes 64).toNat : Nat) : Int) = 18446744073709551615 from rfl] at R4
  cases hb : x.getLsbD (64 - 1)
  · rw [hb] at T
    have R5 := hid (R1.out hb)
    have T2 : (x.toNat : Int) / 9223372036854775808 = 0 := T
    clear hb T
    by_cases h0 : k = 0
    · subst h0
      go_enter Try.func86, Try.ntmps86
      go_wp2_with fail
      go_ret
      exact ⟨ret1 (by show _ = ((x.sshiftRight 0).toNat : Int); rw [← R5.out, ← R0.out]; simp), Below.refl _ _⟩
    · have h1 : 0 < k := by omega
      go_enter Try.func86, Try.ntmps86
      go_wp2_with fail
      go_ret
      exact ⟨ret1 (by show _ = ((x.sshiftRight k).toNat : Int); rw [← R5.out, ← R0.out]), Below.refl _ _⟩
  · rw [hb] at T
    have R5 := hid (R2.out hb)
    have T2 : (x.toNat : Int) / 9223372036854775808 = 1 := T
    clear hb T
    by_cases h0 : k = 0
    · subst h0
      have R6 := hid (show ((x.sshiftRight 0).toNat : Int) = x.toNat by simp)
      go_enter Try.func86, Try.ntmps86
      go_wp2_with fail
      go_ret
      exact ⟨ret1 (by show _ = ((x.sshiftRight 0).toNat : Int); rw [R6.out]), Below.refl _ _⟩
    · have h1 : 0 < k := by omega
      have hs : (64 : Int) - k = ((64 - k : Nat) : Int) := by omega
      have hj : 64 - k < 64 := by omega
      go_enter Try.func86, Try.ntmps86
      go_wp2_with fail
      go_ret
      exact ⟨ret1 (by show _ = ((x.sshiftRight k).toNat : Int); rw [← R5.out, ← R3.out, ← R4.out, ← R0.out, show bits BinOp.xor IntKind.u64 IntKind.u64.max 0 = 18446744073709551615 from by decide]; rw [wp_u64]), Below.refl _ _⟩

set_option maxRecDepth 100000 in
set_option maxHeartbeats 4000000 in
theorem prk_64_12 (x y : BitVec 64) (w : World) :
    Calls Try.prog 86 #[.int .u8 12, .int .u64 x.toNat, .int .u64 y.toNat, .int .i64 64] w fun e w' => e = .returned (.int .u64 ((bwV 12 x y (y.toNat % 64) : BitVec 64).toNat : Int)) ∧ Below w.heap.size w w' := by
  have hby := by_u64 y
  have hk : y.toNat % 64 < 64 := Nat.mod_lt _ (by decide)
  generalize y.toNat % 64 = k at *
  have R := hid (shr_nat x k)
  go_enter Try.func86, Try.ntmps86
  go_wp2_with fail
  go_ret
  exact ⟨ret1 R.out, Below.refl _ _⟩

set_option maxRecDepth 100000 in
set_option maxHeartbeats 4000000 in
theorem prk_64_13 (x y : BitVec 64) (w : World) :
    Calls Try.prog 86 #[.int .u8 13, .int .u64 x.toNat, .int .u64 y.toNat, .int .i64 64] w fun e w' => e = .returned (.int .u64 ((bwV 13 x y (y.toNat % 64) : BitVec 64).toNat : Int)) ∧ Below w.heap.size w w' := by
  have hby := by_u64 y
  have hk : y.toNat % 64 < 64 := Nat.mod_lt _ (by decide)
  generalize y.toNat % 64 = k at *
  have R1 := hid (shl_u64 x k)
  have R2 := hid (shr_nat x (64 - k))
  have R3 := hid (or_u64 (x <<< k) (x >>> (64 - k)))
  have R4 := hid (show x.rotateLeft k = (x <<< k) ||| (x >>> (64 - k)) from by unfold BitVec.rotateLeft; rw [Nat.mod_eq_of_lt hk]; rfl)
  have hs : (64 : Int) - k = ((64 - k : Nat) : Int) := by omega
  have hj : 64 - k ≤ 64 := by omega
  have hi : IntKind.i64.wrap ((64 : Int) - k) = ((64 - k : Nat) : Int) := by rw [IntKind.wrap_i64]; omega
  have hd1 : decide ((k : Int) < 0) = false := by simp
  have hd2 : decide (((64 - k : Nat) : Int) < 0) = false := by simp
  have hd3 : ¬ ((k : Int) < 0) := by omega
  have hd4 : ¬ (((64 - k : Nat) : Int) < 0) := by omega
  go_enter Try.func86, Try.ntmps86
  go_wp2_with fail
  go_quiet (fail)
  go_wp2_with fail
  go_ret
  exact ⟨ret1 (by show _ = ((x.rotateLeft k).toNat : Int); (try rw [wp_u64]); rw [R4.out, ← R3.out, ← R1.out, ← R2.out]), drew_bel' (n := nq) (Below.refl _ _)⟩

set_option maxRecDepth 100000 in
set_option maxHeartbeats 4000000 in
theorem prk_64_14 (x y : BitVec 64) (w : World) :
    Calls Try.prog 86 #[.int .u8 14, .int .u64 x.toNat, .int .u64 y.toNat, .int .i64 64] w fun e w' => e = .returned (.int .u64 ((bwV 14 x y (y.toNat % 64) : BitVec 64).toNat : Int)) ∧ Below w.heap.size w w' := by
  have hby := by_u64 y
  have hk : y.toNat % 64 < 64 := Nat.mod_lt _ (by decide)
  generalize y.toNat % 64 = k at *
  have R1 := hid (shr_nat x k)
  have R2 := hid (shl_u64 x (64 - k))
  have R3 := hid (or_u64 (x >>> k) (x <<< (64 - k)))
  have R4 := hid (show x.rotateRight k = (x >>> k) ||| (x <<< (64 - k)) from by unfold BitVec.rotateRight; rw [Nat.mod_eq_of_lt hk]; rfl)
  have hs : (64 : Int) - k = ((64 - k : Nat) : Int) := by omega
  have hj : 64 - k ≤ 64 := by omega
  have hi : IntKind.i64.wrap ((64 : Int) - k) = ((64 - k : Nat) : Int) := by rw [IntKind.wrap_i64]; omega
  have hd1 : decide ((k : Int) < 0) = false := by simp
  have hd2 : decide (((64 - k : Nat) : Int) < 0) = false := by simp
  have hd3 : ¬ ((k : Int) < 0) := by omega
  have hd4 : ¬ (((64 - k : Nat) : Int) < 0) := by omega
  go_enter Try.func86, Try.ntmps86
  go_wp2_with fail
  go_quiet (fail)
  go_wp2_with fail
  go_ret
  exact ⟨ret1 (by show _ = ((x.rotateRight k).toNat : Int); (try rw [wp_u64]); rw [R4.out, ← R3.out, ← R1.out, ← R2.out]), drew_bel' (n := nq) (Below.refl _ _)⟩
end Go.Proofs.Ytomaiolhaenmhaa
