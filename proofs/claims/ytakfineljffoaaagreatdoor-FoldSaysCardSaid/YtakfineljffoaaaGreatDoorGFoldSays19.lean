/-
  THE PROGRAM's compare, at 32 and 64 bits. Condition: the number of the comparison is 0 to 9.
-/
import Derived.Test.YtakfineljffoaaaGreatDoorGFoldSays17
import Derived.Test.YtakfineljffoaaaGreatDoorGFoldSays18
namespace Go.Proofs.YtakfineljffoaaaGreatDoor
open Go.RowKit Go.Lib

theorem ptruth_b (b : Bool) (w : World) : Calls Tryz.prog 125 #[.bool b] w fun e w' => e = .returned (.int .i64 (tv b)) ∧ w = w' := by
  cases b
  · go_enter Tryz.func125, Tryz.ntmps125
    go_wp2_with fail
    go_ret
    exact ⟨rfl, rfl⟩
  · go_enter Tryz.func125, Tryz.ntmps125
    go_wp2_with fail
    go_ret
    exact ⟨rfl, rfl⟩
def cmpI (which : Nat) (s t p q : Int) : Bool :=
  match which with
  | 0 => decide (s = t)
  | 1 => s != t
  | 2 => decide (s < t)
  | 3 => decide (p < q)
  | 4 => decide (t < s)
  | 5 => decide (q < p)
  | 6 => decide (s ≤ t)
  | 7 => decide (p ≤ q)
  | 8 => decide (t ≤ s)
  | _ => decide (q ≤ p)
theorem cmp_eq {n : Nat} (which : Nat) (x y : BitVec n) : cmpI which x.toInt y.toInt x.toNat y.toNat = cmpF which x y := by
  unfold cmpI cmpF
  split <;> (rw [Bool.eq_iff_iff]; simp [BitVec.slt, BitVec.ult, BitVec.toInt_inj, bne_iff_ne])

set_option maxRecDepth 100000 in
set_option maxHeartbeats 4000000 in
theorem pcmp_int32 (which : Nat) (hw : which ≤ 9) (s t p q : Int) (w : World) :
    Calls Tryz.prog 133 #[.int .u8 which, .int .i32 s, .int .i32 t, .int .u32 p, .int .u32 q] w fun e w' => e = .returned (.int .i64 (tv (cmpI which s t p q))) ∧ w = w' := by
  have HT := hid (fun x w' => ptruth_b x w')
  rcases (by omega : which = 0 ∨ which = 1 ∨ which = 2 ∨ which = 3 ∨ which = 4 ∨ which = 5 ∨ which = 6 ∨ which = 7 ∨ which = 8 ∨ which = 9) with rfl | rfl | rfl | rfl | rfl | rfl | rfl | rfl | rfl | rfl
  all_goals
    simp only [cmpI]
    go_enter Tryz.func133, Tryz.ntmps133
    go_wp2_with (go_at_call 125; refine (HT.out _ _).mono ?_; rintro r w1 ⟨rfl, rfl⟩)
    all_goals
      go_ret
      exact ⟨ret1 (by first | rfl | (congr 1; simp) | simp_all), rfl⟩

set_option maxRecDepth 100000 in
set_option maxHeartbeats 4000000 in
theorem pcmp_int64 (which : Nat) (hw : which ≤ 9) (s t p q : Int) (w : World) :
    Calls Tryz.prog 134 #[.int .u8 which, .int .i64 s, .int .i64 t, .int .u64 p, .int .u64 q] w fun e w' => e = .returned (.int .i64 (tv (cmpI which s t p q))) ∧ w = w' := by
  have HT := hid (fun x w' => ptruth_b x w')
  rcases (by omega : which = 0 ∨ which = 1 ∨ which = 2 ∨ which = 3 ∨ which = 4 ∨ which = 5 ∨ which = 6 ∨ which = 7 ∨ which = 8 ∨ which = 9) with rfl | rfl | rfl | rfl | rfl | rfl | rfl | rfl | rfl | rfl
  all_goals
    simp only [cmpI]
    go_enter Tryz.func134, Tryz.ntmps134
    go_wp2_with (go_at_call 125; refine (HT.out _ _).mono ?_; rintro r w1 ⟨rfl, rfl⟩)
    all_goals
      go_ret
      exact ⟨ret1 (by first | rfl | (congr 1; simp) | simp_all), rfl⟩
end Go.Proofs.YtakfineljffoaaaGreatDoor
namespace Go.Proofs.YtakfineljffoaaaGreatDoor
open Go.RowKit Go.Lib

theorem tdiv_abs (s t : Int) : (s.tdiv t).natAbs ≤ s.natAbs := by rw [Int.natAbs_tdiv]; exact Nat.div_le_self _ _
theorem tdiv_half (s t : Int) (h : 2 ≤ t.natAbs) : (s.tdiv t).natAbs ≤ s.natAbs / 2 := by
  rw [Int.natAbs_tdiv]
  exact Nat.div_le_div_left h (by decide)
theorem tmod_abs (s t : Int) (h : t ≠ 0) : (s.tmod t).natAbs < t.natAbs := by
  rw [Int.natAbs_tmod]
  exact Nat.mod_lt _ (by omega)

set_option maxRecDepth 100000 in
set_option maxHeartbeats 4000000 in
theorem pdiv_zero_int32 (s t p q : Int) (ht : -2147483648 ≤ t ∧ t ≤ 2147483647) (wh : Int) (h0 : t = 0) (w : World) :
    Calls Tryz.prog 135 #[.int .u8 wh, .int .i32 s, .int .i32 t, .int .u32 p, .int .u32 q] w fun e w' => e = .returned (.tuple #[.int .i64 0, .int .i64 21]) ∧ w = w' := by
  subst h0
  go_enter Tryz.func135, Tryz.ntmps135
  go_wp2_with fail
  go_ret2
  exact ⟨rfl, rfl⟩

set_option maxRecDepth 100000 in
set_option maxHeartbeats 4000000 in
theorem pdiv_over_int32 (s t p q : Int) (hs : -2147483648 ≤ s ∧ s ≤ 2147483647) (ht : -2147483648 ≤ t ∧ t ≤ 2147483647) (h1 : t = -1) (h2 : s = -2147483648) (w : World) :
    Calls Tryz.prog 135 #[.int .u8 0, .int .i32 s, .int .i32 t, .int .u32 p, .int .u32 q] w fun e w' => e = .returned (.tuple #[.int .i64 0, .int .i64 22]) ∧ w = w' := by
  subst h1 h2
  have hov : wrap32 2147483648 = -2147483648 := by unfold wrap32; omega
  go_enter Tryz.func135, Tryz.ntmps135
  go_wp2_with fail
  go_ret2
  exact ⟨rfl, rfl⟩

set_option maxRecDepth 100000 in
set_option maxHeartbeats 4000000 in
theorem pdiv_s_int32 (s t p q : Int) (hs : -2147483648 ≤ s ∧ s ≤ 2147483647) (ht : -2147483648 ≤ t ∧ t ≤ 2147483647) (h0 : t ≠ 0) (h1 : ¬ (t = -1 ∧ s = -2147483648)) (w : World) :
    Calls Tryz.prog 135 #[.int .u8 0, .int .i32 s, .int .i32 t, .int .u32 p, .int .u32 q] w fun e w' => e = .returned (.tuple #[.int .i64 (s.tdiv t), .int .i64 0]) ∧ w = w' := by
  have hz : (t == 0) = false := by simpa using h0
  have hd : -2147483648 ≤ s.tdiv t ∧ s.tdiv t ≤ 2147483647 := by
    have e1 := tdiv_abs s t
    by_cases e2 : s = -2147483648
    · by_cases e3 : t = 1
      · rw [e3, Int.tdiv_one]; omega
      · have e4 := tdiv_half s t (by omega)
        omega
    · omega
  by_cases ha : t = -1
  · subst ha
    have hne : s ≠ -2147483648 := fun e => h1 ⟨rfl, e⟩
    have hw : (s == -s) = decide (s = 0) := by rw [Bool.eq_iff_iff]; simp; omega
    by_cases hs0 : s = 0
    · subst hs0
      go_enter Tryz.func135, Tryz.ntmps135
      go_wp2_with fail
      go_ret2
      exact ⟨rfl, rfl⟩
    · have hsb : (s == 0) = false := by simpa using hs0
      go_enter Tryz.func135, Tryz.ntmps135
      go_wp2_with fail
      go_ret2
      exact ⟨rfl, rfl⟩
  · have hab : (t == -1) = false := by simpa using ha
    go_enter Tryz.func135, Tryz.ntmps135
    go_wp2_with fail
    go_ret2
    exact ⟨rfl, rfl⟩

set_option maxRecDepth 100000 in
set_option maxHeartbeats 4000000 in
theorem pdiv_u_int32 (s t p q : Int) (hp : 0 ≤ p ∧ p ≤ 4294967295) (hq : 0 ≤ q ∧ q ≤ 4294967295) (h0 : t ≠ 0) (hq0 : q ≠ 0) (w : World) :
    Calls Tryz.prog 135 #[.int .u8 1, .int .i32 s, .int .i32 t, .int .u32 p, .int .u32 q] w fun e w' => e = .returned (.tuple #[.int .i64 (p.tdiv q), .int .i64 0]) ∧ w = w' := by
  have hz : (t == 0) = false := by simpa using h0
  have hz2 : (q == 0) = false := by simpa using hq0
  have hd : 0 ≤ p.tdiv q ∧ p.tdiv q ≤ 4294967295 := by
    rw [Int.tdiv_eq_ediv_of_nonneg hp.1]
    have e1 := Int.ediv_nonneg hp.1 hq.1
    have e2 := Int.ediv_le_self q hp.1
    omega
  go_enter Tryz.func135, Tryz.ntmps135
  go_wp2_with fail
  go_ret2
  exact ⟨rfl, rfl⟩

set_option maxRecDepth 100000 in
set_option maxHeartbeats 4000000 in
theorem pdiv_r_int32 (s t p q : Int) (ht : -2147483648 ≤ t ∧ t ≤ 2147483647) (h0 : t ≠ 0) (w : World) :
    Calls Tryz.prog 135 #[.int .u8 2, .int .i32 s, .int .i32 t, .int .u32 p, .int .u32 q] w fun e w' => e = .returned (.tuple #[.int .i64 (s.tmod t), .int .i64 0]) ∧ w = w' := by
  have hz : (t == 0) = false := by simpa using h0
  have hd : -2147483648 ≤ s.tmod t ∧ s.tmod t ≤ 2147483647 := by
    have e1 := tmod_abs s t h0
    omega
  by_cases ha : t = -1
  · subst ha
    have hm : s.tmod (-1) = 0 := by simp
    rw [hm]
    go_enter Tryz.func135, Tryz.ntmps135
    go_wp2_with fail
    go_ret2
    exact ⟨rfl, rfl⟩
  · have hab : (t == -1) = false := by simpa using ha
    go_enter Tryz.func135, Tryz.ntmps135
    go_wp2_with fail
    go_ret2
    exact ⟨rfl, rfl⟩

set_option maxRecDepth 100000 in
set_option maxHeartbeats 4000000 in
theorem pdiv_m_int32 (s t p q : Int) (hp : 0 ≤ p ∧ p ≤ 4294967295) (hq : 0 ≤ q ∧ q ≤ 4294967295) (h0 : t ≠ 0) (hq0 : q ≠ 0) (w : World) :
    Calls Tryz.prog 135 #[.int .u8 3, .int .i32 s, .int .i32 t, .int .u32 p, .int .u32 q] w fun e w' => e = .returned (.tuple #[.int .i64 (p % q), .int .i64 0]) ∧ w = w' := by
  have hz : (t == 0) = false := by simpa using h0
  have hz2 : (q == 0) = false := by simpa using hq0
  have hd : 0 ≤ p % q ∧ p % q ≤ 4294967295 := by
    have e1 := Int.emod_nonneg p hq0
    have e2 := Int.emod_lt_of_pos p (by omega : 0 < q)
    omega
  go_enter Tryz.func135, Tryz.ntmps135
  go_wp2_with fail
  go_ret2
  exact ⟨rfl, rfl⟩

set_option maxRecDepth 100000 in
set_option maxHeartbeats 4000000 in
theorem pdiv_zero_int64 (s t p q : Int) (ht : -9223372036854775808 ≤ t ∧ t ≤ 9223372036854775807) (wh : Int) (h0 : t = 0) (w : World) :
    Calls Tryz.prog 136 #[.int .u8 wh, .int .i64 s, .int .i64 t, .int .u64 p, .int .u64 q] w fun e w' => e = .returned (.tuple #[.int .i64 0, .int .i64 21]) ∧ w = w' := by
  subst h0
  go_enter Tryz.func136, Tryz.ntmps136
  go_wp2_with fail
  go_ret2
  exact ⟨rfl, rfl⟩

set_option maxRecDepth 100000 in
set_option maxHeartbeats 4000000 in
theorem pdiv_over_int64 (s t p q : Int) (hs : -9223372036854775808 ≤ s ∧ s ≤ 9223372036854775807) (ht : -9223372036854775808 ≤ t ∧ t ≤ 9223372036854775807) (h1 : t = -1) (h2 : s = -9223372036854775808) (w : World) :
    Calls Tryz.prog 136 #[.int .u8 0, .int .i64 s, .int .i64 t, .int .u64 p, .int .u64 q] w fun e w' => e = .returned (.tuple #[.int .i64 0, .int .i64 22]) ∧ w = w' := by
  subst h1 h2
  have hov : wrap64 9223372036854775808 = -9223372036854775808 := by unfold wrap64; omega
  go_enter Tryz.func136, Tryz.ntmps136
  go_wp2_with fail
  go_ret2
  exact ⟨rfl, rfl⟩

set_option maxRecDepth 100000 in
set_option maxHeartbeats 4000000 in
theorem pdiv_s_int64 (s t p q : Int) (hs : -9223372036854775808 ≤ s ∧ s ≤ 9223372036854775807) (ht : -9223372036854775808 ≤ t ∧ t ≤ 9223372036854775807) (h0 : t ≠ 0) (h1 : ¬ (t = -1 ∧ s = -9223372036854775808)) (w : World) :
    Calls Tryz.prog 136 #[.int .u8 0, .int .i64 s, .int .i64 t, .int .u64 p, .int .u64 q] w fun e w' => e = .returned (.tuple #[.int .i64 (s.tdiv t), .int .i64 0]) ∧ w = w' := by
  have hz : (t == 0) = false := by simpa using h0
  have hd : -9223372036854775808 ≤ s.tdiv t ∧ s.tdiv t ≤ 9223372036854775807 := by
    have e1 := tdiv_abs s t
    by_cases e2 : s = -9223372036854775808
    · by_cases e3 : t = 1
      · rw [e3, Int.tdiv_one]; omega
      · have e4 := tdiv_half s t (by omega)
        omega
    · omega
  by_cases ha : t = -1
  · subst ha
    have hne : s ≠ -9223372036854775808 := fun e => h1 ⟨rfl, e⟩
    have hw : (s == -s) = decide (s = 0) := by rw [Bool.eq_iff_iff]; simp; omega
    by_cases hs0 : s = 0
    · subst hs0
      go_enter Tryz.func136, Tryz.ntmps136
      go_wp2_with fail
      go_ret2
      exact ⟨rfl, rfl⟩
    · have hsb : (s == 0) = false := by simpa using hs0
      go_enter Tryz.func136, Tryz.ntmps136
      go_wp2_with fail
      go_ret2
      exact ⟨rfl, rfl⟩
  · have hab : (t == -1) = false := by simpa using ha
    go_enter Tryz.func136, Tryz.ntmps136
    go_wp2_with fail
    go_ret2
    exact ⟨rfl, rfl⟩

set_option maxRecDepth 100000 in
set_option maxHeartbeats 4000000 in
theorem pdiv_u_int64 (s t p q : Int) (hp : 0 ≤ p ∧ p ≤ 18446744073709551615) (hq : 0 ≤ q ∧ q ≤ 18446744073709551615) (h0 : t ≠ 0) (hq0 : q ≠ 0) (w : World) :
    Calls Tryz.prog 136 #[.int .u8 1, .int .i64 s, .int .i64 t, .int .u64 p, .int .u64 q] w fun e w' => e = .returned (.tuple #[.int .i64 (wrap64 (p.tdiv q)), .int .i64 0]) ∧ w = w' := by
  have hz : (t == 0) = false := by simpa using h0
  have hz2 : (q == 0) = false := by simpa using hq0
  have hd : 0 ≤ p.tdiv q ∧ p.tdiv q ≤ 18446744073709551615 := by
    rw [Int.tdiv_eq_ediv_of_nonneg hp.1]
    have e1 := Int.ediv_nonneg hp.1 hq.1
    have e2 := Int.ediv_le_self q hp.1
    omega
  go_enter Tryz.func136, Tryz.ntmps136
  go_wp2_with fail
  go_ret2
  exact ⟨rfl, rfl⟩

set_option maxRecDepth 100000 in
set_option maxHeartbeats 4000000 in
theorem pdiv_r_int64 (s t p q : Int) (ht : -9223372036854775808 ≤ t ∧ t ≤ 9223372036854775807) (h0 : t ≠ 0) (w : World) :
    Calls Tryz.prog 136 #[.int .u8 2, .int .i64 s, .int .i64 t, .int .u64 p, .int .u64 q] w fun e w' => e = .returned (.tuple #[.int .i64 (s.tmod t), .int .i64 0]) ∧ w = w' := by
  have hz : (t == 0) = false := by simpa using h0
  have hd : -9223372036854775808 ≤ s.tmod t ∧ s.tmod t ≤ 9223372036854775807 := by
    have e1 := tmod_abs s t h0
    omega
  by_cases ha : t = -1
  · subst ha
    have hm : s.tmod (-1) = 0 := by simp
    rw [hm]
    go_enter Tryz.func136, Tryz.ntmps136
    go_wp2_with fail
    go_ret2
    exact ⟨rfl, rfl⟩
  · have hab : (t == -1) = false := by simpa using ha
    go_enter Tryz.func136, Tryz.ntmps136
    go_wp2_with fail
    go_ret2
    exact ⟨rfl, rfl⟩

set_option maxRecDepth 100000 in
set_option maxHeartbeats 4000000 in
theorem pdiv_m_int64 (s t p q : Int) (hp : 0 ≤ p ∧ p ≤ 18446744073709551615) (hq : 0 ≤ q ∧ q ≤ 18446744073709551615) (h0 : t ≠ 0) (hq0 : q ≠ 0) (w : World) :
    Calls Tryz.prog 136 #[.int .u8 3, .int .i64 s, .int .i64 t, .int .u64 p, .int .u64 q] w fun e w' => e = .returned (.tuple #[.int .i64 (wrap64 (p % q)), .int .i64 0]) ∧ w = w' := by
  have hz : (t == 0) = false := by simpa using h0
  have hz2 : (q == 0) = false := by simpa using hq0
  have hd : 0 ≤ p % q ∧ p % q ≤ 18446744073709551615 := by
    have e1 := Int.emod_nonneg p hq0
    have e2 := Int.emod_lt_of_pos p (by omega : 0 < q)
    omega
  go_enter Tryz.func136, Tryz.ntmps136
  go_wp2_with fail
  go_ret2
  exact ⟨rfl, rfl⟩
end Go.Proofs.YtakfineljffoaaaGreatDoor
namespace Go.Proofs.YtakfineljffoaaaGreatDoor
open Go.RowKit Go.Lib

theorem sar_ones {n : Nat} (x : BitVec n) (k : Nat) (hk : k < n) (hm : x.getLsbD (n - 1) = true) : x >>> k ||| (BitVec.allOnes n <<< (n - k)) = x.sshiftRight k := by
  apply BitVec.eq_of_getLsbD_eq
  intro i hi
  rw [BitVec.getLsbD_or, BitVec.getLsbD_ushiftRight, BitVec.getLsbD_shiftLeft, BitVec.getLsbD_sshiftRight, BitVec.msb_eq_getLsbD_last, hm]
  by_cases h : k + i < n
  · have h2 : i < n - k := by omega
    simp [h, h2, hi]
  · have h2 : ¬ i < n - k := by omega
    have h3 : i - (n - k) < n := by omega
    simp [h, h2, hi, h3]
theorem sar_plain {n : Nat} (x : BitVec n) (k : Nat) (_hk : k < n) (hm : x.getLsbD (n - 1) = false) : x >>> k = x.sshiftRight k := by
  apply BitVec.eq_of_getLsbD_eq
  intro i hi
  rw [BitVec.getLsbD_ushiftRight, BitVec.getLsbD_sshiftRight, BitVec.msb_eq_getLsbD_last, hm]
  by_cases h : k + i < n
  · simp [h, hi]
  · simp [h]; rw [BitVec.getLsbD_of_ge]; omega
theorem top_div {n : Nat} (x : BitVec n) (h0 : 0 < n) : ((x.toNat : Int) / 2 ^ (n - 1)) = if x.getLsbD (n - 1) = true then 1 else 0 := by
  have h := div_stepW x.toNat (n - 1)
  rw [show n - 1 + 1 = n by omega, Nat.div_eq_of_lt x.isLt, BitVec.testBit_toNat] at h
  have e : ((x.toNat : Int) / 2 ^ (n - 1)) = ((x.toNat / 2 ^ (n - 1) : Nat) : Int) := by push_cast; rfl
  rw [e, h]
  split <;> rfl
theorem shr_nat {n : Nat} (x : BitVec n) (k : Nat) : ((x.toNat : Int) / 2 ^ k) = ((x >>> k).toNat : Int) := by
  rw [BitVec.toNat_ushiftRight, Nat.shiftRight_eq_div_pow]; push_cast; rfl

theorem wr_u32 (b : BitVec 32) : IntKind.u32.wrap (b.toNat : Int) = b.toNat := by
  have := b.isLt
  simp [IntKind.wrap, IntKind.bits, IntKind.signed]; omega
theorem wp_u32 (z : Int) : IntKind.u32.wrap z = z % 4294967296 := by simp [IntKind.wrap, IntKind.bits, IntKind.signed]
theorem of_u32 (b : BitVec 32) : BitVec.ofInt 32 (b.toNat : Int) = b := by rw [BitVec.ofInt_natCast, BitVec.ofNat_toNat]; simp
theorem and_u32 (x y : BitVec 32) : bits .and .u32 x.toNat y.toNat = ((x &&& y).toNat : Int) := by
  show IntKind.u32.wrap (((BitVec.ofInt 32 x.toNat &&& BitVec.ofInt 32 y.toNat).toNat : Nat) : Int) = _
  rw [wr_u32, of_u32, of_u32]
theorem or_u32 (x y : BitVec 32) : bits .or .u32 x.toNat y.toNat = ((x ||| y).toNat : Int) := by
  show IntKind.u32.wrap (((BitVec.ofInt 32 x.toNat ||| BitVec.ofInt 32 y.toNat).toNat : Nat) : Int) = _
  rw [wr_u32, of_u32, of_u32]
theorem xor_u32 (x y : BitVec 32) : bits .xor .u32 x.toNat y.toNat = ((x ^^^ y).toNat : Int) := by
  show IntKind.u32.wrap (((BitVec.ofInt 32 x.toNat ^^^ BitVec.ofInt 32 y.toNat).toNat : Nat) : Int) = _
  rw [wr_u32, of_u32, of_u32]
theorem by_u32 (y : BitVec 32) : bits .and .u32 y.toNat 31 = ((y.toNat % 32 : Nat) : Int) := by
  have h := and_u32 y 31#32
  rw [show ((31#32).toNat : Int) = 31 from rfl] at h
  rw [h, BitVec.toNat_and, show (31#32).toNat = 2 ^ 5 - 1 from rfl, Nat.and_two_pow_sub_one_eq_mod]
theorem add_u32 (x y : BitVec 32) : ((x.toNat : Int) + y.toNat) % 4294967296 = ((x + y).toNat : Int) := by
  rw [BitVec.toNat_add]; simp only [Nat.reducePow]; omega
theorem sub_u32 (x y : BitVec 32) : ((x.toNat : Int) - y.toNat) % 4294967296 = ((x - y).toNat : Int) := by
  have := y.isLt
  rw [BitVec.toNat_sub]; simp only [Nat.reducePow] at *; omega
set_option maxRecDepth 100000 in
theorem mul_u32 (x y : BitVec 32) : ((x.toNat : Int) * y.toNat) % 4294967296 = ((x * y).toNat : Int) := by
  rw [BitVec.toNat_mul, Int.natCast_emod, Int.natCast_mul]; rfl
set_option maxRecDepth 100000 in
theorem shl_u32 (x : BitVec 32) (k : Nat) : ((x.toNat : Int) * 2 ^ k) % 4294967296 = ((x <<< k).toNat : Int) := by
  rw [BitVec.toNat_shiftLeft, Nat.shiftLeft_eq, Int.natCast_emod, Int.natCast_mul, Int.natCast_pow]; rfl

set_option maxRecDepth 100000 in
set_option maxHeartbeats 4000000 in
theorem prk_32_0 (x y : BitVec 32) (w : World) :
    Calls Tryz.prog 137 #[.int .u8 0, .int .u32 x.toNat, .int .u32 y.toNat, .int .i64 32] w fun e w' => e = .returned (.int .u32 ((x + y : BitVec 32).toNat : Int)) ∧ Below w.heap.size w w' := by
  have hby := by_u32 y
  have hk : y.toNat % 32 < 32 := Nat.mod_lt _ (by decide)
  generalize y.toNat % 32 = k at *
  have R := hid (add_u32 x y)
  go_enter Tryz.func137, Tryz.ntmps137
  go_wp2_with fail
  go_ret
  exact ⟨ret1 R.out, Below.refl _ _⟩

set_option maxRecDepth 100000 in
set_option maxHeartbeats 4000000 in
theorem prk_32_1 (x y : BitVec 32) (w : World) :
    Calls Tryz.prog 137 #[.int .u8 1, .int .u32 x.toNat, .int .u32 y.toNat, .int .i64 32] w fun e w' => e = .returned (.int .u32 ((x - y : BitVec 32).toNat : Int)) ∧ Below w.heap.size w w' := by
  have hby := by_u32 y
  have hk : y.toNat % 32 < 32 := Nat.mod_lt _ (by decide)
  generalize y.toNat % 32 = k at *
  have R := hid (sub_u32 x y)
  go_enter Tryz.func137, Tryz.ntmps137
  go_wp2_with fail
  go_ret
  exact ⟨ret1 R.out, Below.refl _ _⟩

set_option maxRecDepth 100000 in
set_option maxHeartbeats 4000000 in
theorem prk_32_2 (x y : BitVec 32) (w : World) :
    Calls Tryz.prog 137 #[.int .u8 2, .int .u32 x.toNat, .int .u32 y.toNat, .int .i64 32] w fun e w' => e = .returned (.int .u32 ((x * y : BitVec 32).toNat : Int)) ∧ Below w.heap.size w w' := by
  have hby := by_u32 y
  have hk : y.toNat % 32 < 32 := Nat.mod_lt _ (by decide)
  generalize y.toNat % 32 = k at *
  have R := hid (mul_u32 x y)
  go_enter Tryz.func137, Tryz.ntmps137
  go_wp2_with fail
  go_ret
  exact ⟨ret1 R.out, Below.refl _ _⟩

set_option maxRecDepth 100000 in
set_option maxHeartbeats 4000000 in
theorem prk_32_7 (x y : BitVec 32) (w : World) :
    Calls Tryz.prog 137 #[.int .u8 7, .int .u32 x.toNat, .int .u32 y.toNat, .int .i64 32] w fun e w' => e = .returned (.int .u32 ((bwV 7 x y (y.toNat % 32) : BitVec 32).toNat : Int)) ∧ Below w.heap.size w w' := by
  have hby := by_u32 y
  have hk : y.toNat % 32 < 32 := Nat.mod_lt _ (by decide)
  generalize y.toNat % 32 = k at *
  have R := hid (and_u32 x y)
  go_enter Tryz.func137, Tryz.ntmps137
  go_wp2_with fail
  go_ret
  exact ⟨ret1 R.out, Below.refl _ _⟩

set_option maxRecDepth 100000 in
set_option maxHeartbeats 4000000 in
theorem prk_32_8 (x y : BitVec 32) (w : World) :
    Calls Tryz.prog 137 #[.int .u8 8, .int .u32 x.toNat, .int .u32 y.toNat, .int .i64 32] w fun e w' => e = .returned (.int .u32 ((bwV 8 x y (y.toNat % 32) : BitVec 32).toNat : Int)) ∧ Below w.heap.size w w' := by
  have hby := by_u32 y
  have hk : y.toNat % 32 < 32 := Nat.mod_lt _ (by decide)
  generalize y.toNat % 32 = k at *
  have R := hid (or_u32 x y)
  go_enter Tryz.func137, Tryz.ntmps137
  go_wp2_with fail
  go_ret
  exact ⟨ret1 R.out, Below.refl _ _⟩

set_option maxRecDepth 100000 in
set_option maxHeartbeats 4000000 in
theorem prk_32_9 (x y : BitVec 32) (w : World) :
    Calls Tryz.prog 137 #[.int .u8 9, .int .u32 x.toNat, .int .u32 y.toNat, .int .i64 32] w fun e w' => e = .returned (.int .u32 ((bwV 9 x y (y.toNat % 32) : BitVec 32).toNat : Int)) ∧ Below w.heap.size w w' := by
  have hby := by_u32 y
  have hk : y.toNat % 32 < 32 := Nat.mod_lt _ (by decide)
  generalize y.toNat % 32 = k at *
  have R := hid (xor_u32 x y)
  go_enter Tryz.func137, Tryz.ntmps137
  go_wp2_with fail
  go_ret
  exact ⟨ret1 R.out, Below.refl _ _⟩

set_option maxRecDepth 100000 in
set_option maxHeartbeats 4000000 in
theorem prk_32_10 (x y : BitVec 32) (w : World) :
    Calls Tryz.prog 137 #[.int .u8 10, .int .u32 x.toNat, .int .u32 y.toNat, .int .i64 32] w fun e w' => e = .returned (.int .u32 ((bwV 10 x y (y.toNat % 32) : BitVec 32).toNat : Int)) ∧ Below w.heap.size w w' := by
  have hby := by_u32 y
  have hk : y.toNat % 32 < 32 := Nat.mod_lt _ (by decide)
  generalize y.toNat % 32 = k at *
  have R := hid (shl_u32 x k)
  go_enter Tryz.func137, Tryz.ntmps137
  go_wp2_with fail
  go_ret
  exact ⟨ret1 R.out, Below.refl _ _⟩

set_option maxRecDepth 100000 in
set_option maxHeartbeats 4000000 in
theorem prk_32_11 (x y : BitVec 32) (w : World) :
    Calls Tryz.prog 137 #[.int .u8 11, .int .u32 x.toNat, .int .u32 y.toNat, .int .i64 32] w fun e w' => e = .returned (.int .u32 ((bwV 11 x y (y.toNat % 32) : BitVec 32).toNat : Int)) ∧ Below w.heap.size w w' := by
  have hby := by_u32 y
  have hk : y.toNat % 32 < 32 := Nat.mod_lt _ (by decide)
  generalize y.toNat % 32 = k at *
  have T := top_div x (by decide)
  have R0 := hid (shr_nat x k)
  have R1 := hid (fun h => sar_plain x k hk h)
  have R2 := hid (fun h => sar_ones x k hk h)
  have R3 := hid (or_u32 (x >>> k) (BitVec.allOnes 32 <<< (32 - k)))
  have R4 := hid (shl_u32 (BitVec.allOnes 32) (32 - k))
  rw [show (((BitVec.allOnes 32).toNat : Nat) : Int) = 4294967295 from rfl] at R4
  cases hb : x.getLsbD (32 - 1)
  · rw [hb] at T
    have R5 := hid (R1.out hb)
    have T2 : (x.toNat : Int) / 2147483648 = 0 := T
    clear hb T
    by_cases h0 : k = 0
    · subst h0
      go_enter Tryz.func137, Tryz.ntmps137
      go_wp2_with fail
      go_ret
      exact ⟨ret1 (by show _ = ((x.sshiftRight 0).toNat : Int); rw [← R5.out, ← R0.out]; simp), Below.refl _ _⟩
    · have h1 : 0 < k := by omega
      go_enter Tryz.func137, Tryz.ntmps137
      go_wp2_with fail
      go_ret
      exact ⟨ret1 (by show _ = ((x.sshiftRight k).toNat : Int); rw [← R5.out, ← R0.out]), Below.refl _ _⟩
  · rw [hb] at T
    have R5 := hid (R2.out hb)
    have T2 : (x.toNat : Int) / 2147483648 = 1 := T
    clear hb T
    by_cases h0 : k = 0
    · subst h0
      have R6 := hid (show ((x.sshiftRight 0).toNat : Int) = x.toNat by simp)
      go_enter Tryz.func137, Tryz.ntmps137
      go_wp2_with fail
      go_ret
      exact ⟨ret1 (by show _ = ((x.sshiftRight 0).toNat : Int); rw [R6.out]), Below.refl _ _⟩
    · have h1 : 0 < k := by omega
      have hs : (32 : Int) - k = ((32 - k : Nat) : Int) := by omega
      have hj : 32 - k < 32 := by omega
      go_enter Tryz.func137, Tryz.ntmps137
      go_wp2_with fail
      go_ret
      exact ⟨ret1 (by show _ = ((x.sshiftRight k).toNat : Int); rw [← R5.out, ← R3.out, ← R4.out, ← R0.out, show bits BinOp.xor IntKind.u32 IntKind.u32.max 0 = 4294967295 from by decide]), Below.refl _ _⟩

set_option maxRecDepth 100000 in
set_option maxHeartbeats 4000000 in
theorem prk_32_12 (x y : BitVec 32) (w : World) :
    Calls Tryz.prog 137 #[.int .u8 12, .int .u32 x.toNat, .int .u32 y.toNat, .int .i64 32] w fun e w' => e = .returned (.int .u32 ((bwV 12 x y (y.toNat % 32) : BitVec 32).toNat : Int)) ∧ Below w.heap.size w w' := by
  have hby := by_u32 y
  have hk : y.toNat % 32 < 32 := Nat.mod_lt _ (by decide)
  generalize y.toNat % 32 = k at *
  have R := hid (shr_nat x k)
  go_enter Tryz.func137, Tryz.ntmps137
  go_wp2_with fail
  go_ret
  exact ⟨ret1 R.out, Below.refl _ _⟩

set_option maxRecDepth 100000 in
set_option maxHeartbeats 4000000 in
theorem prk_32_13 (x y : BitVec 32) (w : World) :
    Calls Tryz.prog 137 #[.int .u8 13, .int .u32 x.toNat, .int .u32 y.toNat, .int .i64 32] w fun e w' => e = .returned (.int .u32 ((bwV 13 x y (y.toNat % 32) : BitVec 32).toNat : Int)) ∧ Below w.heap.size w w' := by
  have hby := by_u32 y
  have hk : y.toNat % 32 < 32 := Nat.mod_lt _ (by decide)
  generalize y.toNat % 32 = k at *
  have R1 := hid (shl_u32 x k)
  have R2 := hid (shr_nat x (32 - k))
  have R3 := hid (or_u32 (x <<< k) (x >>> (32 - k)))
  have R4 := hid (show x.rotateLeft k = (x <<< k) ||| (x >>> (32 - k)) from by unfold BitVec.rotateLeft; rw [Nat.mod_eq_of_lt hk]; rfl)
  have hs : (32 : Int) - k = ((32 - k : Nat) : Int) := by omega
  have hj : 32 - k ≤ 32 := by omega
  have hi : IntKind.i64.wrap ((32 : Int) - k) = ((32 - k : Nat) : Int) := by rw [IntKind.wrap_i64]; omega
  have hd1 : decide ((k : Int) < 0) = false := by simp
  have hd2 : decide (((32 - k : Nat) : Int) < 0) = false := by simp
  have hd3 : ¬ ((k : Int) < 0) := by omega
  have hd4 : ¬ (((32 - k : Nat) : Int) < 0) := by omega
  go_enter Tryz.func137, Tryz.ntmps137
  go_wp2_with fail
  go_quiet (fail)
  go_wp2_with fail
  go_ret
  exact ⟨ret1 (by show _ = ((x.rotateLeft k).toNat : Int); (try rw [wp_u32]); rw [R4.out, ← R3.out, ← R1.out, ← R2.out]), drew_bel' (n := nq) (Below.refl _ _)⟩

set_option maxRecDepth 100000 in
set_option maxHeartbeats 4000000 in
theorem prk_32_14 (x y : BitVec 32) (w : World) :
    Calls Tryz.prog 137 #[.int .u8 14, .int .u32 x.toNat, .int .u32 y.toNat, .int .i64 32] w fun e w' => e = .returned (.int .u32 ((bwV 14 x y (y.toNat % 32) : BitVec 32).toNat : Int)) ∧ Below w.heap.size w w' := by
  have hby := by_u32 y
  have hk : y.toNat % 32 < 32 := Nat.mod_lt _ (by decide)
  generalize y.toNat % 32 = k at *
  have R1 := hid (shr_nat x k)
  have R2 := hid (shl_u32 x (32 - k))
  have R3 := hid (or_u32 (x >>> k) (x <<< (32 - k)))
  have R4 := hid (show x.rotateRight k = (x >>> k) ||| (x <<< (32 - k)) from by unfold BitVec.rotateRight; rw [Nat.mod_eq_of_lt hk]; rfl)
  have hs : (32 : Int) - k = ((32 - k : Nat) : Int) := by omega
  have hj : 32 - k ≤ 32 := by omega
  have hi : IntKind.i64.wrap ((32 : Int) - k) = ((32 - k : Nat) : Int) := by rw [IntKind.wrap_i64]; omega
  have hd1 : decide ((k : Int) < 0) = false := by simp
  have hd2 : decide (((32 - k : Nat) : Int) < 0) = false := by simp
  have hd3 : ¬ ((k : Int) < 0) := by omega
  have hd4 : ¬ (((32 - k : Nat) : Int) < 0) := by omega
  go_enter Tryz.func137, Tryz.ntmps137
  go_wp2_with fail
  go_quiet (fail)
  go_wp2_with fail
  go_ret
  exact ⟨ret1 (by show _ = ((x.rotateRight k).toNat : Int); (try rw [wp_u32]); rw [R4.out, ← R3.out, ← R1.out, ← R2.out]), drew_bel' (n := nq) (Below.refl _ _)⟩

theorem wr_u64 (b : BitVec 64) : IntKind.u64.wrap (b.toNat : Int) = b.toNat := by
  have := b.isLt
  simp [IntKind.wrap, IntKind.bits, IntKind.signed]; omega
theorem wp_u64 (z : Int) : IntKind.u64.wrap z = z % 18446744073709551616 := by simp [IntKind.wrap, IntKind.bits, IntKind.signed]
theorem of_u64 (b : BitVec 64) : BitVec.ofInt 64 (b.toNat : Int) = b := by rw [BitVec.ofInt_natCast, BitVec.ofNat_toNat]; simp
theorem and_u64 (x y : BitVec 64) : bits .and .u64 x.toNat y.toNat = ((x &&& y).toNat : Int) := by
  show IntKind.u64.wrap (((BitVec.ofInt 64 x.toNat &&& BitVec.ofInt 64 y.toNat).toNat : Nat) : Int) = _
  rw [wr_u64, of_u64, of_u64]
theorem or_u64 (x y : BitVec 64) : bits .or .u64 x.toNat y.toNat = ((x ||| y).toNat : Int) := by
  show IntKind.u64.wrap (((BitVec.ofInt 64 x.toNat ||| BitVec.ofInt 64 y.toNat).toNat : Nat) : Int) = _
  rw [wr_u64, of_u64, of_u64]
theorem xor_u64 (x y : BitVec 64) : bits .xor .u64 x.toNat y.toNat = ((x ^^^ y).toNat : Int) := by
  show IntKind.u64.wrap (((BitVec.ofInt 64 x.toNat ^^^ BitVec.ofInt 64 y.toNat).toNat : Nat) : Int) = _
  rw [wr_u64, of_u64, of_u64]
theorem by_u64 (y : BitVec 64) : bits .and .u64 y.toNat 63 = ((y.toNat % 64 : Nat) : Int) := by
  have h := and_u64 y 63#64
  rw [show ((63#64).toNat : Int) = 63 from rfl] at h
  rw [h, BitVec.toNat_and, show (63#64).toNat = 2 ^ 6 - 1 from rfl, Nat.and_two_pow_sub_one_eq_mod]
theorem add_u64 (x y : BitVec 64) : ((x.toNat : Int) + y.toNat) % 18446744073709551616 = ((x + y).toNat : Int) := by
  rw [BitVec.toNat_add]; simp only [Nat.reducePow]; omega
theorem sub_u64 (x y : BitVec 64) : ((x.toNat : Int) - y.toNat) % 18446744073709551616 = ((x - y).toNat : Int) := by
  have := y.isLt
  rw [BitVec.toNat_sub]; simp only [Nat.reducePow] at *; omega
set_option maxRecDepth 100000 in
theorem mul_u64 (x y : BitVec 64) : ((x.toNat : Int) * y.toNat) % 18446744073709551616 = ((x * y).toNat : Int) := by
  rw [BitVec.toNat_mul, Int.natCast_emod, Int.natCast_mul]; rfl
set_option maxRecDepth 100000 in
theorem shl_u64 (x : BitVec 64) (k : Nat) : ((x.toNat : Int) * 2 ^ k) % 18446744073709551616 = ((x <<< k).toNat : Int) := by
  rw [BitVec.toNat_shiftLeft, Nat.shiftLeft_eq, Int.natCast_emod, Int.natCast_mul, Int.natCast_pow]; rfl

set_option maxRecDepth 100000 in
set_option maxHeartbeats 4000000 in
theorem prk_64_0 (x y : BitVec 64) (w : World) :
    Calls Tryz.prog 138 #[.int .u8 0, .int .u64 x.toNat, .int .u64 y.toNat, .int .i64 64] w fun e w' => e = .returned (.int .u64 ((x + y : BitVec 64).toNat : Int)) ∧ Below w.heap.size w w' := by
  have hby := by_u64 y
  have hk : y.toNat % 64 < 64 := Nat.mod_lt _ (by decide)
  generalize y.toNat % 64 = k at *
  have R := hid (add_u64 x y)
  go_enter Tryz.func138, Tryz.ntmps138
  go_wp2_with fail
  go_ret
  exact ⟨ret1 R.out, Below.refl _ _⟩

set_option maxRecDepth 100000 in
set_option maxHeartbeats 4000000 in
theorem prk_64_1 (x y : BitVec 64) (w : World) :
    Calls Tryz.prog 138 #[.int .u8 1, .int .u64 x.toNat, .int .u64 y.toNat, .int .i64 64] w fun e w' => e = .returned (.int .u64 ((x - y : BitVec 64).toNat : Int)) ∧ Below w.heap.size w w' := by
  have hby := by_u64 y
  have hk : y.toNat % 64 < 64 := Nat.mod_lt _ (by decide)
  generalize y.toNat % 64 = k at *
  have R := hid (sub_u64 x y)
  go_enter Tryz.func138, Tryz.ntmps138
  go_wp2_with fail
  go_ret
  exact ⟨ret1 R.out, Below.refl _ _⟩

set_option maxRecDepth 100000 in
set_option maxHeartbeats 4000000 in
theorem prk_64_2 (x y : BitVec 64) (w : World) :
    Calls Tryz.prog 138 #[.int .u8 2, .int .u64 x.toNat, .int .u64 y.toNat, .int .i64 64] w fun e w' => e = .returned (.int .u64 ((x * y : BitVec 64).toNat : Int)) ∧ Below w.heap.size w w' := by
  have hby := by_u64 y
  have hk : y.toNat % 64 < 64 := Nat.mod_lt _ (by decide)
  generalize y.toNat % 64 = k at *
  have R := hid (mul_u64 x y)
  go_enter Tryz.func138, Tryz.ntmps138
  go_wp2_with fail
  go_ret
  exact ⟨ret1 R.out, Below.refl _ _⟩

set_option maxRecDepth 100000 in
set_option maxHeartbeats 4000000 in
theorem prk_64_7 (x y : BitVec 64) (w : World) :
    Calls Tryz.prog 138 #[.int .u8 7, .int .u64 x.toNat, .int .u64 y.toNat, .int .i64 64] w fun e w' => e = .returned (.int .u64 ((bwV 7 x y (y.toNat % 64) : BitVec 64).toNat : Int)) ∧ Below w.heap.size w w' := by
  have hby := by_u64 y
  have hk : y.toNat % 64 < 64 := Nat.mod_lt _ (by decide)
  generalize y.toNat % 64 = k at *
  have R := hid (and_u64 x y)
  go_enter Tryz.func138, Tryz.ntmps138
  go_wp2_with fail
  go_ret
  exact ⟨ret1 R.out, Below.refl _ _⟩

set_option maxRecDepth 100000 in
set_option maxHeartbeats 4000000 in
theorem prk_64_8 (x y : BitVec 64) (w : World) :
    Calls Tryz.prog 138 #[.int .u8 8, .int .u64 x.toNat, .int .u64 y.toNat, .int .i64 64] w fun e w' => e = .returned (.int .u64 ((bwV 8 x y (y.toNat % 64) : BitVec 64).toNat : Int)) ∧ Below w.heap.size w w' := by
  have hby := by_u64 y
  have hk : y.toNat % 64 < 64 := Nat.mod_lt _ (by decide)
  generalize y.toNat % 64 = k at *
  have R := hid (or_u64 x y)
  go_enter Tryz.func138, Tryz.ntmps138
  go_wp2_with fail
  go_ret
  exact ⟨ret1 R.out, Below.refl _ _⟩

set_option maxRecDepth 100000 in
set_option maxHeartbeats 4000000 in
theorem prk_64_9 (x y : BitVec 64) (w : World) :
    Calls Tryz.prog 138 #[.int .u8 9, .int .u64 x.toNat, .int .u64 y.toNat, .int .i64 64] w fun e w' => e = .returned (.int .u64 ((bwV 9 x y (y.toNat % 64) : BitVec 64).toNat : Int)) ∧ Below w.heap.size w w' := by
  have hby := by_u64 y
  have hk : y.toNat % 64 < 64 := Nat.mod_lt _ (by decide)
  generalize y.toNat % 64 = k at *
  have R := hid (xor_u64 x y)
  go_enter Tryz.func138, Tryz.ntmps138
  go_wp2_with fail
  go_ret
  exact ⟨ret1 R.out, Below.refl _ _⟩

set_option maxRecDepth 100000 in
set_option maxHeartbeats 4000000 in
theorem prk_64_10 (x y : BitVec 64) (w : World) :
    Calls Tryz.prog 138 #[.int .u8 10, .int .u64 x.toNat, .int .u64 y.toNat, .int .i64 64] w fun e w' => e = .returned (.int .u64 ((bwV 10 x y (y.toNat % 64) : BitVec 64).toNat : Int)) ∧ Below w.heap.size w w' := by
  have hby := by_u64 y
  have hk : y.toNat % 64 < 64 := Nat.mod_lt _ (by decide)
  generalize y.toNat % 64 = k at *
  have R := hid (shl_u64 x k)
  go_enter Tryz.func138, Tryz.ntmps138
  go_wp2_with fail
  go_ret
  exact ⟨ret1 R.out, Below.refl _ _⟩

set_option maxRecDepth 100000 in
set_option maxHeartbeats 4000000 in
theorem prk_64_11 (x y : BitVec 64) (w : World) :
    Calls Tryz.prog 138 #[.int .u8 11, .int .u64 x.toNat, .int .u64 y.toNat, .int .i64 64] w fun e w' => e = .returned (.int .u64 ((bwV 11 x y (y.toNat % 64) : BitVec 64).toNat : Int)) ∧ Below w.heap.size w w' := by
  have hby := by_u64 y
  have hk : y.toNat % 64 < 64 := Nat.mod_lt _ (by decide)
  generalize y.toNat % 64 = k at *
  have T := top_div x (by decide)
  have R0 := hid (shr_nat x k)
  have R1 := hid (fun h => sar_plain x k hk h)
  have R2 := hid (fun h => sar_ones x k hk h)
  have R3 := hid (or_u64 (x >>> k) (BitVec.allOnes 64 <<< (64 - k)))
  have R4 := hid (shl_u64 (BitVec.allOnes 64) (64 - k))
  rw [show (((BitVec.allOnes 64).toNat : Nat) : Int) = 18446744073709551615 from rfl] at R4
  cases hb : x.getLsbD (64 - 1)
  · rw [hb] at T
    have R5 := hid (R1.out hb)
    have T2 : (x.toNat : Int) / 9223372036854775808 = 0 := T
    clear hb T
    by_cases h0 : k = 0
    · subst h0
      go_enter Tryz.func138, Tryz.ntmps138
      go_wp2_with fail
      go_ret
      exact ⟨ret1 (by show _ = ((x.sshiftRight 0).toNat : Int); rw [← R5.out, ← R0.out]; simp), Below.refl _ _⟩
    · have h1 : 0 < k := by omega
      go_enter Tryz.func138, Tryz.ntmps138
      go_wp2_with fail
      go_ret
      exact ⟨ret1 (by show _ = ((x.sshiftRight k).toNat : Int); rw [← R5.out, ← R0.out]), Below.refl _ _⟩
  · rw [hb] at T
    have R5 := hid (R2.out hb)
    have T2 : (x.toNat : Int) / 9223372036854775808 = 1 := T
    clear hb T
    by_cases h0 : k = 0
    · subst h0
      have R6 := hid (show ((x.sshiftRight 0).toNat : Int) = x.toNat by simp)
      go_enter Tryz.func138, Tryz.ntmps138
      go_wp2_with fail
      go_ret
      exact ⟨ret1 (by show _ = ((x.sshiftRight 0).toNat : Int); rw [R6.out]), Below.refl _ _⟩
    · have h1 : 0 < k := by omega
      have hs : (64 : Int) - k = ((64 - k : Nat) : Int) := by omega
      have hj : 64 - k < 64 := by omega
      go_enter Tryz.func138, Tryz.ntmps138
      go_wp2_with fail
      go_ret
      exact ⟨ret1 (by show _ = ((x.sshiftRight k).toNat : Int); rw [← R5.out, ← R3.out, ← R4.out, ← R0.out, show bits BinOp.xor IntKind.u64 IntKind.u64.max 0 = 18446744073709551615 from by decide]; rw [wp_u64]), Below.refl _ _⟩

set_option maxRecDepth 100000 in
set_option maxHeartbeats 4000000 in
theorem prk_64_12 (x y : BitVec 64) (w : World) :
    Calls Tryz.prog 138 #[.int .u8 12, .int .u64 x.toNat, .int .u64 y.toNat, .int .i64 64] w fun e w' => e = .returned (.int .u64 ((bwV 12 x y (y.toNat % 64) : BitVec 64).toNat : Int)) ∧ Below w.heap.size w w' := by
  have hby := by_u64 y
  have hk : y.toNat % 64 < 64 := Nat.mod_lt _ (by decide)
  generalize y.toNat % 64 = k at *
  have R := hid (shr_nat x k)
  go_enter Tryz.func138, Tryz.ntmps138
  go_wp2_with fail
  go_ret
  exact ⟨ret1 R.out, Below.refl _ _⟩

set_option maxRecDepth 100000 in
set_option maxHeartbeats 4000000 in
theorem prk_64_13 (x y : BitVec 64) (w : World) :
    Calls Tryz.prog 138 #[.int .u8 13, .int .u64 x.toNat, .int .u64 y.toNat, .int .i64 64] w fun e w' => e = .returned (.int .u64 ((bwV 13 x y (y.toNat % 64) : BitVec 64).toNat : Int)) ∧ Below w.heap.size w w' := by
  have hby := by_u64 y
  have hk : y.toNat % 64 < 64 := Nat.mod_lt _ (by decide)
  generalize y.toNat % 64 = k at *
  have R1 := hid (shl_u64 x k)
  have R2 := hid (shr_nat x (64 - k))
  have R3 := hid (or_u64 (x <<< k) (x >>> (64 - k)))
  have R4 := hid (show x.rotateLeft k = (x <<< k) ||| (x >>> (64 - k)) from by unfold BitVec.rotateLeft; rw [Nat.mod_eq_of_lt hk]; rfl)
  have hs : (64 : Int) - k = ((64 - k : Nat) : Int) := by omega
  have hj : 64 - k ≤ 64 := by omega
  have hi : IntKind.i64.wrap ((64 : Int) - k) = ((64 - k : Nat) : Int) := by rw [IntKind.wrap_i64]; omega
  have hd1 : decide ((k : Int) < 0) = false := by simp
  have hd2 : decide (((64 - k : Nat) : Int) < 0) = false := by simp
  have hd3 : ¬ ((k : Int) < 0) := by omega
  have hd4 : ¬ (((64 - k : Nat) : Int) < 0) := by omega
  go_enter Tryz.func138, Tryz.ntmps138
  go_wp2_with fail
  go_quiet (fail)
  go_wp2_with fail
  go_ret
  exact ⟨ret1 (by show _ = ((x.rotateLeft k).toNat : Int); (try rw [wp_u64]); rw [R4.out, ← R3.out, ← R1.out, ← R2.out]), drew_bel' (n := nq) (Below.refl _ _)⟩

set_option maxRecDepth 100000 in
set_option maxHeartbeats 4000000 in
theorem prk_64_14 (x y : BitVec 64) (w : World) :
    Calls Tryz.prog 138 #[.int .u8 14, .int .u64 x.toNat, .int .u64 y.toNat, .int .i64 64] w fun e w' => e = .returned (.int .u64 ((bwV 14 x y (y.toNat % 64) : BitVec 64).toNat : Int)) ∧ Below w.heap.size w w' := by
  have hby := by_u64 y
  have hk : y.toNat % 64 < 64 := Nat.mod_lt _ (by decide)
  generalize y.toNat % 64 = k at *
  have R1 := hid (shr_nat x k)
  have R2 := hid (shl_u64 x (64 - k))
  have R3 := hid (or_u64 (x >>> k) (x <<< (64 - k)))
  have R4 := hid (show x.rotateRight k = (x >>> k) ||| (x <<< (64 - k)) from by unfold BitVec.rotateRight; rw [Nat.mod_eq_of_lt hk]; rfl)
  have hs : (64 : Int) - k = ((64 - k : Nat) : Int) := by omega
  have hj : 64 - k ≤ 64 := by omega
  have hi : IntKind.i64.wrap ((64 : Int) - k) = ((64 - k : Nat) : Int) := by rw [IntKind.wrap_i64]; omega
  have hd1 : decide ((k : Int) < 0) = false := by simp
  have hd2 : decide (((64 - k : Nat) : Int) < 0) = false := by simp
  have hd3 : ¬ ((k : Int) < 0) := by omega
  have hd4 : ¬ (((64 - k : Nat) : Int) < 0) := by omega
  go_enter Tryz.func138, Tryz.ntmps138
  go_wp2_with fail
  go_quiet (fail)
  go_wp2_with fail
  go_ret
  exact ⟨ret1 (by show _ = ((x.rotateRight k).toNat : Int); (try rw [wp_u64]); rw [R4.out, ← R3.out, ← R1.out, ← R2.out]), drew_bel' (n := nq) (Below.refl _ _)⟩
end Go.Proofs.YtakfineljffoaaaGreatDoor
