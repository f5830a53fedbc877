/-
  THE PROGRAM's divide, at 32 and 64 bits. Condition: the numbers lie in their kinds.
-/
import Derived.Test.YtomaiolhaenmhaaWbf
namespace Go.Proofs.Ytomaiolhaenmhaa
open Go.RowKit Go.Lib

theorem tdiv_abs (s t : Int) : (s.tdiv t).natAbs ≤ s.natAbs := by rw [Int.natAbs_tdiv]; exact Nat.div_le_self _ _
theorem tdiv_half (s t : Int) (h : 2 ≤ t.natAbs) : (s.tdiv t).natAbs ≤ s.natAbs / 2 := by
  rw [Int.natAbs_tdiv]
  exact Nat.div_le_div_left h (by decide)
theorem tmod_abs (s t : Int) (h : t ≠ 0) : (s.tmod t).natAbs < t.natAbs := by
  rw [Int.natAbs_tmod]
  exact Nat.mod_lt _ (by omega)

set_option maxRecDepth 100000 in
set_option maxHeartbeats 4000000 in
theorem pdiv_zero_int32 (s t p q : Int) (ht : -2147483648 ≤ t ∧ t ≤ 2147483647) (wh : Int) (h0 : t = 0) (w : World) :
    Calls Try.prog 83 #[.int .u8 wh, .int .i32 s, .int .i32 t, .int .u32 p, .int .u32 q] w fun e w' => e = .returned (.tuple #[.int .i64 0, .int .i64 21]) ∧ w = w' := by
  subst h0
  go_enter Try.func83, Try.ntmps83
  go_wp2_with fail
  go_ret2
  exact ⟨rfl, rfl⟩

set_option maxRecDepth 100000 in
set_option maxHeartbeats 4000000 in
theorem pdiv_over_int32 (s t p q : Int) (hs : -2147483648 ≤ s ∧ s ≤ 2147483647) (ht : -2147483648 ≤ t ∧ t ≤ 2147483647) (h1 : t = -1) (h2 : s = -2147483648) (w : World) :
    Calls Try.prog 83 #[.int .u8 0, .int .i32 s, .int .i32 t, .int .u32 p, .int .u32 q] w fun e w' => e = .returned (.tuple #[.int .i64 0, .int .i64 22]) ∧ w = w' := by
  subst h1 h2
  have hov : wrap32 2147483648 = -2147483648 := by unfold wrap32; omega
  go_enter Try.func83, Try.ntmps83
  go_wp2_with fail
  go_ret2
  exact ⟨rfl, rfl⟩

set_option maxRecDepth 100000 in
set_option maxHeartbeats 4000000 in
theorem pdiv_s_int32 (s t p q : Int) (hs : -2147483648 ≤ s ∧ s ≤ 2147483647) (ht : -2147483648 ≤ t ∧ t ≤ 2147483647) (h0 : t ≠ 0) (h1 : ¬ (t = -1 ∧ s = -2147483648)) (w : World) :
    Calls Try.prog 83 #[.int .u8 0, .int .i32 s, .int .i32 t, .int .u32 p, .int .u32 q] w fun e w' => e = .returned (.tuple #[.int .i64 (s.tdiv t), .int .i64 0]) ∧ w = w' := by
  have hz : (t == 0) = false := by simpa using h0
  have hd : -2147483648 ≤ s.tdiv t ∧ s.tdiv t ≤ 2147483647 := by
    have e1 := tdiv_abs s t
    by_cases e2 : s = -2147483648
    · by_cases e3 : t = 1
      · rw [e3, Int.tdiv_one]; omega
      · have e4 := tdiv_half s t (by omega)
        omega
    · omega
  by_cases ha : t = -1
  · subst ha
    have hne : s ≠ -2147483648 := fun e => h1 ⟨rfl, e⟩
    have hw : (s == -s) = decide (s = 0) := by rw [Bool.eq_iff_iff]; simp; omega
    by_cases hs0 : s = 0
    · subst hs0
      go_enter Try.func83, Try.ntmps83
      go_wp2_with fail
      go_ret2
      exact ⟨rfl, rfl⟩
    · have hsb : (s == 0) = false := by simpa using hs0
      go_enter Try.func83, Try.ntmps83
      go_wp2_with fail
      go_ret2
      exact ⟨rfl, rfl⟩
  · have hab : (t == -1) = false := by simpa using ha
    go_enter Try.func83, Try.ntmps83
    go_wp2_with fail
    go_ret2
    exact ⟨rfl, rfl⟩

set_option maxRecDepth 100000 in
set_option maxHeartbeats 4000000 in
theorem pdiv_u_int32 (s t p q : Int) (hp : 0 ≤ p ∧ p ≤ 4294967295) (hq : 0 ≤ q ∧ q ≤ 4294967295) (h0 : t ≠ 0) (hq0 : q ≠ 0) (w : World) :
    Calls Try.prog 83 #[.int .u8 1, .int .i32 s, .int .i32 t, .int .u32 p, .int .u32 q] w fun e w' => e = .returned (.tuple #[.int .i64 (p.tdiv q), .int .i64 0]) ∧ w = w' := by
  have hz : (t == 0) = false := by simpa using h0
  have hz2 : (q == 0) = false := by simpa using hq0
  have hd : 0 ≤ p.tdiv q ∧ p.tdiv q ≤ 4294967295 := by
    rw [Int.tdiv_eq_ediv_of_nonneg hp.1]
    have e1 := Int.ediv_nonneg hp.1 hq.1
    have e2 := Int.ediv_le_self q hp.1
    omega
  go_enter Try.func83, Try.ntmps83
  go_wp2_with fail
  go_ret2
  exact ⟨rfl, rfl⟩

set_option maxRecDepth 100000 in
set_option maxHeartbeats 4000000 in
theorem pdiv_r_int32 (s t p q : Int) (ht : -2147483648 ≤ t ∧ t ≤ 2147483647) (h0 : t ≠ 0) (w : World) :
    Calls Try.prog 83 #[.int .u8 2, .int .i32 s, .int .i32 t, .int .u32 p, .int .u32 q] w fun e w' => e = .returned (.tuple #[.int .i64 (s.tmod t), .int .i64 0]) ∧ w = w' := by
  have hz : (t == 0) = false := by simpa using h0
  have hd : -2147483648 ≤ s.tmod t ∧ s.tmod t ≤ 2147483647 := by
    have e1 := tmod_abs s t h0
    omega
  by_cases ha : t = -1
  · subst ha
    have hm : s.tmod (-1) = 0 := by simp
    rw [hm]
    go_enter Try.func83, Try.ntmps83
    go_wp2_with fail
    go_ret2
    exact ⟨rfl, rfl⟩
  · have hab : (t == -1) = false := by simpa using ha
    go_enter Try.func83, Try.ntmps83
    go_wp2_with fail
    go_ret2
    exact ⟨rfl, rfl⟩

set_option maxRecDepth 100000 in
set_option maxHeartbeats 4000000 in
theorem pdiv_m_int32 (s t p q : Int) (hp : 0 ≤ p ∧ p ≤ 4294967295) (hq : 0 ≤ q ∧ q ≤ 4294967295) (h0 : t ≠ 0) (hq0 : q ≠ 0) (w : World) :
    Calls Try.prog 83 #[.int .u8 3, .int .i32 s, .int .i32 t, .int .u32 p, .int .u32 q] w fun e w' => e = .returned (.tuple #[.int .i64 (p % q), .int .i64 0]) ∧ w = w' := by
  have hz : (t == 0) = false := by simpa using h0
  have hz2 : (q == 0) = false := by simpa using hq0
  have hd : 0 ≤ p % q ∧ p % q ≤ 4294967295 := by
    have e1 := Int.emod_nonneg p hq0
    have e2 := Int.emod_lt_of_pos p (by omega : 0 < q)
    omega
  go_enter Try.func83, Try.ntmps83
  go_wp2_with fail
  go_ret2
  exact ⟨rfl, rfl⟩

set_option maxRecDepth 100000 in
set_option maxHeartbeats 4000000 in
theorem pdiv_zero_int64 (s t p q : Int) (ht : -9223372036854775808 ≤ t ∧ t ≤ 9223372036854775807) (wh : Int) (h0 : t = 0) (w : World) :
    Calls Try.prog 84 #[.int .u8 wh, .int .i64 s, .int .i64 t, .int .u64 p, .int .u64 q] w fun e w' => e = .returned (.tuple #[.int .i64 0, .int .i64 21]) ∧ w = w' := by
  subst h0
  go_enter Try.func84, Try.ntmps84
  go_wp2_with fail
  go_ret2
  exact ⟨rfl, rfl⟩

set_option maxRecDepth 100000 in
set_option maxHeartbeats 4000000 in
theorem pdiv_over_int64 (s t p q : Int) (hs : -9223372036854775808 ≤ s ∧ s ≤ 9223372036854775807) (ht : -9223372036854775808 ≤ t ∧ t ≤ 9223372036854775807) (h1 : t = -1) (h2 : s = -9223372036854775808) (w : World) :
    Calls Try.prog 84 #[.int .u8 0, .int .i64 s, .int .i64 t, .int .u64 p, .int .u64 q] w fun e w' => e = .returned (.tuple #[.int .i64 0, .int .i64 22]) ∧ w = w' := by
  subst h1 h2
  have hov : wrap64 9223372036854775808 = -9223372036854775808 := by unfold wrap64; omega
  go_enter Try.func84, Try.ntmps84
  go_wp2_with fail
  go_ret2
  exact ⟨rfl, rfl⟩

set_option maxRecDepth 100000 in
set_option maxHeartbeats 4000000 in
theorem pdiv_s_int64 (s t p q : Int) (hs : -9223372036854775808 ≤ s ∧ s ≤ 9223372036854775807) (ht : -9223372036854775808 ≤ t ∧ t ≤ 9223372036854775807) (h0 : t ≠ 0) (h1 : ¬ (t = -1 ∧ s = -9223372036854775808)) (w : World) :
    Calls Try.prog 84 #[.int .u8 0, .int .i64 s, .int .i64 t, .int .u64 p, .int .u64 q] w fun e w' => e = .returned (.tuple #[.int .i64 (s.tdiv t), .int .i64 0]) ∧ w = w' := by
  have hz : (t == 0) = false := by simpa using h0
  have hd : -9223372036854775808 ≤ s.tdiv t ∧ s.tdiv t ≤ 9223372036854775807 := by
    have e1 := tdiv_abs s t
    by_cases e2 : s = -9223372036854775808
    · by_cases e3 : t = 1
      · rw [e3, Int.tdiv_one]; omega
      · have e4 := tdiv_half s t (by omega)
        omega
    · omega
  by_cases ha : t = -1
  · subst ha
    have hne : s ≠ -9223372036854775808 := fun e => h1 ⟨rfl, e⟩
    have hw : (s == -s) = decide (s = 0) := by rw [Bool.eq_iff_iff]; simp; omega
    by_cases hs0 : s = 0
    · subst hs0
      go_enter Try.func84, Try.ntmps84
      go_wp2_with fail
      go_ret2
      exact ⟨rfl, rfl⟩
    · have hsb : (s == 0) = false := by simpa using hs0
      go_enter Try.func84, Try.ntmps84
      go_wp2_with fail
      go_ret2
      exact ⟨rfl, rfl⟩
  · have hab : (t == -1) = false := by simpa using ha
    go_enter Try.func84, Try.ntmps84
    go_wp2_with fail
    go_ret2
    exact ⟨rfl, rfl⟩

set_option maxRecDepth 100000 in
set_option maxHeartbeats 4000000 in
theorem pdiv_u_int64 (s t p q : Int) (hp : 0 ≤ p ∧ p ≤ 18446744073709551615) (hq : 0 ≤ q ∧ q ≤ 18446744073709551615) (h0 : t ≠ 0) (hq0 : q ≠ 0) (w : World) :
    Calls Try.prog 84 #[.int .u8 1, .int .i64 s, .int .i64 t, .int .u64 p, .int .u64 q] w fun e w' => e = .returned (.tuple #[.int .i64 (wrap64 (p.tdiv q)), .int .i64 0]) ∧ w = w' := by
  have hz : (t == 0) = false := by simpa using h0
  have hz2 : (q == 0) = false := by simpa using hq0
  have hd : 0 ≤ p.tdiv q ∧ p.tdiv q ≤ 18446744073709551615 := by
    rw [Int.tdiv_eq_ediv_of_nonneg hp.1]
    have e1 := Int.ediv_nonneg hp.1 hq.1
    have e2 := Int.ediv_le_self q hp.1
    omega
  go_enter Try.func84, Try.ntmps84
  go_wp2_with fail
  go_ret2
  exact ⟨rfl, rfl⟩

set_option maxRecDepth 100000 in
set_option maxHeartbeats 4000000 in
theorem pdiv_r_int64 (s t p q : Int) (ht : -9223372036854775808 ≤ t ∧ t ≤ 9223372036854775807) (h0 : t ≠ 0) (w : World) :
    Calls Try.prog 84 #[.int .u8 2, .int .i64 s, .int .i64 t, .int .u64 p, .int .u64 q] w fun e w' => e = .returned (.tuple #[.int .i64 (s.tmod t), .int .i64 0]) ∧ w = w' := by
  have hz : (t == 0) = false := by simpa using h0
  have hd : -9223372036854775808 ≤ s.tmod t ∧ s.tmod t ≤ 9223372036854775807 := by
    have e1 := tmod_abs s t h0
    omega
  by_cases ha : t = -1
  · subst ha
    have hm : s.tmod (-1) = 0 := by simp
    rw [hm]
    go_enter Try.func84, Try.ntmps84
    go_wp2_with fail
    go_ret2
    exact ⟨rfl, rfl⟩
  · have hab : (t == -1) = false := by simpa using ha
    go_enter Try.func84, Try.ntmps84
    go_wp2_with fail
    go_ret2
    exact ⟨rfl, rfl⟩

set_option maxRecDepth 100000 in
set_option maxHeartbeats 4000000 in
theorem pdiv_m_int64 (s t p q : Int) (hp : 0 ≤ p ∧ p ≤ 18446744073709551615) (hq : 0 ≤ q ∧ q ≤ 18446744073709551615) (h0 : t ≠ 0) (hq0 : q ≠ 0) (w : World) :
    Calls Try.prog 84 #[.int .u8 3, .int .i64 s, .int .i64 t, .int .u64 p, .int .u64 q] w fun e w' => e = .returned (.tuple #[.int .i64 (wrap64 (p % q)), .int .i64 0]) ∧ w = w' := by
  have hz : (t == 0) = false := by simpa using h0
  have hz2 : (q == 0) = false := by simpa using hq0
  have hd : 0 ≤ p % q ∧ p % q ≤ 18446744073709551615 := by
    have e1 := Int.emod_nonneg p hq0
    have e2 := Int.emod_lt_of_pos p (by omega : 0 < q)
    omega
  go_enter Try.func84, Try.ntmps84
  go_wp2_with fail
  go_ret2
  exact ⟨rfl, rfl⟩
end Go.Proofs.Ytomaiolhaenmhaa
