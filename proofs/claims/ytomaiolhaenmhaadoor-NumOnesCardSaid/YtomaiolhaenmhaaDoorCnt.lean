/-
  THE REFERENCE's WORDS: count from the top and from the bottom. No condition beside the readings.
-/
import Derived.Test.YtomaiolhaenmhaaDoorWdn
import Derived.Lib.BitFns
import Derived.Lib.TrailingZeros
namespace Go.Proofs.YtomaiolhaenmhaaDoor
open Go.RowKit Go.Lib

theorem testBit_lt {x i : Nat} (h : x < 2 ^ (i + 1)) (hb : x.testBit i = false) : x < 2 ^ i := by
  rw [Nat.testBit_eq_decide_div_mod_eq] at hb
  have h1 := of_decide_eq_false hb
  have hp : 0 < 2 ^ i := Nat.two_pow_pos i
  have h2 : x / 2 ^ i < 2 := by
    rw [Nat.div_lt_iff_lt_mul hp, Nat.mul_comm, ← Nat.pow_succ]; exact h
  have h3 : x / 2 ^ i = 0 := by
    generalize x / 2 ^ i = q at *
    omega
  exact (Nat.div_eq_zero_iff.1 h3).resolve_left (by omega)
theorem testBit_ge {x i : Nat} (h : x < 2 ^ (i + 1)) (hb : x.testBit i = true) : x / 2 ^ i = 1 := by
  rw [Nat.testBit_eq_decide_div_mod_eq] at hb
  have h1 := of_decide_eq_true hb
  have hp : 0 < 2 ^ i := Nat.two_pow_pos i
  have h2 : x / 2 ^ i < 2 := by
    rw [Nat.div_lt_iff_lt_mul hp, Nat.mul_comm, ← Nat.pow_succ]; exact h
  generalize x / 2 ^ i = q at *
  omega
theorem bitLen_top {x i : Nat} (hi : i < 64) (h : x < 2 ^ (i + 1)) (hb : x.testBit i = true) : Lib.bitLen x = i + 1 := by
  have h1 := testBit_ge h hb
  have hp : 0 < 2 ^ i := Nat.two_pow_pos i
  have h2 : 2 ^ i ≤ x := by
    have := Nat.div_mul_le_self x (2 ^ i)
    rw [h1] at this; omega
  have h3 : x < 2 ^ 64 := Nat.lt_of_lt_of_le h (Nat.pow_le_pow_right (by decide) (by omega))
  rw [Lib.bitLen_shift i x h2 h3, h1]
  rfl
theorem bitLen_zero : Lib.bitLen 0 = 0 := rfl
theorem ctzFrom_at : ∀ (i f x : Nat), i < f → x % 2 ^ i = 0 → x.testBit i = true → Lib.ctzFrom f x = i
  | 0, f + 1, x, _, _, hb => by
    unfold Lib.ctzFrom
    rw [Nat.testBit_zero] at hb
    rw [if_pos (of_decide_eq_true hb)]
  | i + 1, f + 1, x, hf, hm, hb => by
    unfold Lib.ctzFrom
    have h2 : x % 2 = 0 := by
      have : 2 ∣ 2 ^ (i + 1) := ⟨2 ^ i, by rw [Nat.pow_succ, Nat.mul_comm]⟩
      have h3 := Nat.mod_mod_of_dvd x this
      rw [hm] at h3
      omega
    rw [if_neg (by omega)]
    have hm2 : x / 2 % 2 ^ i = 0 := by
      have := Nat.mod_mul_right_div_self x 2 (2 ^ i)
      rw [Nat.mul_comm, ← Nat.pow_succ, hm] at this
      omega
    rw [ctzFrom_at i f (x / 2) (by omega) hm2 (by rw [Nat.testBit_succ] at hb; exact hb)]
    omega
theorem ctz_at {i n x : Nat} (hi : i < n) (hm : x % 2 ^ i = 0) (hb : x.testBit i = true) : Lib.ctz n x = i := by
  unfold Lib.ctz
  rw [if_neg (fun e => by rw [e] at hb; simp at hb), ctzFrom_at i n x hi hm hb]
theorem low_step {x k : Nat} (h : x % 2 ^ k = 0) (hb : x.testBit k = false) : x % 2 ^ (k + 1) = 0 := by
  rw [Nat.testBit_eq_decide_div_mod_eq] at hb
  have h1 := of_decide_eq_false hb
  rw [Nat.pow_succ, Nat.mod_mul, h]
  have : x / 2 ^ k % 2 = 0 := by omega
  rw [this]; rfl

set_option maxRecDepth 100000 in
set_option maxHeartbeats 2000000 in
theorem countDn_any {n : Nat} (b : BitVec n) (h0 : 0 < n) (hn : n ≤ 64) (w : World) (v : Value) (hv : Bools w v (bl b)) (F : Int) (hF : F = (n : Int) - 1) :
    Calls Tryd.prog 29 #[v, .int .i64 F, .int .i64 (-1), .bool true] w fun e w' => e = .returned (.int .i64 ((n : Int) - Lib.bitLen b.toNat)) ∧ w = w' := by
  obtain ⟨g, off, cap, rfl, hcap, hm, HC⟩ := bools_open b h0 hv
  subst hF
  clear hv
  have HLT := hid b.isLt
  go_enter Tryd.func29, Tryd.ntmps29
  go_wp2_with fail
  go_loop [10, 9] (fun i r => ∃ k : Nat, k ≤ n ∧ i = .int .i64 ((k : Int) - 1) ∧ r = .int .i64 ((n : Int) - k) ∧ Hid (b.toNat < 2 ^ k)) (fun i _ => (RowKit.intOf i + 1).toNat)
  case atStart => exact ⟨n, Nat.le_refl _, rfl, by go_num, HLT⟩
  case round =>
    obtain ⟨k, hk, rfl, rfl, hlt⟩ := hrel
    cases k with
    | zero =>
      have hb0 : b.toNat = 0 := by have h1 := hlt.out; rw [Nat.pow_zero] at h1; omega
      have hz : Hid (Lib.bitLen b.toNat = 0) := hid (by rw [hb0]; rfl)
      clear hb0
      go_wp2_with fail
      go_ret
      exact ⟨ret1 (by rw [hz.out]; omega), rfl⟩
    | succ j =>
      have hck := HC.out j (by omega)
      have hj : ((j + 1 : Nat) : Int) - 1 = (j : Int) := by omega
      have hjn : (j : Int) < (n : Int) := by omega
      rw [hj]
      cases hbt : b.getLsbD j with
      | true =>
        rw [hbt] at hck
        have hz := hid (bitLen_top (by omega) hlt.out (by rw [BitVec.testBit_toNat]; exact hbt))
        clear hbt hj
        go_wp2_with fail
        go_ret
        exact ⟨ret1 (by rw [hz.out]; omega), rfl⟩
      | false =>
        rw [hbt] at hck
        have hz := hid (testBit_lt hlt.out (by rw [BitVec.testBit_toNat]; exact hbt))
        clear hbt hj
        go_wp2_with fail
        go_round
        case rel => exact ⟨j, by omega, rfl, by go_num, hz⟩
        case measure => simp [RowKit.intOf]; omega
set_option maxRecDepth 100000 in
set_option maxHeartbeats 2000000 in
theorem countUp_any {n : Nat} (b : BitVec n) (h0 : 0 < n) (hn : n ≤ 64) (w : World) (v : Value) (hv : Bools w v (bl b)) :
    Calls Tryd.prog 29 #[v, .int .i64 0, .int .i64 1, .bool true] w fun e w' => e = .returned (.int .i64 (Lib.ctz n b.toNat)) ∧ w = w' := by
  obtain ⟨g, off, cap, rfl, hcap, hm, HC⟩ := bools_open b h0 hv
  clear hv
  go_enter Tryd.func29, Tryd.ntmps29
  go_wp2_with fail
  go_loop [10, 9] (fun i r => ∃ k : Nat, k ≤ n ∧ i = .int .i64 k ∧ r = .int .i64 k ∧ Hid (b.toNat % 2 ^ k = 0)) (fun i _ => n - (RowKit.intOf i).toNat)
  case atStart => exact ⟨0, Nat.zero_le _, rfl, rfl, hid (Nat.mod_one _)⟩
  case round =>
    obtain ⟨k, hk, rfl, rfl, hlow⟩ := hrel
    by_cases hlt : k < n
    · have hck := HC.out k hlt
      have hkn : (k : Int) < (n : Int) := by omega
      cases hbt : b.getLsbD k with
      | true =>
        rw [hbt] at hck
        have hz := hid (ctz_at hlt hlow.out (by rw [BitVec.testBit_toNat]; exact hbt))
        clear hbt
        go_wp2_with fail
        go_ret
        exact ⟨ret1 (by rw [hz.out]), rfl⟩
      | false =>
        rw [hbt] at hck
        have hz := hid (low_step hlow.out (by rw [BitVec.testBit_toNat]; exact hbt))
        clear hbt
        go_wp2_with fail
        go_round
        case rel => exact ⟨k + 1, by omega, by go_num, by go_num, hz⟩
        case measure => simp [RowKit.intOf]; omega
    · obtain rfl : k = n := by omega
      have hz := hid (show Lib.ctz k b.toNat = k from by
        have h1 := hlow.out
        rw [Nat.mod_eq_of_lt b.isLt] at h1
        unfold Lib.ctz
        rw [if_pos h1])
      go_wp2_with fail
      go_ret
      exact ⟨ret1 (by rw [hz.out]), rfl⟩
end Go.Proofs.YtomaiolhaenmhaaDoor
