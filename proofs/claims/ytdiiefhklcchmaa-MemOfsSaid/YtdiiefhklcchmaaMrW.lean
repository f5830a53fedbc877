/-
  THE REFERENCE's WORDS: plain (the proof is XWdn's). No condition beside the readings.
-/
import Derived.Test.YtdiiefhklcchmaaWdw
import Derived.IntWalk
namespace Go.Proofs.Ytdiiefhklcchmaa
open Go.RowKit Go.Lib

theorem div_step (x k : Nat) : x / 2 ^ k = 2 * (x / 2 ^ (k + 1)) + (if x.testBit k = true then 1 else 0) := by
  rw [Nat.testBit_eq_decide_div_mod_eq, Nat.pow_succ, ← Nat.div_div_eq_div_mul]
  generalize x / 2 ^ k = q
  by_cases h : q % 2 = 1
  · simp [h]; omega
  · simp [h]; omega

set_option maxRecDepth 100000 in
set_option maxHeartbeats 2000000 in
theorem plain_any {n : Nat} (b : BitVec n) (h0 : 0 < n) (hn : n ≤ 64) (w : World) (v : Value) (hv : Bools w v (bl b)) :
    Calls Try.prog 29 #[v] w fun e w' => e = .returned (.int .u64 b.toNat) ∧ w = w' := by
  obtain ⟨g, off, cap, rfl, hcap, hm, HC⟩ := bools_open b h0 hv
  clear hv
  have hlt64 : b.toNat < 18446744073709551616 := Nat.lt_of_lt_of_le b.isLt (by
    have h2 : 2 ^ n ≤ 2 ^ 64 := Nat.pow_le_pow_right (by decide) hn
    rw [show (2 : Nat) ^ 64 = 18446744073709551616 from by decide] at h2
    exact h2)
  have hz := hid (show b.toNat / 2 ^ n = 0 from Nat.div_eq_of_lt b.isLt)
  have hLT := hid hlt64
  go_enter Try.func29, Try.ntmps29
  go_wp2_with fail
  go_loop [4, 3] (fun i r => ∃ k : Nat, k ≤ n ∧ i = .int .i64 ((k : Int) - 1) ∧ r = .int .u64 ((b.toNat / 2 ^ k : Nat) : Int)) (fun i _ => (RowKit.intOf i + 1).toNat)
  case atStart => exact ⟨n, Nat.le_refl _, rfl, by rw [hz.out]; rfl⟩
  case round =>
    obtain ⟨k, hk, rfl, rfl⟩ := hrel
    cases k with
    | zero =>
      have e0 : b.toNat / 2 ^ 0 = b.toNat := by simp
      rw [e0]
      go_wp2_with fail
      go_ret
      exact ⟨rfl, rfl⟩
    | succ j =>
      have hck := HC.out j (by omega)
      have hst := div_step b.toNat j
      rw [BitVec.testBit_toNat] at hst
      have hle : b.toNat / 2 ^ j ≤ b.toNat := Nat.div_le_self _ _
      have hj : ((j + 1 : Nat) : Int) - 1 = (j : Int) := by omega
      have hb2 : b.toNat / 2 ^ j < 18446744073709551616 := by omega
      rw [hj]
      generalize hq : b.toNat / 2 ^ j = q at *
      have HQ0 := hid hq
      clear hq
      generalize b.toNat / 2 ^ (j + 1) = p at *
      have hjn : (j : Int) < (n : Int) := by omega
      cases hbt : b.getLsbD j with
      | true =>
        rw [hbt] at hck hst
        have HQ := hid (show q = 2 * p + 1 from hst)
        have hp1 : 2 * p + 1 < 18446744073709551616 := by have := HQ.out; omega
        clear hst hle hb2 hj
        go_wp2_with fail
        go_round
        case rel => exact ⟨j, by omega, rfl, by rw [HQ0.out, HQ.out]; congr 1; omega⟩
        case measure => simp [RowKit.intOf]
      | false =>
        rw [hbt] at hck hst
        have HQ := hid (show q = 2 * p from hst)
        have hp1 : 2 * p < 18446744073709551616 := by have := HQ.out; omega
        clear hst hle hb2 hj
        go_wp2_with fail
        go_round
        case rel => exact ⟨j, by omega, rfl, by rw [HQ0.out, HQ.out]; congr 1; omega⟩
        case measure => simp [RowKit.intOf]
end Go.Proofs.Ytdiiefhklcchmaa
