/-
  THE LEB128 READER OF NUMBERS WITHOUT A SIGN, the reference's, for all strings. No condition beside a string's length.
-/
import Derived.Test.YtomaiolhaenmhaaLebW
namespace Go.Proofs.Ytomaiolhaenmhaa
open Go.RowKit

theorem pow128 (k : Nat) : (128 : Nat) ^ k = 2 ^ (7 * k) := by
  rw [Nat.pow_mul]

theorem refU_eq {b : Nat} (hb : b = 32 ∨ b = 64) (l : List UInt8) : refU b l = ru b l 0 0 := by
  have hm : 0 < mostOf b := by unfold mostOf; split <;> decide
  rw [ru_lead hb l 0 0 hm]
  simp only [Nat.zero_add, Nat.sub_zero, Nat.mul_zero, Nat.pow_zero, Nat.one_mul]
  unfold refU spanR
  by_cases h1 : lead (mostOf b) l = mostOf b
  · simp [h1]
  · by_cases h2 : lead (mostOf b) l = l.length
    · rw [if_neg h1, if_pos h2, if_neg h1, if_pos h2]; simp
    · rw [if_neg h1, if_neg h2, if_neg h1, if_neg h2]
      simp only [ne_eq, not_true_eq_false, if_false, Nat.add_sub_cancel]
      split
      · rfl
      · rename_i h3
        have hl := lead_le (mostOf b) l
        congr 1
        apply Nat.mod_eq_of_lt
        have hk : lead (mostOf b) l < l.length := by omega
        rw [List.take_succ_eq_append_getElem hk, horner_snoc]
        have ht : (l.take (lead (mostOf b) l)).length = lead (mostOf b) l := by simp; omega
        have h4 := horner_lt (l.take (lead (mostOf b) l))
        rw [ht] at h4 ⊢
        have hg : l.getD (lead (mostOf b) l) 0 = l[lead (mostOf b) l] := by
          rw [List.getD_eq_getElem?_getD, List.getElem?_eq_getElem hk]; rfl
        rw [hg] at h3
        generalize lead (mostOf b) l = k at *
        have hbb : (2 : Nat) ^ b ≤ 2 ^ 64 := Nat.pow_le_pow_right (by decide) (by omega)
        have e64 : (2 : Nat) ^ 64 = 18446744073709551616 := by decide
        have hmod : l[k].toNat % 128 ≤ l[k].toNat := Nat.mod_le _ _
        have hmod2 := Nat.mod_lt l[k].toNat (show 0 < 128 by decide)
        rw [pow128] at h4 ⊢
        suffices h : horner (l.take k) + 2 ^ (7 * k) * (l[k].toNat % 128) < 2 ^ b by omega
        have key : ∀ x, l[k].toNat % 128 + 1 ≤ 2 ^ x → 7 * k + x ≤ b → horner (l.take k) + 2 ^ (7 * k) * (l[k].toNat % 128) < 2 ^ b := by
          intro x hx hxb
          have h5 : 2 ^ (7 * k) * (l[k].toNat % 128 + 1) ≤ 2 ^ (7 * k) * 2 ^ x := Nat.mul_le_mul_left _ hx
          rw [← Nat.pow_add, Nat.mul_add] at h5
          have h6 : (2 : Nat) ^ (7 * k + x) ≤ 2 ^ b := Nat.pow_le_pow_right (by decide) hxb
          omega
        by_cases hlast : k + 1 = mostOf b
        · have h7 : ¬ 2 ^ (b - 7 * (mostOf b - 1)) ≤ l[k].toNat := fun h => h3 ⟨hlast, h⟩
          refine key (b - 7 * (mostOf b - 1)) (by omega) ?_
          rcases hb with rfl | rfl <;> simp [mostOf] at hlast ⊢ <;> omega
        · refine key 7 (by omega) ?_
          rcases hb with rfl | rfl <;> simp [mostOf] at hl hlast h1 ⊢ <;> omega

theorem refU_all (s : ByteArray) (b : Nat) (w : World) (hs : s.size ≤ maxLen) (hb : b = 32 ∨ b = 64) :
    Calls Try.prog 165 #[.string s, .int .i64 b] w fun e w' => e = .returned (tup3 .u64 .i64 .i64 (ru b s.data.toList 0 0)) ∧ ∃ n, w' = w.drewN n := by
  rw [← refU_eq hb]
  rcases hb with rfl | rfl
  · exact refU_32 s w hs
  · exact refU_64 s w hs

theorem drewN_below {W w : World} {B n : Nat} (h : Below B W w) : Below B W (w.drewN n) := ⟨h.os, h.tape, h.output, h.size, h.block⟩

theorem ru_room2 {b k a c : Nat} (hb : b = 32 ∨ b = 64) (h7 : 7 * k < b) (ha : a < 2 ^ (7 * k)) (hc : ¬ (b - 7 * k < 7 ∧ c / 2 ^ (b - 7 * k) ≠ 0)) :
    a + c % 128 * 2 ^ (7 * k) < 2 ^ b := by
  have hbb : (2 : Nat) ^ b ≤ 2 ^ 64 := Nat.pow_le_pow_right (by decide) (by omega)
  have e64 : (2 : Nat) ^ 64 = 18446744073709551616 := by decide
  by_cases hl : b - 7 * k < 7
  · have h0 : c / 2 ^ (b - 7 * k) = 0 := Classical.byContradiction fun h => hc ⟨hl, h⟩
    have h1 : c < 2 ^ (b - 7 * k) := by
      rcases Nat.div_eq_zero_iff.1 h0 with h | h
      · have := Nat.two_pow_pos (b - 7 * k); omega
      · exact h
    have h2 : c % 128 ≤ c := Nat.mod_le _ _
    have h3 : (c % 128 + 1) * 2 ^ (7 * k) ≤ 2 ^ (b - 7 * k) * 2 ^ (7 * k) := Nat.mul_le_mul_right _ (by omega)
    rw [← Nat.pow_add, show b - 7 * k + 7 * k = b from by omega, Nat.add_mul] at h3
    omega
  · have h3 : (c % 128 + 1) * 2 ^ (7 * k) ≤ 2 ^ 7 * 2 ^ (7 * k) := Nat.mul_le_mul_right _ (by have := Nat.mod_lt c (show 0 < 128 by decide); omega)
    rw [← Nat.pow_add, Nat.add_mul] at h3
    have h4 : (2 : Nat) ^ (7 + 7 * k) ≤ 2 ^ b := Nat.pow_le_pow_right (by decide) (by omega)
    omega

theorem ru_facts {b : Nat} (hb : b = 32 ∨ b = 64) (l : List UInt8) : ∀ (i n : Nat), n < 2 ^ (7 * i) → 7 * i < b →
    ((ru b l i n).2.2 = 0 → i < (ru b l i n).2.1 ∧ (ru b l i n).2.1 ≤ i + l.length ∧ (ru b l i n).1 < 2 ^ b) ∧ ((ru b l i n).2.2 ≠ 0 → (ru b l i n).1 = 0 ∧ (ru b l i n).2.1 = 0) := by
  induction l with
  | nil => intro i n _ _; exact ⟨fun h => by simp [ru] at h, fun _ => ⟨rfl, rfl⟩⟩
  | cons c r ih =>
    intro i n hn hi
    rw [ru]
    by_cases h1 : b - 7 * i < 7 ∧ c.toNat / 2 ^ (b - 7 * i) ≠ 0
    · rw [if_pos h1]; exact ⟨fun h => by simp at h, fun _ => ⟨rfl, rfl⟩⟩
    rw [if_neg h1]
    by_cases h2 : c.toNat < 128
    · rw [if_pos h2]
      exact ⟨fun _ => ⟨by simp, by simp, ru_room2 hb hi hn h1⟩, fun h => absurd rfl h⟩
    · rw [if_neg h2]
      have h3 := ih (i + 1) (n + c.toNat % 128 * 2 ^ (7 * i)) (ru_next hn) (ru_more hb hi h1 (by omega))
      refine ⟨fun h => ?_, h3.2⟩
      obtain ⟨g1, g2, g3⟩ := h3.1 h
      exact ⟨by omega, by rw [List.length_cons]; omega, g3⟩
end Go.Proofs.Ytomaiolhaenmhaa
