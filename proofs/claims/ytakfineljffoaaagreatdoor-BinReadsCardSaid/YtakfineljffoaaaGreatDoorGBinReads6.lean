/-
  THE LEB128 READER OF NUMBERS WITHOUT A SIGN, the reference's, for all strings. No condition beside a string's length.
-/
import Derived.Test.YtakfineljffoaaaGreatDoorGBinReads2
import Derived.Test.YtakfineljffoaaaGreatDoorGBinReads4
import Derived.Test.YtakfineljffoaaaGreatDoorGBinReads5
namespace Go.Proofs.YtakfineljffoaaaGreatDoor
open Go.RowKit

theorem pow128 (k : Nat) : (128 : Nat) ^ k = 2 ^ (7 * k) := by
  rw [Nat.pow_mul]

theorem refU_eq {b : Nat} (hb : b = 32 ∨ b = 64) (l : List UInt8) : refU b l = ru b l 0 0 := by
  have hm : 0 < mostOf b := by unfold mostOf; split <;> decide
  rw [ru_lead hb l 0 0 hm]
  simp only [Nat.zero_add, Nat.sub_zero, Nat.mul_zero, Nat.pow_zero, Nat.one_mul]
  unfold refU spanR
  by_cases h1 : lead (mostOf b) l = mostOf b
  · simp [h1]
  · by_cases h2 : lead (mostOf b) l = l.length
    · rw [if_neg h1, if_pos h2, if_neg h1, if_pos h2]; simp
    · rw [if_neg h1, if_neg h2, if_neg h1, if_neg h2]
      simp only [ne_eq, not_true_eq_false, if_false, Nat.add_sub_cancel]
      split
      · rfl
      · rename_i h3
        have hl := lead_le (mostOf b) l
        congr 1
        apply Nat.mod_eq_of_lt
        have hk : lead (mostOf b) l < l.length := by omega
        rw [List.take_succ_eq_append_getElem hk, horner_snoc]
        have ht : (l.take (lead (mostOf b) l)).length = lead (mostOf b) l := by simp; omega
        have h4 := horner_lt (l.take (lead (mostOf b) l))
        rw [ht] at h4 ⊢
        have hg : l.getD (lead (mostOf b) l) 0 = l[lead (mostOf b) l] := by
          rw [List.getD_eq_getElem?_getD, List.getElem?_eq_getElem hk]; rfl
        rw [hg] at h3
        generalize lead (mostOf b) l = k at *
        have hbb : (2 : Nat) ^ b ≤ 2 ^ 64 := Nat.pow_le_pow_right (by decide) (by omega)
        have e64 : (2 : Nat) ^ 64 = 18446744073709551616 := by decide
        have hmod : l[k].toNat % 128 ≤ l[k].toNat := Nat.mod_le _ _
        have hmod2 := Nat.mod_lt l[k].toNat (show 0 < 128 by decide)
        rw [pow128] at h4 ⊢
        suffices h : horner (l.take k) + 2 ^ (7 * k) * (l[k].toNat % 128) < 2 ^ b by omega
        have key : ∀ x, l[k].toNat % 128 + 1 ≤ 2 ^ x → 7 * k + x ≤ b → horner (l.take k) + 2 ^ (7 * k) * (l[k].toNat % 128) < 2 ^ b := by
          intro x hx hxb
          have h5 : 2 ^ (7 * k) * (l[k].toNat % 128 + 1) ≤ 2 ^ (7 * k) * 2 ^ x := Nat.mul_le_mul_left _ hx
          rw [← Nat.pow_add, Nat.mul_add] at h5
          have h6 : (2 : Nat) ^ (7 * k + x) ≤ 2 ^ b := Nat.pow_le_pow_right (by decide) hxb
          omega
        by_cases hlast : k + 1 = mostOf b
        · have h7 : ¬ 2 ^ (b - 7 * (mostOf b - 1)) ≤ l[k].toNat := fun h => h3 ⟨hlast, h⟩
          refine key (b - 7 * (mostOf b - 1)) (by omega) ?_
          rcases hb with rfl | rfl <;> simp [mostOf] at hlast ⊢ <;> omega
        · refine key 7 (by omega) ?_
          rcases hb with rfl | rfl <;> simp [mostOf] at hl hlast h1 ⊢ <;> omega

theorem refU_all (s : ByteArray) (b : Nat) (w : World) (hs : s.size ≤ maxLen) (hb : b = 32 ∨ b = 64) :
    Calls Tryz.prog 90 #[.string s, .int .i64 b] w fun e w' => e = .returned (tup3 .u64 .i64 .i64 (ru b s.data.toList 0 0)) ∧ ∃ n, w' = w.drewN n := by
  rw [← refU_eq hb]
  rcases hb with rfl | rfl
  · exact refU_32 s w hs
  · exact refU_64 s w hs

theorem drewN_below {W w : World} {B n : Nat} (h : Below B W w) : Below B W (w.drewN n) := ⟨h.os, h.tape, h.output, h.size, h.block⟩

theorem ru_room2 {b k a c : Nat} (hb : b = 32 ∨ b = 64) (h7 : 7 * k < b) (ha : a < 2 ^ (7 * k)) (hc : ¬ (b - 7 * k < 7 ∧ c / 2 ^ (b - 7 * k) ≠ 0)) :
    a + c % 128 * 2 ^ (7 * k) < 2 ^ b := by
  have hbb : (2 : Nat) ^ b ≤ 2 ^ 64 := Nat.pow_le_pow_right (by decide) (by omega)
  have e64 : (2 : Nat) ^ 64 = 18446744073709551616 := by decide
  by_cases hl : b - 7 * k < 7
  · have h0 : c / 2 ^ (b - 7 * k) = 0 := Classical.byContradiction fun h => hc ⟨hl, h⟩
    have h1 : c < 2 ^ (b - 7 * k) := by
      rcases Nat.div_eq_zero_iff.1 h0 with h | h
      · have := Nat.two_pow_pos (b - 7 * k); omega
      · exact h
    have h2 : c % 128 ≤ c := Nat.mod_le _ _
    have h3 : (c % 128 + 1) * 2 ^ (7 * k) ≤ 2 ^ (b - 7 * k) * 2 ^ (7 * k) := Nat.mul_le_mul_right _ (by omega)
    rw [← Nat.pow_add, show b - 7 * k + 7 * k = b from by omega, Nat.add_mul] at h3
    omega
  · have h3 : (c % 128 + 1) * 2 ^ (7 * k) ≤ 2 ^ 7 * 2 ^ (7 * k) := Nat.mul_le_mul_right _ (by have := Nat.mod_lt c (show 0 < 128 by decide); omega)
    rw [← Nat.pow_add, Nat.add_mul] at h3
    have h4 : (2 : Nat) ^ (7 + 7 * k) ≤ 2 ^ b := Nat.pow_le_pow_right (by decide) (by omega)
    omega

theorem ru_facts {b : Nat} (hb : b = 32 ∨ b = 64) (l : List UInt8) : ∀ (i n : Nat), n < 2 ^ (7 * i) → 7 * i < b →
    ((ru b l i n).2.2 = 0 → i < (ru b l i n).2.1 ∧ (ru b l i n).2.1 ≤ i + l.length ∧ (ru b l i n).1 < 2 ^ b) ∧ ((ru b l i n).2.2 ≠ 0 → (ru b l i n).1 = 0 ∧ (ru b l i n).2.1 = 0) := by
  induction l with
  | nil => intro i n _ _; exact ⟨fun h => by simp [ru] at h, fun _ => ⟨rfl, rfl⟩⟩
  | cons c r ih =>
    intro i n hn hi
    rw [ru]
    by_cases h1 : b - 7 * i < 7 ∧ c.toNat / 2 ^ (b - 7 * i) ≠ 0
    · rw [if_pos h1]; exact ⟨fun h => by simp at h, fun _ => ⟨rfl, rfl⟩⟩
    rw [if_neg h1]
    by_cases h2 : c.toNat < 128
    · rw [if_pos h2]
      exact ⟨fun _ => ⟨by simp, by simp, ru_room2 hb hi hn h1⟩, fun h => absurd rfl h⟩
    · rw [if_neg h2]
      have h3 := ih (i + 1) (n + c.toNat % 128 * 2 ^ (7 * i)) (ru_next hn) (ru_more hb hi h1 (by omega))
      refine ⟨fun h => ?_, h3.2⟩
      obtain ⟨g1, g2, g3⟩ := h3.1 h
      exact ⟨by omega, by rw [List.length_cons]; omega, g3⟩
end Go.Proofs.YtakfineljffoaaaGreatDoor
namespace Go.Proofs.YtakfineljffoaaaGreatDoor
open Go.RowKit

theorem rs_lead {b : Nat} (hb : b = 32 ∨ b = 64) (l : List UInt8) : ∀ (i n : Nat), i < mostOf b → rs b l i n =
    if i + lead (mostOf b - i) l = mostOf b then (0, 0, 4) else if lead (mostOf b - i) l = l.length then (0, 0, 3)
    else if i + lead (mostOf b - i) l + 1 = mostOf b ∧ (sv (l.getD (lead (mostOf b - i) l) 0).toNat < -2 ^ (b - 7 * (mostOf b - 1) - 1) ∨ 2 ^ (b - 7 * (mostOf b - 1) - 1) ≤ sv (l.getD (lead (mostOf b - i) l) 0).toNat) then (0, 0, 4)
    else ((n : Int) + 2 ^ (7 * i) * (horner (l.take (lead (mostOf b - i) l)) + 128 ^ (lead (mostOf b - i) l) * sv (l.getD (lead (mostOf b - i) l) 0).toNat), i + lead (mostOf b - i) l + 1, 0) := by
  induction l with
  | nil =>
    intro i n hi
    have : lead (mostOf b - i) [] = 0 := by cases mostOf b - i <;> simp [lead]
    rw [this, rs, if_neg (by omega), if_pos (by simp)]
  | cons c r ih =>
    intro i n hi
    obtain ⟨q, hq⟩ : ∃ q, mostOf b - i = q + 1 := ⟨mostOf b - i - 1, by omega⟩
    have hcb := byte_lt c
    rw [hq, rs, lead]
    rcases most_lt hb hi with ⟨h1, h2, h3⟩ | ⟨h1, h2⟩
    · have hm : mostOf b - 1 = i := by omega
      have hq0 : q = 0 := by omega
      subst hq0
      by_cases hc : 127 < c.toNat
      · rw [if_pos hc, if_pos ⟨h2, .inl (by omega)⟩]
        simp [lead, h1]
      · rw [if_neg hc]
        by_cases hbig : sv c.toNat < -2 ^ (b - 7 * i - 1) ∨ 2 ^ (b - 7 * i - 1) ≤ sv c.toNat
        · rw [if_pos ⟨h2, .inr hbig⟩, if_neg (by omega), if_neg (by simp), if_pos ⟨by omega, by rw [hm]; simpa using hbig⟩]
        · rw [if_neg (fun h => by rcases h.2 with h | h; omega; exact hbig h), if_pos (by omega), if_neg (by omega), if_neg (by simp), if_neg (fun h => hbig (by rw [← hm]; simpa using h.2))]
          simp [horner, Int.mul_comm]
    · rw [if_neg (by omega)]
      by_cases hc : 127 < c.toNat
      · rw [if_pos hc, if_neg (by omega), ih (i + 1) _ (by omega)]
        have hq' : mostOf b - (i + 1) = q := by omega
        rw [hq']
        simp only [List.length_cons, Nat.add_right_cancel_iff, List.take_succ_cons, horner, List.getD_cons_succ]
        rw [show i + 1 + lead q r = i + (lead q r + 1) by omega]
        split
        · rfl
        · split
          · rfl
          · split
            · rfl
            · have e : (2 : Int) ^ (7 * (i + 1)) = 2 ^ (7 * i) * 128 := by
                rw [show 7 * (i + 1) = 7 * i + 7 by omega, Int.pow_add]; rfl
              rw [e]
              congr 1
              push_cast
              generalize (sv (r.getD (lead q r) 0).toNat) = y
              generalize ((horner (r.take (lead q r)) : Nat) : Int) = x
              rw [Int.pow_succ, Int.mul_assoc, Int.mul_add 128, show (128 : Int) ^ lead q r * 128 * y = 128 * (128 ^ lead q r * y) by rw [Int.mul_comm (128 ^ _) 128, Int.mul_assoc], Int.add_assoc, ← Int.mul_comm (2 ^ (7 * i)), ← Int.mul_add]
              congr 2
              omega
      · rw [if_neg hc, if_pos (by omega), if_neg (by omega), if_neg (by simp), if_neg (by omega)]
        simp [horner, Int.mul_comm]

theorem lead_byte (m : Nat) (l : List UInt8) (h : lead m l < m) (h' : lead m l < l.length) : (l.getD (lead m l) 0).toNat ≤ 127 := by
  induction m generalizing l with
  | zero => omega
  | succ m ih =>
    cases l with
    | nil => simp at h'
    | cons c r =>
      simp only [lead] at h h' ⊢
      split at h <;> rename_i hc
      · rw [if_pos hc] at h' ⊢
        simp only [List.getD_cons_succ]
        exact ih r (by omega) (by simp at h'; omega)
      · rw [if_neg hc]
        simp; omega

theorem refS_eq {b : Nat} (hb : b = 32 ∨ b = 64) (l : List UInt8) : refS b l = rs b l 0 0 := by
  have hm : 0 < mostOf b := by unfold mostOf; split <;> decide
  rw [rs_lead hb l 0 0 hm]
  simp only [Nat.zero_add, Nat.sub_zero, Nat.mul_zero, Int.pow_zero, Int.one_mul, Int.natCast_zero, Int.zero_add]
  unfold refS spanR
  by_cases h1 : lead (mostOf b) l = mostOf b
  · simp [h1]
  · by_cases h2 : lead (mostOf b) l = l.length
    · rw [if_neg h1, if_pos h2, if_neg h1, if_pos h2]; simp
    · rw [if_neg h1, if_neg h2, if_neg h1, if_neg h2]
      simp only [ne_eq, not_true_eq_false, if_false, Nat.add_sub_cancel]
      have hl := lead_le (mostOf b) l
      have hk : lead (mostOf b) l < l.length := by omega
      have hsv := sv_bd (l.getD (lead (mostOf b) l) 0).toNat
      have ht : (l.take (lead (mostOf b) l)).length = lead (mostOf b) l := by simp; omega
      have h4 := horner_lt (l.take (lead (mostOf b) l))
      rw [ht] at h4
      generalize (sv (l.getD (lead (mostOf b) l) 0).toNat) = y at *
      generalize lead (mostOf b) l = k at *
      generalize horner (l.take k) = x at *
      have hx : (x : Int) < 128 ^ k := by exact_mod_cast h4
      have small : k ≤ 8 → wrap64 ((x : Int) + 128 ^ k * y) = (x : Int) + 128 ^ k * y := by
        intro hk8
        have h5 : (128 : Int) ^ k ≤ 72057594037927936 ∧ (0 : Int) < 128 ^ k := by
          have := pow7_le hk8
          rw [Int.pow_mul] at this
          exact this
        have h6 : 128 ^ k * (-64) ≤ 128 ^ k * y := Int.mul_le_mul_of_nonneg_left hsv.1 (by omega)
        have h7 : 128 ^ k * y ≤ 128 ^ k * 63 := Int.mul_le_mul_of_nonneg_left (by omega) (by omega)
        exact wrap64_small (by omega) (by omega)
      rcases hb with rfl | rfl
      · have e1 : mostOf 32 = 5 := by decide
        rw [e1] at hl h1 ⊢
        simp only [true_and, show ¬ ((32 : Nat) = 64) by decide, false_and, and_false, if_false]
        rw [show ((2 : Int) ^ (32 - 7 * (5 - 1) - 1)) = 8 by decide]
        split
        · rfl
        · rw [small (by omega)]
      · have e1 : mostOf 64 = 10 := by decide
        rw [e1] at hl h1 ⊢
        simp only [true_and, show ¬ ((64 : Nat) = 32) by decide, false_and, and_false, if_false]
        rw [show ((2 : Int) ^ (64 - 7 * (10 - 1) - 1)) = 1 by decide]
        by_cases hk9 : k + 1 = 10
        · by_cases hy : y ≠ 0 ∧ y ≠ -1
          · rw [if_pos ⟨hk9, hy⟩, if_pos ⟨hk9, by omega⟩]
          · rw [if_neg (fun h => hy h.2), if_neg (fun h => hy (by omega))]
            have hk' : k = 9 := by omega
            subst hk'
            have e2 : (128 : Int) ^ 9 = 9223372036854775808 := by decide
            rw [e2] at hx ⊢
            rw [wrap64_small (by omega) (by omega)]
        · rw [if_neg (fun h => hk9 h.1), if_neg (fun h => hk9 h.1), small (by omega)]

set_option maxRecDepth 100000 in
set_option maxHeartbeats 1000000 in
theorem refS_ok (s : ByteArray) (b : Nat) (w : World) (hs : s.size ≤ maxLen) (hb : b = 32 ∨ b = 64) :
    Calls Tryz.prog 121 #[.string s, .int .i64 b] w fun e w' => e = .returned (tupS (rs b s.data.toList 0 0)) ∧ w = w' := by
  rw [← refS_eq hb]
  have hsp := span_ok s b w hs hb
  unfold maxLen at hs
  obtain ⟨k, m, e, hr⟩ : ∃ k m e, spanR b s.data.toList = (k, m, e) := ⟨_, _, _, rfl⟩
  rw [hr] at hsp
  by_cases he : e = 0
  · subst he
    obtain ⟨hm, h1, hkm, hkl, hle⟩ := spanR_ok hr
    have hl : k ≤ s.size := by simpa using hkl
    obtain ⟨q, rfl⟩ : ∃ q, k = q + 1 := ⟨k - 1, by omega⟩
    have hg : s.data.toList.getD q 0 = s[q]'(by omega) := by
      rw [List.getD_eq_getElem?_getD, List.getElem?_eq_getElem (by simp; omega)]; rfl
    have hq : lead m s.data.toList = q := by omega
    have hc := lead_byte m s.data.toList (by omega) (by rw [hq]; omega)
    rw [hq, hg] at hc
    have hv : refS b s.data.toList = if q + 1 = m ∧ b = 32 ∧ (sv (s[q]'(by omega)).toNat < -8 ∨ 8 ≤ sv (s[q]'(by omega)).toNat) then (0, 0, 4)
        else if q + 1 = m ∧ b = 64 ∧ sv (s[q]'(by omega)).toNat ≠ 0 ∧ sv (s[q]'(by omega)).toNat ≠ -1 then (0, 0, 4)
        else (wrap64 (horner (s.data.toList.take q) + 128 ^ q * sv (s[q]'(by omega)).toNat), q + 1, 0) := by
      simp only [refS, hr, Nat.add_sub_cancel, hg]
      rw [if_neg (by decide)]
    rw [hv]
    rcases hb with rfl | rfl
    · obtain rfl : m = 5 := by rw [hm]; rfl
      rw [show ((32 : Nat) : Int) = 32 from rfl] at hsp ⊢
      by_cases hbad : q + 1 = 5 ∧ (sv (s[q]'(by omega)).toNat < -8 ∨ 8 ≤ sv (s[q]'(by omega)).toNat)
      · rw [if_pos ⟨hbad.1, rfl, hbad.2⟩]
        exact refS_32_err s w (by omega) q (by omega) hkm hsp hc hbad
      · rw [if_neg (fun h => hbad ⟨h.1, h.2.2⟩), if_neg (by simp)]
        exact refS_32_go s w (by omega) q (by omega) hkm hsp hc (by omega)
    · obtain rfl : m = 10 := by rw [hm]; rfl
      rw [show ((64 : Nat) : Int) = 64 from rfl] at hsp ⊢
      rw [if_neg (by simp)]
      by_cases hbad : q + 1 = 10 ∧ sv (s[q]'(by omega)).toNat ≠ 0 ∧ sv (s[q]'(by omega)).toNat ≠ -1
      · rw [if_pos ⟨hbad.1, rfl, hbad.2⟩]
        exact refS_64_err s w (by omega) q (by omega) hkm hsp hc hbad
      · rw [if_neg (fun h => hbad ⟨h.1, h.2.2⟩)]
        exact refS_64_go s w (by omega) q (by omega) hkm hsp hc (by omega)
  · have he' : ((e : Int) != 0) = true := by simp; omega
    have hq : refS b s.data.toList = (0, 0, e) := by simp [refS, hr, he]
    have HQ := hid hq
    clear hq hr hb
    go_enter Tryz.func121, Tryz.ntmps121
    go_wp2_with fail
    refine hsp.mono ?_
    rintro e w' ⟨rfl, rfl⟩
    unfold tup3
    go_wp2_with fail
    go_ret3
    exact ⟨by rw [HQ.out]; try rfl, rfl⟩

theorem rs_facts {b : Nat} (hb : b = 32 ∨ b = 64) (l : List UInt8) : ∀ (i n : Nat), n < 2 ^ (7 * i) → 7 * i < b →
    ((rs b l i n).2.2 = 0 → i < (rs b l i n).2.1 ∧ (rs b l i n).2.1 ≤ i + l.length ∧ -9223372036854775808 ≤ (rs b l i n).1 ∧ (rs b l i n).1 < 9223372036854775808) ∧ ((rs b l i n).2.2 ≠ 0 → (rs b l i n).1 = 0 ∧ (rs b l i n).2.1 = 0) := by
  induction l with
  | nil => intro i n _ _; exact ⟨fun h => by simp [rs] at h, fun _ => ⟨rfl, rfl⟩⟩
  | cons c r ih =>
    intro i n hn hi
    rw [rs]
    by_cases h1 : b - 7 * i < 7 ∧ (128 ≤ c.toNat ∨ sv c.toNat < -2 ^ (b - 7 * i - 1) ∨ 2 ^ (b - 7 * i - 1) ≤ sv c.toNat)
    · rw [if_pos h1]; exact ⟨fun h => by simp at h, fun _ => ⟨rfl, rfl⟩⟩
    rw [if_neg h1]
    by_cases h2 : c.toNat < 128
    · rw [if_pos h2]
      have h4 := rs_room (c := c.toNat) hb hi hn (fun hl => by
        refine ⟨Int.not_lt.1 fun g => h1 ⟨hl, .inr (.inl g)⟩, Int.not_le.1 fun g => h1 ⟨hl, .inr (.inr g)⟩⟩)
      exact ⟨fun _ => ⟨by simp, by simp, by simp only; omega, by simp only; omega⟩, fun h => absurd rfl h⟩
    · rw [if_neg h2]
      have hm : 7 * (i + 1) < b := by
        by_cases hl : b - 7 * i < 7
        · exact absurd ⟨hl, .inl (by omega)⟩ h1
        · omega
      have h3 := ih (i + 1) (n + c.toNat % 128 * 2 ^ (7 * i)) (ru_next hn) hm
      refine ⟨fun h => ?_, h3.2⟩
      obtain ⟨g1, g2, g3⟩ := h3.1 h
      exact ⟨by omega, by rw [List.length_cons]; omega, g3⟩
end Go.Proofs.YtakfineljffoaaaGreatDoor
namespace Go.Proofs.YtakfineljffoaaaGreatDoor
open Go.RowKit

/-- a part of memory: the blocks F, described by R, which looks at no other block -/
structure Part (base : Nat) (F : Nat → Prop) (R : World → Prop) (w : World) : Prop where
  holds : R w
  le : base ≤ w.heap.size
  lt : ∀ k, F k → base ≤ k ∧ k < w.heap.size
  keep : ∀ w', w.heap.size ≤ w'.heap.size → (∀ k, F k → w'.heap[k]? = w.heap[k]?) → R w'
theorem Part.same {base : Nat} {F : Nat → Prop} {R : World → Prop} {w w' : World} (h : Part base F R w) (hs : w.heap.size ≤ w'.heap.size) (hb : ∀ k, F k → w'.heap[k]? = w.heap[k]?) : Part base F R w' :=
  ⟨h.keep w' hs hb, Nat.le_trans h.le hs, fun k hk => ⟨(h.lt k hk).1, Nat.lt_of_lt_of_le (h.lt k hk).2 hs⟩, fun w2 h2 hk2 => h.keep w2 (Nat.le_trans hs h2) (fun k hk => (hk2 k hk).trans (hb k hk))⟩
theorem Part.below {base : Nat} {F : Nat → Prop} {R : World → Prop} {w w' : World} (h : Part base F R w) (hb : Below w.heap.size w w') : Part base F R w' :=
  h.same hb.size (fun k hk => hb.block k (h.lt k hk).2)
theorem Part.touch {base : Nat} {F G : Nat → Prop} {R : World → Prop} {w w' : World} (h : Part base F R w) (ht : Touch G w w') (hd : ∀ k, F k → ¬ G k) : Part base F R w' :=
  h.same ht.size (fun k hk => ht.block k (h.lt k hk).2 (hd k hk))
theorem Part.drew {base : Nat} {F : Nat → Prop} {R : World → Prop} {w : World} (h : Part base F R w) (n : Nat) : Part base F R (w.drewN n) :=
  h.same (Nat.le_refl _) (fun _ _ => rfl)
theorem Part.drew1 {base : Nat} {F : Nat → Prop} {R : World → Prop} {w : World} (h : Part base F R w) : Part base F R w.drew :=
  h.same (Nat.le_refl _) (fun _ _ => rfl)
theorem own_same {w w' : World} {base : Nat} {e : TypeId} {size : Nat} {v : Value} {n : Nat} {cs : List Value} (h : w.ownsRow base e size v n cs) (hb : ∀ k, v.ownBlock = some k → w'.heap[k]? = w.heap[k]?) : w'.ownsRow base e size v n cs := by
  obtain ⟨h1, h2⟩ := h
  refine ⟨h1, ?_⟩
  rcases h2 with h2 | ⟨g, cap, cur, hv, hg, hh, r⟩
  · exact .inl h2
  · refine .inr ⟨g, cap, cur, hv, hg, ?_, r⟩
    rw [hb g (by rw [hv]; rfl)]; exact hh
theorem Blk.same {w w' : World} {b : Nat} {ty : TypeId} {cs : List Value} (h : Blk w b ty cs) (hb : w'.heap[b]? = w.heap[b]?) : Blk w' b ty cs := by
  unfold Blk
  rw [hb]; exact h

theorem Touch.of_new {F : Nat → Prop} {w w' : World} (h : Touch (fun k => F k ∨ w.heap.size ≤ k) w w') : Touch F w w' :=
  ⟨h.os, h.tape, h.output, h.size, fun k hk hF => h.block k hk (fun e => e.elim hF (fun h2 => by omega))⟩
theorem Touch.put {F : Nat → Prop} {w w1 : World} (h : Touch F w w1) {a : Addr} (hF : F a.block) (v : Value) : Touch F w (w1.setCell a v) := h.trans (Touch.setCell hF v)
theorem Touch.drew1 {F : Nat → Prop} {w w1 : World} (h : Touch F w w1) : Touch F w w1.drew := ⟨h.os, h.tape, h.output, h.size, h.block⟩

/-- two parts side by side -/
structure Duo (base : Nat) (F G : Nat → Prop) (R S : World → Prop) (w : World) : Prop where
  p : Part base F R w
  q : Part base G S w
  apart : ∀ k, F k → ¬ G k
theorem Duo.below {base : Nat} {F G : Nat → Prop} {R S : World → Prop} {w w' : World} (h : Duo base F G R S w) (hb : Below w.heap.size w w') : Duo base F G R S w' := ⟨h.p.below hb, h.q.below hb, h.apart⟩
theorem Duo.drew {base : Nat} {F G : Nat → Prop} {R S : World → Prop} {w : World} (h : Duo base F G R S w) (n : Nat) : Duo base F G R S (w.drewN n) := ⟨h.p.drew n, h.q.drew n, h.apart⟩
theorem Duo.drew1 {base : Nat} {F G : Nat → Prop} {R S : World → Prop} {w : World} (h : Duo base F G R S w) : Duo base F G R S w.drew := ⟨h.p.drew1, h.q.drew1, h.apart⟩
theorem Duo.alloc {base : Nat} {F G : Nat → Prop} {R S : World → Prop} {w : World} (h : Duo base F G R S w) (o : Obj) : Duo base F G R S (w.alloc o) := h.below ((Below.refl _ _).alloc (Nat.le_refl _) _)
/-- the first part has turned -/
theorem Duo.left {base : Nat} {F F' G : Nat → Prop} {R R' S : World → Prop} {w w' : World} (h : Duo base F G R S w) (hp : Part base F' R' w') (ht : Touch F w w') (hf : ∀ k, F' k → F k ∨ w.heap.size ≤ k) : Duo base F' G R' S w' := by
  refine ⟨hp, h.q.touch ht (fun k hg hF => h.apart k hF hg), fun k hF hg => ?_⟩
  rcases hf k hF with e | e
  · exact h.apart k e hg
  · have := (h.q.lt k hg).2; omega
theorem Duo.swap {base : Nat} {F G : Nat → Prop} {R S : World → Prop} {w : World} (h : Duo base F G R S w) : Duo base G F S R w := ⟨h.q, h.p, fun k h1 h2 => h.apart k h2 h1⟩
/-- the second part has turned -/
theorem Duo.right {base : Nat} {F G G' : Nat → Prop} {R S S' : World → Prop} {w w' : World} (h : Duo base F G R S w) (hp : Part base G' S' w') (ht : Touch G w w') (hf : ∀ k, G' k → G k ∨ w.heap.size ≤ k) : Duo base F G' R S' w' := (h.swap.left hp ht hf).swap
/-- what a call of the first leaves below the base -/
theorem Part.under {base B : Nat} {F : Nat → Prop} {R : World → Prop} {w w' : World} (h : Part base F R w) (ht : Touch F w w') (hB : B ≤ base) : Below B w w' :=
  ht.below (Nat.le_trans hB h.le) (fun k hk => Nat.le_trans hB (h.lt k hk).1)
/-- a newer block stays -/
theorem Part.newer {base b : Nat} {F : Nat → Prop} {R : World → Prop} {w w1 w2 : World} {ty : TypeId} {cs : List Value} (h : Part base F R w) (hb : w.heap.size ≤ b) (hk : Blk w1 b ty cs) (ht : Touch F w1 w2) : Blk w2 b ty cs :=
  hk.touch ht (fun e => by have := (h.lt b e).2; omega)
end Go.Proofs.YtakfineljffoaaaGreatDoor
