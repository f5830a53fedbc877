/-
  TEXTS, plain: the reference's reading of one sign is the model's decoder's. No program.
-/
import Derived.Test.YtdiiefhklcchmaaDoorGBinChecks3
import Derived.Lib.ValidLaws
import Derived.ProofKit
import Derived.HandedShaped
import Derived.JoinedCond
import Derived.Deep.CondSized
import Derived.LaidLaws
namespace Go.Proofs.YtdiiefhklcchmaaDoor
open Go.RowKit

/-- byte j of a text (0 beyond its end) -/
def bt (s : ByteArray) (j : Nat) : Nat := (s.get! j).toNat
theorem bt_lt (s : ByteArray) (j : Nat) : bt s j < 256 := UInt8.toNat_lt _
/-- the number once k bytes are in it -/
def accS (s : ByteArray) (c : Nat) : Nat → Nat
  | 0 => c
  | k + 1 => accS s c k * 64 + (bt s (k + 1) - 128)
def okUt (s : ByteArray) (j : Nat) : Bool := decide (128 ≤ bt s j) && decide (bt s j ≤ 191)
def leastS (M : Nat) : Nat := if M = 2 then 128 else if M = 3 then 2048 else if M = 4 then 65536 else 0
def okV (M v : Nat) : Bool := decide (leastS M ≤ v) && decide (v ≤ 1114111) && !(decide (55296 ≤ v) && decide (v ≤ 57343))
/-- a sign of M bytes whose first byte gives c -/
def signV (M c : Nat) (s : ByteArray) : Nat :=
  if s.size < M then 0 else if (List.range (M - 1)).all (fun j => okUt s (j + 1)) = true then (if okV M (accS s c (M - 1)) = true then M else 0) else 0
def signS (s : ByteArray) : Nat :=
  if bt s 0 < 128 then 1
  else if 192 ≤ bt s 0 ∧ bt s 0 < 224 then signV 2 (bt s 0 - 192) s
  else if 224 ≤ bt s 0 ∧ bt s 0 < 240 then signV 3 (bt s 0 - 224) s
  else if 240 ≤ bt s 0 ∧ bt s 0 < 248 then signV 4 (bt s 0 - 240) s
  else 0
def cond2 (n b1 v : Nat) : Prop := 2 ≤ n ∧ 128 ≤ b1 ∧ b1 ≤ 191 ∧ 128 ≤ v ∧ v ≤ 1114111 ∧ ¬ (55296 ≤ v ∧ v ≤ 57343)
def cond3 (n b1 b2 v : Nat) : Prop := 3 ≤ n ∧ 128 ≤ b1 ∧ b1 ≤ 191 ∧ 128 ≤ b2 ∧ b2 ≤ 191 ∧ 2048 ≤ v ∧ v ≤ 1114111 ∧ ¬ (55296 ≤ v ∧ v ≤ 57343)
def cond4 (n b1 b2 b3 v : Nat) : Prop := 4 ≤ n ∧ 128 ≤ b1 ∧ b1 ≤ 191 ∧ 128 ≤ b2 ∧ b2 ≤ 191 ∧ 128 ≤ b3 ∧ b3 ≤ 191 ∧ 65536 ≤ v ∧ v ≤ 1114111 ∧ ¬ (55296 ≤ v ∧ v ≤ 57343)
theorem okB_iff (s : ByteArray) (j : Nat) : okUt s j = true ↔ 128 ≤ bt s j ∧ bt s j ≤ 191 := by unfold okUt; rw [Bool.and_eq_true, decide_eq_true_iff, decide_eq_true_iff]
theorem okV_iff (M v : Nat) : okV M v = true ↔ leastS M ≤ v ∧ v ≤ 1114111 ∧ ¬ (55296 ≤ v ∧ v ≤ 57343) := by
  unfold okV
  rw [Bool.and_eq_true, Bool.and_eq_true, decide_eq_true_iff, decide_eq_true_iff, Bool.not_eq_true', Bool.and_eq_false_iff, decide_eq_false_iff_not, decide_eq_false_iff_not]
  constructor
  · rintro ⟨⟨h1, h2⟩, h3⟩; exact ⟨h1, h2, fun h => h3.elim (fun k => k h.1) (fun k => k h.2)⟩
  · rintro ⟨h1, h2, h3⟩
    refine ⟨⟨h1, h2⟩, ?_⟩
    by_cases h : 55296 ≤ v
    · exact .inr (fun h' => h3 ⟨h, h'⟩)
    · exact .inl h
theorem signV_iff (M c : Nat) (s : ByteArray) : (signV M c s = M ∧ (M ≤ s.size ∧ (List.range (M - 1)).all (fun j => okUt s (j + 1)) = true ∧ okV M (accS s c (M - 1)) = true)) ∨ (signV M c s = 0 ∧ ¬ (M ≤ s.size ∧ (List.range (M - 1)).all (fun j => okUt s (j + 1)) = true ∧ okV M (accS s c (M - 1)) = true)) := by
  unfold signV
  by_cases h1 : s.size < M
  · rw [if_pos h1]; exact .inr ⟨rfl, fun h => by omega⟩
  · rw [if_neg h1]
    by_cases h2 : (List.range (M - 1)).all (fun j => okUt s (j + 1)) = true
    · rw [if_pos h2]
      by_cases h3 : okV M (accS s c (M - 1)) = true
      · rw [if_pos h3]; exact .inl ⟨rfl, by omega, h2, h3⟩
      · rw [if_neg h3]; exact .inr ⟨rfl, fun h => h3 h.2.2⟩
    · rw [if_neg h2]; exact .inr ⟨rfl, fun h => h2 h.2.1⟩
theorem sv2 (c : Nat) (s : ByteArray) : (signV 2 c s = 2 ∧ cond2 s.size (bt s 1) (c * 64 + (bt s 1 - 128))) ∨ (signV 2 c s = 0 ∧ ¬ cond2 s.size (bt s 1) (c * 64 + (bt s 1 - 128))) := by
  have h := signV_iff 2 c s
  rw [okV_iff, show List.range (2 - 1) = [0] from rfl, List.all_cons, List.all_nil, Bool.and_true, okB_iff, show accS s c (2 - 1) = c * 64 + (bt s 1 - 128) from rfl, show leastS 2 = 128 from rfl] at h
  rcases h with ⟨h1, h2⟩ | ⟨h1, h2⟩
  · exact .inl ⟨h1, h2.1, h2.2.1.1, h2.2.1.2, h2.2.2⟩
  · exact .inr ⟨h1, fun h => h2 ⟨h.1, ⟨h.2.1, h.2.2.1⟩, h.2.2.2⟩⟩
theorem sv3 (c : Nat) (s : ByteArray) : (signV 3 c s = 3 ∧ cond3 s.size (bt s 1) (bt s 2) ((c * 64 + (bt s 1 - 128)) * 64 + (bt s 2 - 128))) ∨ (signV 3 c s = 0 ∧ ¬ cond3 s.size (bt s 1) (bt s 2) ((c * 64 + (bt s 1 - 128)) * 64 + (bt s 2 - 128))) := by
  have h := signV_iff 3 c s
  rw [okV_iff, show List.range (3 - 1) = [0, 1] from rfl, List.all_cons, List.all_cons, List.all_nil, Bool.and_true, Bool.and_eq_true, okB_iff, okB_iff, show accS s c (3 - 1) = (c * 64 + (bt s 1 - 128)) * 64 + (bt s 2 - 128) from rfl, show leastS 3 = 2048 from rfl] at h
  rcases h with ⟨h1, h2⟩ | ⟨h1, h2⟩
  · exact .inl ⟨h1, h2.1, h2.2.1.1.1, h2.2.1.1.2, h2.2.1.2.1, h2.2.1.2.2, h2.2.2⟩
  · exact .inr ⟨h1, fun h => h2 ⟨h.1, ⟨⟨h.2.1, h.2.2.1⟩, ⟨h.2.2.2.1, h.2.2.2.2.1⟩⟩, h.2.2.2.2.2⟩⟩
theorem sv4 (c : Nat) (s : ByteArray) : (signV 4 c s = 4 ∧ cond4 s.size (bt s 1) (bt s 2) (bt s 3) (((c * 64 + (bt s 1 - 128)) * 64 + (bt s 2 - 128)) * 64 + (bt s 3 - 128))) ∨ (signV 4 c s = 0 ∧ ¬ cond4 s.size (bt s 1) (bt s 2) (bt s 3) (((c * 64 + (bt s 1 - 128)) * 64 + (bt s 2 - 128)) * 64 + (bt s 3 - 128))) := by
  have h := signV_iff 4 c s
  rw [okV_iff, show List.range (4 - 1) = [0, 1, 2] from rfl, List.all_cons, List.all_cons, List.all_cons, List.all_nil, Bool.and_true, Bool.and_eq_true, Bool.and_eq_true, okB_iff, okB_iff, okB_iff, show accS s c (4 - 1) = ((c * 64 + (bt s 1 - 128)) * 64 + (bt s 2 - 128)) * 64 + (bt s 3 - 128) from rfl, show leastS 4 = 65536 from rfl] at h
  rcases h with ⟨h1, h2⟩ | ⟨h1, h2⟩
  · exact .inl ⟨h1, h2.1, h2.2.1.1.1, h2.2.1.1.2, h2.2.1.2.1.1, h2.2.1.2.1.2, h2.2.1.2.2.1, h2.2.1.2.2.2, h2.2.2⟩
  · exact .inr ⟨h1, fun h => h2 ⟨h.1, ⟨⟨h.2.1, h.2.2.1⟩, ⟨h.2.2.2.1, h.2.2.2.2.1⟩, ⟨h.2.2.2.2.2.1, h.2.2.2.2.2.2.1⟩⟩, h.2.2.2.2.2.2.2⟩⟩
set_option maxHeartbeats 4000000 in
/-- the decoder's step is the sign's -/
theorem sign_decode (s : ByteArray) (h : 0 < s.size) : signS s = if (Utf8.decode s 0).1 = 65533 ∧ (Utf8.decode s 0).2 = 1 then 0 else (Utf8.decode s 0).2 := by
  rw [Lib.decode_at s 0]
  show signS s = if (Lib.decodeN s.size (bt s 0) (bt s 1) (bt s 2) (bt s 3)).1 = 65533 ∧ (Lib.decodeN s.size (bt s 0) (bt s 1) (bt s 2) (bt s 3)).2 = 1 then 0 else (Lib.decodeN s.size (bt s 0) (bt s 1) (bt s 2) (bt s 3)).2
  unfold signS
  have s2 := sv2 (bt s 0 - 192) s
  have s3 := sv3 (bt s 0 - 224) s
  have s4 := sv4 (bt s 0 - 240) s
  generalize signV 2 (bt s 0 - 192) s = r2 at *
  generalize signV 3 (bt s 0 - 224) s = r3 at *
  generalize signV 4 (bt s 0 - 240) s = r4 at *
  have h0 := bt_lt s 0
  have h1 := bt_lt s 1
  have h2 := bt_lt s 2
  have h3 := bt_lt s 3
  generalize bt s 0 = b0 at *
  generalize bt s 1 = b1 at *
  generalize bt s 2 = b2 at *
  generalize bt s 3 = b3 at *
  generalize s.size = n at *
  unfold cond2 at s2
  unfold cond3 at s3
  unfold cond4 at s4
  by_cases c0 : b0 < 128
  · rw [if_pos c0]
    unfold Lib.decodeN
    rw [if_pos c0, if_neg (by simp; omega)]
  rw [if_neg c0]
  by_cases c2 : 192 ≤ b0 ∧ b0 < 224
  · rw [if_pos c2]
    clear s3 s4
    obtain ⟨p, hp⟩ : ∃ p, p = Lib.decodeN n b0 b1 b2 b3 := ⟨_, rfl⟩
    rw [← hp]
    unfold Lib.decodeN at hp
    repeat' split at hp
    all_goals subst hp
    all_goals first | (exfalso; omega) | (rw [if_pos ⟨rfl, rfl⟩]; omega) | (rw [if_neg (fun h => absurd (show (2 : Nat) = 1 from h.2) (by decide))]; show _ = 2; omega) | (rw [if_neg (fun h => absurd (show (3 : Nat) = 1 from h.2) (by decide))]; show _ = 3; omega) | (rw [if_neg (fun h => absurd (show (4 : Nat) = 1 from h.2) (by decide))]; show _ = 4; omega)
  rw [if_neg c2]
  by_cases c3 : 224 ≤ b0 ∧ b0 < 240
  · rw [if_pos c3]
    clear s2 s4
    obtain ⟨p, hp⟩ : ∃ p, p = Lib.decodeN n b0 b1 b2 b3 := ⟨_, rfl⟩
    rw [← hp]
    unfold Lib.decodeN at hp
    repeat' split at hp
    all_goals subst hp
    all_goals first | (exfalso; omega) | (rw [if_pos ⟨rfl, rfl⟩]; omega) | (rw [if_neg (fun h => absurd (show (2 : Nat) = 1 from h.2) (by decide))]; show _ = 2; omega) | (rw [if_neg (fun h => absurd (show (3 : Nat) = 1 from h.2) (by decide))]; show _ = 3; omega) | (rw [if_neg (fun h => absurd (show (4 : Nat) = 1 from h.2) (by decide))]; show _ = 4; omega)
  rw [if_neg c3]
  clear s2 s3
  have s5 : (240 ≤ b0 ∧ b0 < 248 → (if 240 ≤ b0 ∧ b0 < 248 then r4 else 0) = r4) ∧ (¬ (240 ≤ b0 ∧ b0 < 248) → (if 240 ≤ b0 ∧ b0 < 248 then r4 else 0) = 0) := ⟨fun h => if_pos h, fun h => if_neg h⟩
  generalize (if 240 ≤ b0 ∧ b0 < 248 then r4 else 0) = r5 at *
  obtain ⟨p, hp⟩ : ∃ p, p = Lib.decodeN n b0 b1 b2 b3 := ⟨_, rfl⟩
  rw [← hp]
  unfold Lib.decodeN at hp
  repeat' split at hp
  all_goals subst hp
  all_goals first | (exfalso; omega) | (rw [if_pos ⟨rfl, rfl⟩]; omega) | (rw [if_neg (fun h => absurd (show (2 : Nat) = 1 from h.2) (by decide))]; show _ = 2; omega) | (rw [if_neg (fun h => absurd (show (3 : Nat) = 1 from h.2) (by decide))]; show _ = 3; omega) | (rw [if_neg (fun h => absurd (show (4 : Nat) = 1 from h.2) (by decide))]; show _ = 4; omega)
theorem decodeL_data (t : ByteArray) : Lib.decodeL t.data.toList = Utf8.decode t 0 := by
  unfold Lib.decodeL
  congr 1
theorem valid_step (t : ByteArray) (h : 0 < t.size) : Lib.validD t.data.toList = if signS t = 0 then false else Lib.validD (t.data.toList.drop (signS t)) := by
  have hne : t.data.toList ≠ [] := by
    intro e
    have h1 : t.data.toList.length = 0 := by rw [e]; rfl
    rw [Array.length_toList] at h1
    have h2 : t.data.size = t.size := rfl
    omega
  rw [Lib.validD_step _ hne, decodeL_data, sign_decode t h]
  by_cases hc : (Utf8.decode t 0).1 = 65533 ∧ (Utf8.decode t 0).2 = 1
  · rw [if_pos hc, if_pos hc]; rfl
  · rw [if_neg hc, if_neg hc]
    have hw := Lib.decodeL_width t.data.toList
    rw [decodeL_data] at hw
    rw [if_neg (show ¬ (Utf8.decode t 0).2 = 0 by omega)]
theorem signS_le (t : ByteArray) (h : 0 < t.size) : signS t ≤ t.size ∧ signS t ≤ 4 := by
  unfold signS
  have s2 := sv2 (bt t 0 - 192) t
  have s3 := sv3 (bt t 0 - 224) t
  have s4 := sv4 (bt t 0 - 240) t
  unfold cond2 at s2
  unfold cond3 at s3
  unfold cond4 at s4
  repeat' split
  all_goals omega
end Go.Proofs.YtdiiefhklcchmaaDoor
/-
  THE LEB128 READER OF NUMBERS WITHOUT A SIGN, the reference's, for all strings. No condition beside a string's length.
-/
namespace Go.Proofs.YtdiiefhklcchmaaDoor
open Go.RowKit

theorem pow128 (k : Nat) : (128 : Nat) ^ k = 2 ^ (7 * k) := by
  rw [Nat.pow_mul]

theorem refU_eq {b : Nat} (hb : b = 32 ∨ b = 64) (l : List UInt8) : refU b l = ru b l 0 0 := by
  have hm : 0 < mostOf b := by unfold mostOf; split <;> decide
  rw [ru_lead hb l 0 0 hm]
  simp only [Nat.zero_add, Nat.sub_zero, Nat.mul_zero, Nat.pow_zero, Nat.one_mul]
  unfold refU spanR
  by_cases h1 : lead (mostOf b) l = mostOf b
  · simp [h1]
  · by_cases h2 : lead (mostOf b) l = l.length
    · rw [if_neg h1, if_pos h2, if_neg h1, if_pos h2]; simp
    · rw [if_neg h1, if_neg h2, if_neg h1, if_neg h2]
      simp only [ne_eq, not_true_eq_false, if_false, Nat.add_sub_cancel]
      split
      · rfl
      · rename_i h3
        have hl := lead_le (mostOf b) l
        congr 1
        apply Nat.mod_eq_of_lt
        have hk : lead (mostOf b) l < l.length := by omega
        rw [List.take_succ_eq_append_getElem hk, horner_snoc]
        have ht : (l.take (lead (mostOf b) l)).length = lead (mostOf b) l := by simp; omega
        have h4 := horner_lt (l.take (lead (mostOf b) l))
        rw [ht] at h4 ⊢
        have hg : l.getD (lead (mostOf b) l) 0 = l[lead (mostOf b) l] := by
          rw [List.getD_eq_getElem?_getD, List.getElem?_eq_getElem hk]; rfl
        rw [hg] at h3
        generalize lead (mostOf b) l = k at *
        have hbb : (2 : Nat) ^ b ≤ 2 ^ 64 := Nat.pow_le_pow_right (by decide) (by omega)
        have e64 : (2 : Nat) ^ 64 = 18446744073709551616 := by decide
        have hmod : l[k].toNat % 128 ≤ l[k].toNat := Nat.mod_le _ _
        have hmod2 := Nat.mod_lt l[k].toNat (show 0 < 128 by decide)
        rw [pow128] at h4 ⊢
        suffices h : horner (l.take k) + 2 ^ (7 * k) * (l[k].toNat % 128) < 2 ^ b by omega
        have key : ∀ x, l[k].toNat % 128 + 1 ≤ 2 ^ x → 7 * k + x ≤ b → horner (l.take k) + 2 ^ (7 * k) * (l[k].toNat % 128) < 2 ^ b := by
          intro x hx hxb
          have h5 : 2 ^ (7 * k) * (l[k].toNat % 128 + 1) ≤ 2 ^ (7 * k) * 2 ^ x := Nat.mul_le_mul_left _ hx
          rw [← Nat.pow_add, Nat.mul_add] at h5
          have h6 : (2 : Nat) ^ (7 * k + x) ≤ 2 ^ b := Nat.pow_le_pow_right (by decide) hxb
          omega
        by_cases hlast : k + 1 = mostOf b
        · have h7 : ¬ 2 ^ (b - 7 * (mostOf b - 1)) ≤ l[k].toNat := fun h => h3 ⟨hlast, h⟩
          refine key (b - 7 * (mostOf b - 1)) (by omega) ?_
          rcases hb with rfl | rfl <;> simp [mostOf] at hlast ⊢ <;> omega
        · refine key 7 (by omega) ?_
          rcases hb with rfl | rfl <;> simp [mostOf] at hl hlast h1 ⊢ <;> omega

theorem drewN_below {W w : World} {B n : Nat} (h : Below B W w) : Below B W (w.drewN n) := ⟨h.os, h.tape, h.output, h.size, h.block⟩

theorem ru_room2 {b k a c : Nat} (hb : b = 32 ∨ b = 64) (h7 : 7 * k < b) (ha : a < 2 ^ (7 * k)) (hc : ¬ (b - 7 * k < 7 ∧ c / 2 ^ (b - 7 * k) ≠ 0)) :
    a + c % 128 * 2 ^ (7 * k) < 2 ^ b := by
  have hbb : (2 : Nat) ^ b ≤ 2 ^ 64 := Nat.pow_le_pow_right (by decide) (by omega)
  have e64 : (2 : Nat) ^ 64 = 18446744073709551616 := by decide
  by_cases hl : b - 7 * k < 7
  · have h0 : c / 2 ^ (b - 7 * k) = 0 := Classical.byContradiction fun h => hc ⟨hl, h⟩
    have h1 : c < 2 ^ (b - 7 * k) := by
      rcases Nat.div_eq_zero_iff.1 h0 with h | h
      · have := Nat.two_pow_pos (b - 7 * k); omega
      · exact h
    have h2 : c % 128 ≤ c := Nat.mod_le _ _
    have h3 : (c % 128 + 1) * 2 ^ (7 * k) ≤ 2 ^ (b - 7 * k) * 2 ^ (7 * k) := Nat.mul_le_mul_right _ (by omega)
    rw [← Nat.pow_add, show b - 7 * k + 7 * k = b from by omega, Nat.add_mul] at h3
    omega
  · have h3 : (c % 128 + 1) * 2 ^ (7 * k) ≤ 2 ^ 7 * 2 ^ (7 * k) := Nat.mul_le_mul_right _ (by have := Nat.mod_lt c (show 0 < 128 by decide); omega)
    rw [← Nat.pow_add, Nat.add_mul] at h3
    have h4 : (2 : Nat) ^ (7 + 7 * k) ≤ 2 ^ b := Nat.pow_le_pow_right (by decide) (by omega)
    omega

theorem ru_facts {b : Nat} (hb : b = 32 ∨ b = 64) (l : List UInt8) : ∀ (i n : Nat), n < 2 ^ (7 * i) → 7 * i < b →
    ((ru b l i n).2.2 = 0 → i < (ru b l i n).2.1 ∧ (ru b l i n).2.1 ≤ i + l.length ∧ (ru b l i n).1 < 2 ^ b) ∧ ((ru b l i n).2.2 ≠ 0 → (ru b l i n).1 = 0 ∧ (ru b l i n).2.1 = 0) := by
  induction l with
  | nil => intro i n _ _; exact ⟨fun h => by simp [ru] at h, fun _ => ⟨rfl, rfl⟩⟩
  | cons c r ih =>
    intro i n hn hi
    rw [ru]
    by_cases h1 : b - 7 * i < 7 ∧ c.toNat / 2 ^ (b - 7 * i) ≠ 0
    · rw [if_pos h1]; exact ⟨fun h => by simp at h, fun _ => ⟨rfl, rfl⟩⟩
    rw [if_neg h1]
    by_cases h2 : c.toNat < 128
    · rw [if_pos h2]
      exact ⟨fun _ => ⟨by simp, by simp, ru_room2 hb hi hn h1⟩, fun h => absurd rfl h⟩
    · rw [if_neg h2]
      have h3 := ih (i + 1) (n + c.toNat % 128 * 2 ^ (7 * i)) (ru_next hn) (ru_more hb hi h1 (by omega))
      refine ⟨fun h => ?_, h3.2⟩
      obtain ⟨g1, g2, g3⟩ := h3.1 h
      exact ⟨by omega, by rw [List.length_cons]; omega, g3⟩
end Go.Proofs.YtdiiefhklcchmaaDoor
/-
  THE STEP OF A ROW WITH A BOUND ON THE ARGUMENTS, LISTED VARIABLES OF THE LIBRARY AND THE WORLD's SHAPE (the kit has each of the three alone). No program, no condition of its own.
-/
namespace Go.Proofs.YtdiiefhklcchmaaDoor
open Go

section
variable {H : Type} {enc : TypeId × Value → H}
theorem handed_cond_and {a : Assume} {C : Checked} {os : Os} {f : FuncId} {fn : Func} {s : OpenSpec} {k : (H : Type) → List (DataW H) → Bool} (hk : s.cond = some k) {F : Stop.Interp} {conds : List PathCond} {apart fresh handsOn again : Bool} {X : World → Array Value → Prop}
    (hX : ∀ (w w' : World) (args : Array Value), w.heap = w'.heap → X w args → X w' args)
    (own : ownKnob C.prog.godebug = none) (started : os.Started) (noInit : C.prog.inits.idxOf? f = none) (hfn : C.prog.funcs[f]? = some fn)
    (witness : ∃ (w : World) (tape : Tape) (i : Input), w.os = os ∧ (w.forCall tape i).Shaped C.prog ∧ i.vars = [] ∧ Input.okWide C.prog (w.forCall tape i) .any w.heap.size f i ∧
      ((s.pre enc C.prog fn conds apart (w.forCall tape i).memory i.args ∧ X (w.forCall tape i).memory i.args) ∧ sizedMet enc C.prog fn s apart (w.forCall tape i).memory i.args) ∧ a.holds C.prog (lone (Frame.enter C.prog f i.args .normal) [] (w.forCall tape i)))
    (contract : ∀ (W : World) (base : Nat) (args : Array Value) (ds gs : List (DataW H)) (before : List MemPlace),
      (∀ (j : Nat) t v, fn.params[j]? = some t → args[j]? = some v → Value.okWide C.prog W .any base t v) →
      DataW.Whole enc C.prog fn.params.toList s.vars apart W args.toList ds gs before →
      conds.all (PathCond.test C.prog ⟨fn.params.toList, ds, s.bare.plain.varTypes C.prog, gs⟩) = true → k H (ds ++ gs) = true →
      (DataW.weightsEach C.prog (fn.params.toList ++ s.bare.plain.varTypes C.prog) (ds ++ gs)).all (· ≤ reachBytes) = true → X W args → W.ShapedOpen C.prog →
      a.holds C.prog (lone (Frame.enter C.prog f args .normal) [] W) →
      Calls C.prog f args W fun e W' => ∃ v, e = .returned v ∧ (s.at F).post enc C.prog fn apart fresh handsOn again W args v W') :
    ReturnsInHanded a C os f .any (fun w args => (s.pre enc C.prog fn conds apart w args ∧ X w args) ∧ sizedMet enc C.prog fn s apart w args) ((s.at F).post enc C.prog fn apart fresh handsOn again) := by
  refine returnsInHanded_of_calls own started noInit witness ?_
  intro w tape i _ hsh _ hok hpre hholds
  obtain ⟨_, _, _, fn', hfn', _, _, _, _, hval⟩ := hok
  have e : fn' = fn := Option.some.inj (hfn'.symm.trans hfn)
  subst e
  obtain ⟨ds, gs, before, hw, hc, hkk⟩ := (OpenSpec.pre_some hk conds apart _ _).1 hpre.1.1
  have hw' := DataW.Whole.of_heap (w' := w.forCall tape i) (by rfl) hw
  refine (contract (w.forCall tape i) w.heap.size i.args ds gs before hval hw' hc hkk (hpre.2.weights hw) (hX _ _ _ (by rfl) hpre.1.2) hsh hholds).mono fun e W' ⟨v, he, hp⟩ => ?_
  subst he
  exact ChangeSpec.post_blind hp
theorem witness_cond_and {C : Checked} {os : Os} {f : FuncId} {fn : Func} {s : OpenSpec} {k : (H : Type) → List (DataW H) → Bool} (hk : s.cond = some k) {conds : List PathCond} {apart : Bool} {X : World → Array Value → Prop} (modest : Bool) (w0 : World) (args : Array Value) (fuel : Nat) (hos : w0.os = os)
    (hsh : (w0.forCall (fun _ _ => 0) ⟨#[], args, []⟩).Shaped C.prog)
    (hok : Input.okWideB C.prog (w0.forCall (fun _ _ => 0) ⟨#[], args, []⟩) f ⟨#[], args, []⟩ = true)
    {x : List (DataW H) × List (DataW H) × List MemPlace} (hx : DataW.whole enc C.prog (w0.forCall (fun _ _ => 0) ⟨#[], args, []⟩).memory fn.params.toList s.vars apart args.toList fuel = some x)
    (hconds : conds.all (PathCond.test C.prog ⟨fn.params.toList, x.1, s.bare.plain.varTypes C.prog, x.2.1⟩) = true) (hkk : k H (x.1 ++ x.2.1) = true)
    (hsz : s.bare.sizedB enc C.prog fn apart (w0.forCall (fun _ _ => 0) ⟨#[], args, []⟩).memory args fuel = true)
    (hX : X (w0.forCall (fun _ _ => 0) ⟨#[], args, []⟩).memory args) :
    ∃ (w : World) (tape : Tape) (i : Input), w.os = os ∧ (w.forCall tape i).Shaped C.prog ∧ i.vars = [] ∧ Input.okWide C.prog (w.forCall tape i) .any w.heap.size f i ∧
      ((s.pre enc C.prog fn conds apart (w.forCall tape i).memory i.args ∧ X (w.forCall tape i).memory i.args) ∧ sizedMet enc C.prog fn s apart (w.forCall tape i).memory i.args) ∧ ({ modest := modest } : Assume).holds C.prog (lone (Frame.enter C.prog f i.args .normal) [] (w.forCall tape i)) :=
  ⟨w0, fun _ _ => 0, ⟨#[], args, []⟩, hos, hsh, (Input.okWide_of_okWideB (base := 0) hok).1, (Input.okWide_of_okWideB hok).2, ⟨⟨(OpenSpec.pre_some hk conds apart _ _).2 ⟨x.1, x.2.1, x.2.2, DataW.Whole_of_whole hx, hconds, hkk⟩, hX⟩, sizedMet_of_sizedB hsz⟩, by
    simp only [Assume.holds]
    exact ⟨by simp, by simp, fun _ => Modest.zero, by simp, by simp⟩⟩
end
end Go.Proofs.YtdiiefhklcchmaaDoor
