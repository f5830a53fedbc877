/-
  TEXTS, plain: the reference's reading of one sign is the model's decoder's. No program.
-/
import Derived.Test.YtomaiolhaenmhaaDoorLebW
import Derived.Lib.ValidLaws
namespace Go.Proofs.YtomaiolhaenmhaaDoor
open Go.RowKit

/-- byte j of a text (0 beyond its end) -/
def bt (s : ByteArray) (j : Nat) : Nat := (s.get! j).toNat
theorem bt_lt (s : ByteArray) (j : Nat) : bt s j < 256 := UInt8.toNat_lt _
/-- the number once k bytes are in it -/
def accS (s : ByteArray) (c : Nat) : Nat → Nat
  | 0 => c
  | k + 1 => accS s c k * 64 + (bt s (k + 1) - 128)
def okB (s : ByteArray) (j : Nat) : Bool := decide (128 ≤ bt s j) && decide (bt s j ≤ 191)
def leastS (M : Nat) : Nat := if M = 2 then 128 else if M = 3 then 2048 else if M = 4 then 65536 else 0
def okV (M v : Nat) : Bool := decide (leastS M ≤ v) && decide (v ≤ 1114111) && !(decide (55296 ≤ v) && decide (v ≤ 57343))
/-- a sign of M bytes whose first byte gives c -/
def signV (M c : Nat) (s : ByteArray) : Nat :=
  if s.size < M then 0 else if (List.range (M - 1)).all (fun j => okB s (j + 1)) = true then (if okV M (accS s c (M - 1)) = true then M else 0) else 0
def signS (s : ByteArray) : Nat :=
  if bt s 0 < 128 then 1
  else if 192 ≤ bt s 0 ∧ bt s 0 < 224 then signV 2 (bt s 0 - 192) s
  else if 224 ≤ bt s 0 ∧ bt s 0 < 240 then signV 3 (bt s 0 - 224) s
  else if 240 ≤ bt s 0 ∧ bt s 0 < 248 then signV 4 (bt s 0 - 240) s
  else 0
def cond2 (n b1 v : Nat) : Prop := 2 ≤ n ∧ 128 ≤ b1 ∧ b1 ≤ 191 ∧ 128 ≤ v ∧ v ≤ 1114111 ∧ ¬ (55296 ≤ v ∧ v ≤ 57343)
def cond3 (n b1 b2 v : Nat) : Prop := 3 ≤ n ∧ 128 ≤ b1 ∧ b1 ≤ 191 ∧ 128 ≤ b2 ∧ b2 ≤ 191 ∧ 2048 ≤ v ∧ v ≤ 1114111 ∧ ¬ (55296 ≤ v ∧ v ≤ 57343)
def cond4 (n b1 b2 b3 v : Nat) : Prop := 4 ≤ n ∧ 128 ≤ b1 ∧ b1 ≤ 191 ∧ 128 ≤ b2 ∧ b2 ≤ 191 ∧ 128 ≤ b3 ∧ b3 ≤ 191 ∧ 65536 ≤ v ∧ v ≤ 1114111 ∧ ¬ (55296 ≤ v ∧ v ≤ 57343)
theorem okB_iff (s : ByteArray) (j : Nat) : okB s j = true ↔ 128 ≤ bt s j ∧ bt s j ≤ 191 := by unfold okB; rw [Bool.and_eq_true, decide_eq_true_iff, decide_eq_true_iff]
theorem okV_iff (M v : Nat) : okV M v = true ↔ leastS M ≤ v ∧ v ≤ 1114111 ∧ ¬ (55296 ≤ v ∧ v ≤ 57343) := by
  unfold okV
  rw [Bool.and_eq_true, Bool.and_eq_true, decide_eq_true_iff, decide_eq_true_iff, Bool.not_eq_true', Bool.and_eq_false_iff, decide_eq_false_iff_not, decide_eq_false_iff_not]
  constructor
  · rintro ⟨⟨h1, h2⟩, h3⟩; exact ⟨h1, h2, fun h => h3.elim (fun k => k h.1) (fun k => k h.2)⟩
  · rintro ⟨h1, h2, h3⟩
    refine ⟨⟨h1, h2⟩, ?_⟩
    by_cases h : 55296 ≤ v
    · exact .inr (fun h' => h3 ⟨h, h'⟩)
    · exact .inl h
theorem signV_iff (M c : Nat) (s : ByteArray) : (signV M c s = M ∧ (M ≤ s.size ∧ (List.range (M - 1)).all (fun j => okB s (j + 1)) = true ∧ okV M (accS s c (M - 1)) = true)) ∨ (signV M c s = 0 ∧ ¬ (M ≤ s.size ∧ (List.range (M - 1)).all (fun j => okB s (j + 1)) = true ∧ okV M (accS s c (M - 1)) = true)) := by
  unfold signV
  by_cases h1 : s.size < M
  · rw [if_pos h1]; exact .inr ⟨rfl, fun h => by omega⟩
  · rw [if_neg h1]
    by_cases h2 : (List.range (M - 1)).all (fun j => okB s (j + 1)) = true
    · rw [if_pos h2]
      by_cases h3 : okV M (accS s c (M - 1)) = true
      · rw [if_pos h3]; exact .inl ⟨rfl, by omega, h2, h3⟩
      · rw [if_neg h3]; exact .inr ⟨rfl, fun h => h3 h.2.2⟩
    · rw [if_neg h2]; exact .inr ⟨rfl, fun h => h2 h.2.1⟩
theorem sv2 (c : Nat) (s : ByteArray) : (signV 2 c s = 2 ∧ cond2 s.size (bt s 1) (c * 64 + (bt s 1 - 128))) ∨ (signV 2 c s = 0 ∧ ¬ cond2 s.size (bt s 1) (c * 64 + (bt s 1 - 128))) := by
  have h := signV_iff 2 c s
  rw [okV_iff, show List.range (2 - 1) = [0] from rfl, List.all_cons, List.all_nil, Bool.and_true, okB_iff, show accS s c (2 - 1) = c * 64 + (bt s 1 - 128) from rfl, show leastS 2 = 128 from rfl] at h
  rcases h with ⟨h1, h2⟩ | ⟨h1, h2⟩
  · exact .inl ⟨h1, h2.1, h2.2.1.1, h2.2.1.2, h2.2.2⟩
  · exact .inr ⟨h1, fun h => h2 ⟨h.1, ⟨h.2.1, h.2.2.1⟩, h.2.2.2⟩⟩
theorem sv3 (c : Nat) (s : ByteArray) : (signV 3 c s = 3 ∧ cond3 s.size (bt s 1) (bt s 2) ((c * 64 + (bt s 1 - 128)) * 64 + (bt s 2 - 128))) ∨ (signV 3 c s = 0 ∧ ¬ cond3 s.size (bt s 1) (bt s 2) ((c * 64 + (bt s 1 - 128)) * 64 + (bt s 2 - 128))) := by
  have h := signV_iff 3 c s
  rw [okV_iff, show List.range (3 - 1) = [0, 1] from rfl, List.all_cons, List.all_cons, List.all_nil, Bool.and_true, Bool.and_eq_true, okB_iff, okB_iff, show accS s c (3 - 1) = (c * 64 + (bt s 1 - 128)) * 64 + (bt s 2 - 128) from rfl, show leastS 3 = 2048 from rfl] at h
  rcases h with ⟨h1, h2⟩ | ⟨h1, h2⟩
  · exact .inl ⟨h1, h2.1, h2.2.1.1.1, h2.2.1.1.2, h2.2.1.2.1, h2.2.1.2.2, h2.2.2⟩
  · exact .inr ⟨h1, fun h => h2 ⟨h.1, ⟨⟨h.2.1, h.2.2.1⟩, ⟨h.2.2.2.1, h.2.2.2.2.1⟩⟩, h.2.2.2.2.2⟩⟩
theorem sv4 (c : Nat) (s : ByteArray) : (signV 4 c s = 4 ∧ cond4 s.size (bt s 1) (bt s 2) (bt s 3) (((c * 64 + (bt s 1 - 128)) * 64 + (bt s 2 - 128)) * 64 + (bt s 3 - 128))) ∨ (signV 4 c s = 0 ∧ ¬ cond4 s.size (bt s 1) (bt s 2) (bt s 3) (((c * 64 + (bt s 1 - 128)) * 64 + (bt s 2 - 128)) * 64 + (bt s 3 - 128))) := by
  have h := signV_iff 4 c s
  rw [okV_iff, show List.range (4 - 1) = [0, 1, 2] from rfl, List.all_cons, List.all_cons, List.all_cons, List.all_nil, Bool.and_true, Bool.and_eq_true, Bool.and_eq_true, okB_iff, okB_iff, okB_iff, show accS s c (4 - 1) = ((c * 64 + (bt s 1 - 128)) * 64 + (bt s 2 - 128)) * 64 + (bt s 3 - 128) from rfl, show leastS 4 = 65536 from rfl] at h
  rcases h with ⟨h1, h2⟩ | ⟨h1, h2⟩
  · exact .inl ⟨h1, h2.1, h2.2.1.1.1, h2.2.1.1.2, h2.2.1.2.1.1, h2.2.1.2.1.2, h2.2.1.2.2.1, h2.2.1.2.2.2, h2.2.2⟩
  · exact .inr ⟨h1, fun h => h2 ⟨h.1, ⟨⟨h.2.1, h.2.2.1⟩, ⟨h.2.2.2.1, h.2.2.2.2.1⟩, ⟨h.2.2.2.2.2.1, h.2.2.2.2.2.2.1⟩⟩, h.2.2.2.2.2.2.2⟩⟩
set_option maxHeartbeats 4000000 in
/-- the decoder's step is the sign's -/
theorem sign_decode (s : ByteArray) (h : 0 < s.size) : signS s = if (Utf8.decode s 0).1 = 65533 ∧ (Utf8.decode s 0).2 = 1 then 0 else (Utf8.decode s 0).2 := by
  rw [Lib.decode_at s 0]
  show signS s = if (Lib.decodeN s.size (bt s 0) (bt s 1) (bt s 2) (bt s 3)).1 = 65533 ∧ (Lib.decodeN s.size (bt s 0) (bt s 1) (bt s 2) (bt s 3)).2 = 1 then 0 else (Lib.decodeN s.size (bt s 0) (bt s 1) (bt s 2) (bt s 3)).2
  unfold signS
  have s2 := sv2 (bt s 0 - 192) s
  have s3 := sv3 (bt s 0 - 224) s
  have s4 := sv4 (bt s 0 - 240) s
  generalize signV 2 (bt s 0 - 192) s = r2 at *
  generalize signV 3 (bt s 0 - 224) s = r3 at *
  generalize signV 4 (bt s 0 - 240) s = r4 at *
  have h0 := bt_lt s 0
  have h1 := bt_lt s 1
  have h2 := bt_lt s 2
  have h3 := bt_lt s 3
  generalize bt s 0 = b0 at *
  generalize bt s 1 = b1 at *
  generalize bt s 2 = b2 at *
  generalize bt s 3 = b3 at *
  generalize s.size = n at *
  unfold cond2 at s2
  unfold cond3 at s3
  unfold cond4 at s4
  by_cases c0 : b0 < 128
  · rw [if_pos c0]
    unfold Lib.decodeN
    rw [if_pos c0, if_neg (by simp; omega)]
  rw [if_neg c0]
  by_cases c2 : 192 ≤ b0 ∧ b0 < 224
  · rw [if_pos c2]
    clear s3 s4
    obtain ⟨p, hp⟩ : ∃ p, p = Lib.decodeN n b0 b1 b2 b3 := ⟨_, rfl⟩
    rw [← hp]
    unfold Lib.decodeN at hp
    repeat' split at hp
    all_goals subst hp
    all_goals first | (exfalso; omega) | (rw [if_pos ⟨rfl, rfl⟩]; omega) | (rw [if_neg (fun h => absurd (show (2 : Nat) = 1 from h.2) (by decide))]; show _ = 2; omega) | (rw [if_neg (fun h => absurd (show (3 : Nat) = 1 from h.2) (by decide))]; show _ = 3; omega) | (rw [if_neg (fun h => absurd (show (4 : Nat) = 1 from h.2) (by decide))]; show _ = 4; omega)
  rw [if_neg c2]
  by_cases c3 : 224 ≤ b0 ∧ b0 < 240
  · rw [if_pos c3]
    clear s2 s4
    obtain ⟨p, hp⟩ : ∃ p, p = Lib.decodeN n b0 b1 b2 b3 := ⟨_, rfl⟩
    rw [← hp]
    unfold Lib.decodeN at hp
    repeat' split at hp
    all_goals subst hp
    all_goals first | (exfalso; omega) | (rw [if_pos ⟨rfl, rfl⟩]; omega) | (rw [if_neg (fun h => absurd (show (2 : Nat) = 1 from h.2) (by decide))]; show _ = 2; omega) | (rw [if_neg (fun h => absurd (show (3 : Nat) = 1 from h.2) (by decide))]; show _ = 3; omega) | (rw [if_neg (fun h => absurd (show (4 : Nat) = 1 from h.2) (by decide))]; show _ = 4; omega)
  rw [if_neg c3]
  clear s2 s3
  have s5 : (240 ≤ b0 ∧ b0 < 248 → (if 240 ≤ b0 ∧ b0 < 248 then r4 else 0) = r4) ∧ (¬ (240 ≤ b0 ∧ b0 < 248) → (if 240 ≤ b0 ∧ b0 < 248 then r4 else 0) = 0) := ⟨fun h => if_pos h, fun h => if_neg h⟩
  generalize (if 240 ≤ b0 ∧ b0 < 248 then r4 else 0) = r5 at *
  obtain ⟨p, hp⟩ : ∃ p, p = Lib.decodeN n b0 b1 b2 b3 := ⟨_, rfl⟩
  rw [← hp]
  unfold Lib.decodeN at hp
  repeat' split at hp
  all_goals subst hp
  all_goals first | (exfalso; omega) | (rw [if_pos ⟨rfl, rfl⟩]; omega) | (rw [if_neg (fun h => absurd (show (2 : Nat) = 1 from h.2) (by decide))]; show _ = 2; omega) | (rw [if_neg (fun h => absurd (show (3 : Nat) = 1 from h.2) (by decide))]; show _ = 3; omega) | (rw [if_neg (fun h => absurd (show (4 : Nat) = 1 from h.2) (by decide))]; show _ = 4; omega)
theorem decodeL_data (t : ByteArray) : Lib.decodeL t.data.toList = Utf8.decode t 0 := by
  unfold Lib.decodeL
  congr 1
theorem valid_step (t : ByteArray) (h : 0 < t.size) : Lib.validD t.data.toList = if signS t = 0 then false else Lib.validD (t.data.toList.drop (signS t)) := by
  have hne : t.data.toList ≠ [] := by
    intro e
    have h1 : t.data.toList.length = 0 := by rw [e]; rfl
    rw [Array.length_toList] at h1
    have h2 : t.data.size = t.size := rfl
    omega
  rw [Lib.validD_step _ hne, decodeL_data, sign_decode t h]
  by_cases hc : (Utf8.decode t 0).1 = 65533 ∧ (Utf8.decode t 0).2 = 1
  · rw [if_pos hc, if_pos hc]; rfl
  · rw [if_neg hc, if_neg hc]
    have hw := Lib.decodeL_width t.data.toList
    rw [decodeL_data] at hw
    rw [if_neg (show ¬ (Utf8.decode t 0).2 = 0 by omega)]
theorem signS_le (t : ByteArray) (h : 0 < t.size) : signS t ≤ t.size ∧ signS t ≤ 4 := by
  unfold signS
  have s2 := sv2 (bt t 0 - 192) t
  have s3 := sv3 (bt t 0 - 224) t
  have s4 := sv4 (bt t 0 - 240) t
  unfold cond2 at s2
  unfold cond3 at s3
  unfold cond4 at s4
  repeat' split
  all_goals omega
end Go.Proofs.YtomaiolhaenmhaaDoor
