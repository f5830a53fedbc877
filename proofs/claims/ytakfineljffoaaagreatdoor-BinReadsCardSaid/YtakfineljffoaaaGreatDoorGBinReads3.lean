/-
  PLAIN LEMMAS ON BITS, WRAPS AND BYTES. No condition beside those that each lemma bears.
-/
import Derived.Test.YtakfineljffoaaaGreatDoorGBinReads1
import Derived.Test.YtakfineljffoaaaGreatDoorGBinReads2
import Derived.Laws.BitsLemmas
import Derived.Deep.RegionHeld3
import Derived.Deep.AppendLies
import Derived.Deep.DrawnRows
import Derived.Deep.DeepCutAuto
import Derived.Laws.BytesArg
import Derived.Lib.AppendStr
namespace Go.Proofs.YtakfineljffoaaaGreatDoor
open Go.RowKit

theorem wrap_congr (k : IntKind) {a c : Int} (h : a % 2 ^ k.bits = c % 2 ^ k.bits) : k.wrap a = k.wrap c := by
  simp only [IntKind.wrap, h]

theorem or_add (k : IntKind) (x y : Int) (p : Nat) (hp : p ≤ k.bits) (h0 : 0 ≤ x) (h1 : x < 2 ^ p) (hy : y % 2 ^ p = 0) :
    bits .or k x y = k.wrap (x + y) := by
  obtain ⟨a, rfl⟩ := Int.eq_ofNat_of_zero_le h0
  have ha : a < 2 ^ p := by exact_mod_cast h1
  have hpn : 2 ^ p ≤ 2 ^ k.bits := Nat.pow_le_pow_right (by decide) hp
  have hpos : (0 : Int) < 2 ^ k.bits := Int.pow_pos (by decide)
  have hY0 : 0 ≤ y % 2 ^ k.bits := Int.emod_nonneg _ (by omega)
  obtain ⟨b, hb⟩ := Int.eq_ofNat_of_zero_le hY0
  have e1 : (BitVec.ofInt k.bits (a : Int)).toNat = a := by
    rw [BitVec.ofInt_natCast, BitVec.toNat_ofNat]; exact Nat.mod_eq_of_lt (by omega)
  have e2 : (BitVec.ofInt k.bits y).toNat = b := by
    rw [BitVec.toNat_ofInt]
    have : (y % ((2 ^ k.bits : Nat) : Int)) = (b : Int) := by rw [← hb]; simp
    rw [this]; simp
  have hd : b % 2 ^ p = 0 := by
    have : (b : Int) % 2 ^ p = 0 := by
      rw [← hb]
      rw [Int.emod_emod_of_dvd _ ⟨2 ^ (k.bits - p), by rw [← Int.pow_add]; congr 1; omega⟩]
      exact hy
    exact_mod_cast this
  have hq : b = 2 ^ p * (b / 2 ^ p) := by
    have := Nat.div_add_mod b (2 ^ p)
    omega
  have e3 : (a ||| b) = a + b := by
    rw [hq, Nat.or_comm, ← Nat.two_pow_add_eq_or_of_lt ha (b / 2 ^ p)]
    omega
  simp only [bits, BitVec.toNat_or, e1, e2, e3]
  refine wrap_congr k ?_
  push_cast
  rw [← hb]
  simp

theorem u64w (n : Nat) (h : n < 18446744073709551616) : IntKind.u64.wrap (n : Int) = n := by
  rw [Go.IntKind.wrap_u64]; omega

theorem and127 (c : UInt8) : bits .and .u8 (c.toNat : Int) 127 = ((c.toNat % 128 : Nat) : Int) := by
  have h := bits_mask .u8 8 (by decide) wraps_u8 7 (by decide) (c.toNat : Int) (by omega) (by have := c.toNat_lt; omega)
  have e : ((2 : Int) ^ 7 - 1) = 127 := by decide
  rw [e] at h
  rw [h]; simp

theorem pow_lt_u64 (k : Nat) (hk : k ≤ 9) : (2 : Nat) ^ (7 * k) ≤ 9223372036854775808 := by
  have : (2 : Nat) ^ (7 * k) ≤ 2 ^ 63 := Nat.pow_le_pow_right (by decide) (by omega)
  have e : (2 : Nat) ^ 63 = 9223372036854775808 := by decide
  omega

theorem byte_lt (c : UInt8) : c.toNat < 256 := c.toNat_lt

end Go.Proofs.YtakfineljffoaaaGreatDoor
namespace Go.Proofs.YtakfineljffoaaaGreatDoor
open Go.RowKit

/-- what the program's ReadU computes from the byte number i on -/
def ru (b : Nat) : List UInt8 → Nat → Nat → Nat × Nat × Nat
  | [], _, _ => (0, 0, 3)
  | c :: r, i, n =>
    if b - 7 * i < 7 ∧ c.toNat / 2 ^ (b - 7 * i) ≠ 0 then (0, 0, 4)
    else if c.toNat < 128 then (n + c.toNat % 128 * 2 ^ (7 * i), i + 1, 0)
    else ru b r (i + 1) (n + c.toNat % 128 * 2 ^ (7 * i))

theorem or_step (a k c : Nat) (hk : k ≤ 9) (ha : a < 2 ^ (7 * k)) (hs : a + c % 128 * 2 ^ (7 * k) < 18446744073709551616) (u : UInt8) (hu : u.toNat = c) :
    bits .or .u64 (a : Int) (IntKind.u64.wrap (IntKind.u64.wrap (bits .and .u8 (u.toNat : Int) 127) * 2 ^ (7 * k))) = ((a + c % 128 * 2 ^ (7 * k) : Nat) : Int) := by
  rw [and127, hu, u64w _ (by omega)]
  have e : ((c % 128 : Nat) : Int) * 2 ^ (7 * k) = ((c % 128 * 2 ^ (7 * k) : Nat) : Int) := by push_cast; rfl
  rw [e, u64w _ (by omega), or_add .u64 _ _ (7 * k) (by show 7 * k ≤ 64; omega) (by omega) (by exact_mod_cast ha) (by
    rw [← e]; exact Int.mul_emod_left _ _)]
  rw [← Int.natCast_add, u64w _ hs]

theorem ru_room {b k a c : Nat} (hb : b = 32 ∨ b = 64) (h7 : 7 * k < b) (ha : a < 2 ^ (7 * k)) (hc : ¬ (b - 7 * k < 7 ∧ c / 2 ^ (b - 7 * k) ≠ 0)) :
    a + c % 128 * 2 ^ (7 * k) < 18446744073709551616 := by
  have hbb : (2 : Nat) ^ b ≤ 2 ^ 64 := Nat.pow_le_pow_right (by decide) (by omega)
  have e64 : (2 : Nat) ^ 64 = 18446744073709551616 := by decide
  suffices h : a + c % 128 * 2 ^ (7 * k) < 2 ^ b by omega
  by_cases hl : b - 7 * k < 7
  · have h0 : c / 2 ^ (b - 7 * k) = 0 := Classical.byContradiction fun h => hc ⟨hl, h⟩
    have h1 : c < 2 ^ (b - 7 * k) := by
      rcases Nat.div_eq_zero_iff.1 h0 with h | h
      · have := Nat.two_pow_pos (b - 7 * k); omega
      · exact h
    have h2 : c % 128 ≤ c := Nat.mod_le _ _
    have h3 : (c % 128 + 1) * 2 ^ (7 * k) ≤ 2 ^ (b - 7 * k) * 2 ^ (7 * k) := Nat.mul_le_mul_right _ (by omega)
    rw [← Nat.pow_add, show b - 7 * k + 7 * k = b from by omega, Nat.add_mul] at h3
    omega
  · have h3 : (c % 128 + 1) * 2 ^ (7 * k) ≤ 2 ^ 7 * 2 ^ (7 * k) := Nat.mul_le_mul_right _ (by have := Nat.mod_lt c (show 0 < 128 by decide); omega)
    rw [← Nat.pow_add, Nat.add_mul] at h3
    have h4 : (2 : Nat) ^ (7 + 7 * k) ≤ 2 ^ b := Nat.pow_le_pow_right (by decide) (by omega)
    omega

theorem div_ne {c m : Nat} (h : (((c : Nat) : Int) / 2 ^ m != 0) = true) : c / 2 ^ m ≠ 0 := by
  have e : ((c : Int) / 2 ^ m) = ((c / 2 ^ m : Nat) : Int) := by push_cast; rfl
  rw [e] at h
  intro h0
  simp [h0] at h
theorem div_eq {c m : Nat} (h : (((c : Nat) : Int) / 2 ^ m != 0) = false) : c / 2 ^ m = 0 := by
  have e : ((c : Int) / 2 ^ m) = ((c / 2 ^ m : Nat) : Int) := by push_cast; rfl
  rw [e] at h
  have h' : (((c / 2 ^ m : Nat) : Int)) = 0 := by simpa using h
  omega
theorem ru_err {b k a : Nat} {c : UInt8} {l : List UInt8} {r : Nat × Nat × Nat} (H : Hid (ru b (c :: l) k a = r)) (h1 : (b : Int) - 7 * (k : Int) < 7) (h2 : (((c.toNat : Nat) : Int) / 2 ^ (b - 7 * k) != 0) = true) : r = (0, 0, 4) := by
  rw [← H.out, ru, if_pos ⟨by omega, div_ne h2⟩]
theorem ru_ret {b k a : Nat} {c : UInt8} {l : List UInt8} {r : Nat × Nat × Nat} (H : Hid (ru b (c :: l) k a = r)) (h1 : ¬ (b - 7 * k < 7 ∧ c.toNat / 2 ^ (b - 7 * k) ≠ 0)) (h2 : (c.toNat : Int) < 128) : r = (a + c.toNat % 128 * 2 ^ (7 * k), k + 1, 0) := by
  rw [← H.out, ru, if_neg h1, if_pos (by omega)]
theorem ru_go {b k a : Nat} {c : UInt8} {l : List UInt8} {r : Nat × Nat × Nat} (H : Hid (ru b (c :: l) k a = r)) (h1 : ¬ (b - 7 * k < 7 ∧ c.toNat / 2 ^ (b - 7 * k) ≠ 0)) (h2 : (128 : Int) ≤ (c.toNat : Int)) : Hid (ru b l (k + 1) (a + c.toNat % 128 * 2 ^ (7 * k)) = r) := by
  rw [← H.out, ru, if_neg h1, if_neg (by omega)]; exact rfl
/-- a byte that goes on leaves room for one more -/
theorem ru_more {b k c : Nat} (hb : b = 32 ∨ b = 64) (h7 : 7 * k < b) (h1 : ¬ (b - 7 * k < 7 ∧ c / 2 ^ (b - 7 * k) ≠ 0)) (h2 : 128 ≤ c) : 7 * (k + 1) < b := by
  by_cases hl : b - 7 * k < 7
  · exfalso
    refine h1 ⟨hl, fun h0 => ?_⟩
    rcases Nat.div_eq_zero_iff.1 h0 with h | h
    · have := Nat.two_pow_pos (b - 7 * k); omega
    · have : (2 : Nat) ^ (b - 7 * k) ≤ 2 ^ 6 := Nat.pow_le_pow_right (by decide) (by omega)
      omega
  · omega

theorem ru_next {k a c : Nat} (ha : a < 2 ^ (7 * k)) : a + c % 128 * 2 ^ (7 * k) < 2 ^ (7 * (k + 1)) := by
  have h3 : (c % 128 + 1) * 2 ^ (7 * k) ≤ 2 ^ 7 * 2 ^ (7 * k) := Nat.mul_le_mul_right _ (by have := Nat.mod_lt c (show 0 < 128 by decide); omega)
  rw [← Nat.pow_add, Nat.add_mul, show 7 + 7 * k = 7 * (k + 1) from by omega] at h3
  omega

/-- how many bytes above 127 stand ahead, at most m -/
def lead : Nat → List UInt8 → Nat
  | 0, _ => 0
  | _ + 1, [] => 0
  | m + 1, c :: r => if 127 < c.toNat then lead m r + 1 else 0

theorem lead_le (m : Nat) (l : List UInt8) : lead m l ≤ m ∧ lead m l ≤ l.length := by
  induction m generalizing l with
  | zero => simp [lead]
  | succ m ih =>
    cases l with
    | nil => simp [lead]
    | cons c r =>
      have := ih r
      simp only [lead]
      split <;> simp <;> omega

def mostOf (b : Nat) : Nat := if b = 64 then 10 else 5
/-- what the reference's span computes -/
def spanR (b : Nat) (l : List UInt8) : Nat × Nat × Nat :=
  if lead (mostOf b) l = mostOf b then (0, 0, 4) else if lead (mostOf b) l = l.length then (0, 0, 3) else (lead (mostOf b) l + 1, mostOf b, 0)

/-- the number whose digits to the base 128 are the bytes' low seven bits, the lowest first -/
def horner : List UInt8 → Nat
  | [] => 0
  | c :: r => c.toNat % 128 + 128 * horner r

theorem lead_stop {m k : Nat} {l : List UInt8} {r : Nat} (H : Hid (lead m l = k + lead r (l.drop k))) (h : r = 0 ∨ l.length ≤ k) : lead m l = k := by
  rw [H.out]
  rcases h with rfl | h
  · simp [lead]
  · rw [List.drop_of_length_le h]; cases r <;> simp [lead]
theorem lead_stop' {m k : Nat} {l t : List UInt8} {r : Nat} {c : UInt8} (H : Hid (lead m l = k + lead r (c :: t))) (h : (c.toNat : Int) ≤ 127) : lead m l = k := by
  rw [H.out]
  cases r with
  | zero => simp [lead]
  | succ r => simp [lead]; omega
theorem lead_go {m k : Nat} {l t : List UInt8} {r : Nat} {c : UInt8} (H : Hid (lead m l = k + lead r (c :: t))) (hr : 0 < r) (h : (127 : Int) < (c.toNat : Int)) : Hid (lead m l = (k + 1) + lead (r - 1) t) := by
  show _ = _
  rw [H.out]
  obtain ⟨r, rfl⟩ : ∃ q, r = q + 1 := ⟨r - 1, by omega⟩
  rw [lead, if_pos (by omega)]
  simp; omega

theorem horner_back (l : List UInt8) (j : Nat) (h : j < l.length) : horner (l.drop j) = l[j].toNat % 128 + 128 * horner (l.drop (j + 1)) := by
  rw [drop_cons l j h, horner]

theorem horner_lt (l : List UInt8) : horner l < 128 ^ l.length := by
  induction l with
  | nil => simp [horner]
  | cons c r ih =>
    simp only [horner, List.length_cons, Nat.pow_succ]
    have := Nat.mod_lt c.toNat (show 0 < 128 by decide)
    omega
theorem horner_snoc (l : List UInt8) (c : UInt8) : horner (l ++ [c]) = horner l + 128 ^ l.length * (c.toNat % 128) := by
  induction l with
  | nil => simp [horner]
  | cons d r ih =>
    simp only [List.cons_append, horner, ih, List.length_cons, Nat.pow_succ, Nat.mul_add]
    rw [show 128 * (128 ^ r.length * (c.toNat % 128)) = 128 ^ r.length * 128 * (c.toNat % 128) by rw [← Nat.mul_assoc, Nat.mul_comm 128]]
    omega

theorem most_lt {b : Nat} (hb : b = 32 ∨ b = 64) {i : Nat} (hi : i < mostOf b) : (i + 1 = mostOf b ∧ b - 7 * i < 7 ∧ 0 < b - 7 * i) ∨ (i + 1 < mostOf b ∧ 7 ≤ b - 7 * i) := by
  rcases hb with rfl | rfl <;> simp [mostOf] at hi ⊢ <;> omega

/-- the program's reader in closed form -/
theorem ru_lead {b : Nat} (hb : b = 32 ∨ b = 64) (l : List UInt8) : ∀ (i n : Nat), i < mostOf b → ru b l i n =
    if i + lead (mostOf b - i) l = mostOf b then (0, 0, 4) else if lead (mostOf b - i) l = l.length then (0, 0, 3)
    else if i + lead (mostOf b - i) l + 1 = mostOf b ∧ 2 ^ (b - 7 * (mostOf b - 1)) ≤ (l.getD (lead (mostOf b - i) l) 0).toNat then (0, 0, 4)
    else (n + 2 ^ (7 * i) * horner (l.take (lead (mostOf b - i) l + 1)), i + lead (mostOf b - i) l + 1, 0) := by
  induction l with
  | nil =>
    intro i n hi
    have : lead (mostOf b - i) [] = 0 := by cases mostOf b - i <;> simp [lead]
    rw [this, ru, if_neg (by omega), if_pos (by simp)]
  | cons c r ih =>
    intro i n hi
    obtain ⟨q, hq⟩ : ∃ q, mostOf b - i = q + 1 := ⟨mostOf b - i - 1, by omega⟩
    have hcb := byte_lt c
    rw [hq, ru, lead]
    rcases most_lt hb hi with ⟨h1, h2, h3⟩ | ⟨h1, h2⟩
    · have hm : mostOf b - 1 = i := by omega
      have hq0 : q = 0 := by omega
      subst hq0
      have hdiv : c.toNat / 2 ^ (b - 7 * i) ≠ 0 ↔ 2 ^ (b - 7 * i) ≤ c.toNat := by
        rw [Ne, Nat.div_eq_zero_iff]
        have := Nat.two_pow_pos (b - 7 * i)
        omega
      have hp64 : 2 ^ (b - 7 * i) ≤ 2 ^ 6 := Nat.pow_le_pow_right (by decide) (by omega)
      by_cases hc : 127 < c.toNat
      · rw [if_pos hc, if_pos ⟨h2, hdiv.2 (by omega)⟩]
        simp [lead, h1]
      · rw [if_neg hc]
        by_cases hbig : 2 ^ (b - 7 * i) ≤ c.toNat
        · rw [if_pos ⟨h2, hdiv.2 hbig⟩, if_neg (by omega), if_neg (by simp), if_pos ⟨by omega, by rw [hm]; simpa using hbig⟩]
        · rw [if_neg (fun h => hbig (hdiv.1 h.2)), if_pos (by omega), if_neg (by omega), if_neg (by simp), if_neg (fun h => hbig (by rw [← hm]; simpa using h.2))]
          simp [horner, Nat.mul_comm]
    · rw [if_neg (by omega)]
      by_cases hc : 127 < c.toNat
      · rw [if_pos hc, if_neg (by omega), ih (i + 1) _ (by omega)]
        have hq' : mostOf b - (i + 1) = q := by omega
        rw [hq']
        simp only [List.length_cons, Nat.add_right_cancel_iff, List.take_succ_cons, horner, List.getD_cons_succ]
        rw [show i + 1 + lead q r = i + (lead q r + 1) by omega]
        split
        · rfl
        · split
          · rfl
          · split
            · rfl
            · rw [show 7 * (i + 1) = 7 * i + 7 by omega, Nat.pow_add, show (2 : Nat) ^ 7 = 128 from rfl]
              congr 1
              rw [Nat.mul_add, Nat.mul_comm (c.toNat % 128), Nat.mul_assoc]
              omega
      · rw [if_neg hc, if_pos (by omega), if_neg (by omega), if_neg (by simp), if_neg (by omega)]
        simp [horner, Nat.mul_comm]

/-- one round of the reference's loop: n*128 + s[i]%128 -/
theorem horner_step (x c : Nat) : IntKind.u64.wrap (IntKind.u64.wrap (((x % 18446744073709551616 : Nat) : Int) * 128) + ((c % 128 : Nat) : Int)) = (((c % 128 + 128 * x) % 18446744073709551616 : Nat) : Int) := by
  rw [Go.IntKind.wrap_u64, Go.IntKind.wrap_u64]
  omega

/-- the low seven bits of a byte with their sign -/
def sv (c : Nat) : Int := if 64 ≤ c % 128 then ((c % 128 : Nat) : Int) - 128 else ((c % 128 : Nat) : Int)
theorem sv_raw (c : UInt8) : wrap64 (IntKind.i8.wrap ((c.toNat : Int) * 2 % 256)) / 2 = sv c.toNat := by
  have h := byte_lt c
  generalize c.toNat = n at *
  have e : IntKind.i8.wrap ((n : Int) * 2 % 256) = ((n : Int) * 2 % 256 + 128) % 256 - 128 := by
    simp [IntKind.wrap, IntKind.bits, IntKind.signed]
    split <;> omega
  rw [e]
  unfold wrap64 sv
  split <;> omega
theorem sv_bd (c : Nat) : -64 ≤ sv c ∧ sv c < 64 := by
  unfold sv
  split <;> omega
theorem two_raw {p : Nat} (h : p ≤ 5) : wrap64 ((2 : Int) ^ p) = 2 ^ p ∧ wrap64 (-wrap64 ((2 : Int) ^ p)) = -2 ^ p ∧ (1 : Int) ≤ 2 ^ p ∧ (2 : Int) ^ p ≤ 32 := by
  have : p = 0 ∨ p = 1 ∨ p = 2 ∨ p = 3 ∨ p = 4 ∨ p = 5 := by omega
  rcases this with rfl | rfl | rfl | rfl | rfl | rfl <;> refine ⟨?_, ?_, ?_, ?_⟩ <;> (try unfold wrap64) <;> decide

/-- what the program's ReadS computes from the byte number i on -/
def rs (b : Nat) : List UInt8 → Nat → Nat → Int × Nat × Nat
  | [], _, _ => (0, 0, 3)
  | c :: r, i, n =>
    if b - 7 * i < 7 ∧ (128 ≤ c.toNat ∨ sv c.toNat < -2 ^ (b - 7 * i - 1) ∨ 2 ^ (b - 7 * i - 1) ≤ sv c.toNat) then (0, 0, 4)
    else if c.toNat < 128 then ((n : Int) + sv c.toNat * 2 ^ (7 * i), i + 1, 0)
    else rs b r (i + 1) (n + c.toNat % 128 * 2 ^ (7 * i))

theorem rs_errA {b k a : Nat} {c : UInt8} {l : List UInt8} {r : Int × Nat × Nat} (H : Hid (rs b (c :: l) k a = r)) (h1 : (b : Int) - 7 * (k : Int) < 7) (h2 : (128 : Int) ≤ (c.toNat : Int)) : r = (0, 0, 4) := by
  rw [← H.out, rs, if_pos ⟨by omega, .inl (by omega)⟩]
theorem rs_errB {b k a : Nat} {c : UInt8} {l : List UInt8} {r : Int × Nat × Nat} (H : Hid (rs b (c :: l) k a = r)) (h1 : (b : Int) - 7 * (k : Int) < 7) (h2 : wrap64 (IntKind.i8.wrap ((c.toNat : Int) * 2 % 256)) / 2 < wrap64 (-wrap64 ((2 : Int) ^ (b - 7 * k - 1)))) : r = (0, 0, 4) := by
  rw [sv_raw, (two_raw (by omega)).2.1] at h2
  rw [← H.out, rs, if_pos ⟨by omega, .inr (.inl h2)⟩]
theorem rs_errC {b k a : Nat} {c : UInt8} {l : List UInt8} {r : Int × Nat × Nat} (H : Hid (rs b (c :: l) k a = r)) (h1 : (b : Int) - 7 * (k : Int) < 7) (h2 : ((128 : Int) ≤ (c.toNat : Int) ∨ wrap64 (IntKind.i8.wrap ((c.toNat : Int) * 2 % 256)) / 2 < wrap64 (-wrap64 ((2 : Int) ^ (b - 7 * k - 1)))) ∨ wrap64 ((2 : Int) ^ (b - 7 * k - 1)) ≤ wrap64 (IntKind.i8.wrap ((c.toNat : Int) * 2 % 256)) / 2) : r = (0, 0, 4) := by
  rw [sv_raw, (two_raw (by omega)).2.1, (two_raw (by omega)).1] at h2
  have h3 : 128 ≤ c.toNat ∨ sv c.toNat < -2 ^ (b - 7 * k - 1) ∨ 2 ^ (b - 7 * k - 1) ≤ sv c.toNat := by
    rcases h2 with (h2 | h2) | h2
    · exact .inl (by omega)
    · exact .inr (.inl h2)
    · exact .inr (.inr h2)
  rw [← H.out, rs, if_pos ⟨by omega, h3⟩]
theorem wrap64_small {x : Int} (h : -9223372036854775808 ≤ x) (h' : x < 9223372036854775808) : wrap64 x = x := by
  unfold wrap64; omega
theorem wrap_i64' (x : Int) : IntKind.i64.wrap x = wrap64 x := by
  unfold wrap64; exact Go.IntKind.wrap_i64 x
theorem wrap64_mod {p : Nat} (hp : p ≤ 64) (x : Int) : wrap64 (x * 2 ^ p) % 2 ^ p = 0 := by
  have h : wrap64 (x * 2 ^ p) = x * 2 ^ p - 18446744073709551616 * ((x * 2 ^ p + 9223372036854775808) / 18446744073709551616) := by
    unfold wrap64; omega
  have e : (18446744073709551616 : Int) = 2 ^ p * 2 ^ (64 - p) := by
    rw [← Int.pow_add, show p + (64 - p) = 64 by omega]; rfl
  rw [h, e, Int.mul_assoc, Int.mul_comm x, ← Int.mul_sub]
  exact Int.mul_emod_right _ _

/-- n | seven << 7*i, where seven << 7*i fits -/
theorem ors_step (a k : Nat) (x : Int) (hk : k ≤ 9) (ha : a < 2 ^ (7 * k)) (h1 : -9223372036854775808 ≤ x * 2 ^ (7 * k)) (h2 : (a : Int) + x * 2 ^ (7 * k) < 9223372036854775808) :
    bits .or .i64 (a : Int) (wrap64 (x * 2 ^ (7 * k))) = (a : Int) + x * 2 ^ (7 * k) := by
  rw [or_add .i64 _ _ (7 * k) (by show 7 * k ≤ 64; omega) (by omega) (by exact_mod_cast ha) (wrap64_mod (by omega) x)]
  rw [wrap_i64', wrap64_small (x := x * 2 ^ (7 * k)) h1 (by omega), wrap64_small (by omega) h2]

theorem pow7_le {k : Nat} (hk : k ≤ 8) : (2 : Int) ^ (7 * k) ≤ 72057594037927936 ∧ (0 : Int) < 2 ^ (7 * k) := by
  refine ⟨?_, Int.pow_pos (by decide)⟩
  have h : (2 : Nat) ^ (7 * k) ≤ 2 ^ 56 := Nat.pow_le_pow_right (by decide) (by omega)
  have e : (2 : Nat) ^ 56 = 72057594037927936 := by decide
  have e2 : (2 : Int) ^ (7 * k) = ((2 ^ (7 * k) : Nat) : Int) := by push_cast; rfl
  rw [e2]; omega

theorem rs_room {b k a : Nat} {c : Nat} (hb : b = 32 ∨ b = 64) (h7 : 7 * k < b) (ha : a < 2 ^ (7 * k)) (hc : b - 7 * k < 7 → -2 ^ (b - 7 * k - 1) ≤ sv c ∧ sv c < 2 ^ (b - 7 * k - 1)) :
    -9223372036854775808 ≤ sv c * 2 ^ (7 * k) ∧ (a : Int) + sv c * 2 ^ (7 * k) < 9223372036854775808 := by
  have hs := sv_bd c
  have ha' : (a : Int) < 2 ^ (7 * k) := by exact_mod_cast ha
  by_cases hk : k ≤ 8
  · obtain ⟨h1, h2⟩ := pow7_le hk
    have h3 : -64 * 2 ^ (7 * k) ≤ sv c * 2 ^ (7 * k) := Int.mul_le_mul_of_nonneg_right (by omega) (by omega)
    have h4 : sv c * 2 ^ (7 * k) ≤ 63 * 2 ^ (7 * k) := Int.mul_le_mul_of_nonneg_right (by omega) (by omega)
    omega
  · have hk9 : k = 9 := by omega
    subst hk9
    have hb' : b = 64 := by omega
    subst hb'
    obtain ⟨h1, h2⟩ := hc (by omega)
    have e1 : (2 : Int) ^ (64 - 7 * 9 - 1) = 1 := by decide
    have e2 : (2 : Int) ^ (7 * 9) = 9223372036854775808 := by decide
    rw [e1] at h1 h2
    rw [e2] at ha' ⊢
    omega

theorem rs_retD {b k a : Nat} {c : UInt8} {l : List UInt8} {r : Int × Nat × Nat} (H : Hid (rs b (c :: l) k a = r)) (hb : b = 32 ∨ b = 64) (h7 : 7 * k < b) (ha : a < 2 ^ (7 * k)) (h1 : (b : Int) - 7 * (k : Int) < 7)
    (h2 : ((c.toNat : Int) < 128 ∧ wrap64 (-wrap64 ((2 : Int) ^ (b - 7 * k - 1))) ≤ wrap64 (IntKind.i8.wrap ((c.toNat : Int) * 2 % 256)) / 2) ∧ wrap64 (IntKind.i8.wrap ((c.toNat : Int) * 2 % 256)) / 2 < wrap64 ((2 : Int) ^ (b - 7 * k - 1))) :
    r = (bits .or .i64 (a : Int) (wrap64 (wrap64 (IntKind.i8.wrap ((c.toNat : Int) * 2 % 256)) / 2 * 2 ^ (7 * k))), k + 1, 0) := by
  rw [sv_raw] at h2 ⊢
  rw [(two_raw (by omega)).2.1, (two_raw (by omega)).1] at h2
  have hr := rs_room hb h7 ha (fun _ => ⟨h2.1.2, h2.2⟩)
  rw [ors_step a k _ (by omega) ha hr.1 hr.2, ← H.out, rs, if_neg (by rintro ⟨_, h | h | h⟩ <;> omega), if_pos (by omega)]
theorem rs_retE {b k a : Nat} {c : UInt8} {l : List UInt8} {r : Int × Nat × Nat} (H : Hid (rs b (c :: l) k a = r)) (hb : b = 32 ∨ b = 64) (h7 : 7 * k < b) (ha : a < 2 ^ (7 * k)) (h1 : 7 ≤ (b : Int) - 7 * (k : Int)) (h2 : (c.toNat : Int) < 128) :
    r = (bits .or .i64 (a : Int) (wrap64 (wrap64 (IntKind.i8.wrap ((c.toNat : Int) * 2 % 256)) / 2 * 2 ^ (7 * k))), k + 1, 0) := by
  rw [sv_raw]
  have hr := rs_room (c := c.toNat) hb h7 ha (fun _ => by omega)
  rw [ors_step a k _ (by omega) ha hr.1 hr.2, ← H.out, rs, if_neg (by omega), if_pos (by omega)]
theorem rs_go {b k a : Nat} {c : UInt8} {l : List UInt8} {r : Int × Nat × Nat} (H : Hid (rs b (c :: l) k a = r)) (h1 : 7 ≤ (b : Int) - 7 * (k : Int)) (h2 : (128 : Int) ≤ (c.toNat : Int)) : Hid (rs b l (k + 1) (a + c.toNat % 128 * 2 ^ (7 * k)) = r) := by
  rw [← H.out, rs, if_neg (by omega), if_neg (by omega)]; exact rfl
theorem ors_go (a k : Nat) (c : UInt8) (hk : k ≤ 8) (ha : a < 2 ^ (7 * k)) :
    bits .or .i64 (a : Int) (wrap64 (wrap64 (bits .and .u8 (c.toNat : Int) 127) * 2 ^ (7 * k))) = ((a + c.toNat % 128 * 2 ^ (7 * k) : Nat) : Int) := by
  obtain ⟨h1, h2⟩ := pow7_le hk
  have ha' : (a : Int) < 2 ^ (7 * k) := by exact_mod_cast ha
  have h3 : ((c.toNat % 128 : Nat) : Int) * 2 ^ (7 * k) ≤ 127 * 2 ^ (7 * k) := Int.mul_le_mul_of_nonneg_right (by omega) (by omega)
  have h4 : 0 ≤ ((c.toNat % 128 : Nat) : Int) * 2 ^ (7 * k) := Int.mul_nonneg (by omega) (by omega)
  rw [and127, wrap64_small (x := ((c.toNat % 128 : Nat) : Int)) (by omega) (by omega), ors_step a k _ (by omega) ha (by omega) (by omega)]
  push_cast; rfl
end Go.Proofs.YtakfineljffoaaaGreatDoor
namespace Go.Proofs.YtakfineljffoaaaGreatDoor
open Go.RowKit Go.Lib

theorem wp_any {P : Program} {T E : TypeId} {z : Value} {size bytes : Nat} (hE : Elem P T E z size bytes)
    {o : Oper} {a : Act} {K : Act → World → Prop} {Q : Exit → Act → World → Prop} {w : World} {base : Nat} {v u : Value} {n m : Nat} {xs news : List Value} (s x : Operand)
    (ho : o.op = .call { callee := .builtin .append, args := #[s, x], argTypes := #[T, T] })
    (hs : a.eval s = v) (hx : a.eval x = u) (hown : w.ownsRow base E size v n xs) (hu : Sl w u m news) (hl : news.length = m * size) (h1 : ∀ c ∈ news, c.oneCell' = true)
    (hlen : n + m ≤ 9223372036854775807) (hbytes : (n + m) * bytes ≤ 140737488355328) (hbase : base ≤ w.heap.size)
    (h : ∀ v' w', w'.ownsRow base E size v' (n + m) (xs ++ news) → Below base w w' → Grew w v w' v' → K (a.put o.dst v') w') : Oper.wp P o a w K Q := by
  obtain ⟨ht, hinfo, hz2, hpos⟩ := hE
  obtain ⟨i0, hi, hz0, hz1, hzb⟩ := info_parts hinfo
  obtain ⟨ao, cap, rfl, hmc, hcap, hnil, hcells⟩ := hu
  cases ao with
  | none =>
    have hc0 := hnil rfl
    obtain rfl : m = 0 := by omega
    subst hc0
    have hn0 : news = [] := by simpa using hl
    subst hn0
    have hr : ∀ ty, (Builtin.append_ #[T, T] ty #[v, .slice none 0 0]).run P w = .ok v w := by
      intro ty
      rcases id hown.2 with ⟨rfl, rfl⟩ | ⟨g, cap, cur, rfl, hbg, hg, hnc, hcm, hcs, htake⟩
      · simp [Builtin.append_, run_underlying ht, sizeOf, typeInfo, hi, Builtin.lenOf, Builtin.firstCells]
      · simp [Builtin.append_, run_underlying ht, sizeOf, typeInfo, hi, Builtin.lenOf, Builtin.firstCells, loadCells, hnc, storeCells]
    unfold Oper.wp execOp
    simp only [ho, resolve, invoke, builtin, Sem.run_bind, Sem.run_pure, Result.andThen_ok, List.map_toArray, List.map_cons, List.map_nil, hs, hx, hr]
    exact h v w (by simpa using hown) (Below.refl _ _) ⟨World.grownBy.refl _ _, .inl rfl⟩
  | some ad =>
    have hnews : ∀ j c, news[j]? = some c → w.cell? (ad.add j) = some c := by
      intro j c hj
      rcases hcells with rfl | ⟨b, off, hb, hat⟩
      · simp at hj
      · simp only [Option.some.injEq] at hb
        subst hb
        have hjl : j < news.length := by
          rcases Nat.lt_or_ge j news.length with h | h
          · exact h
          · simp [List.getElem?_eq_none h] at hj
        have hplain : (⟨b, off, none⟩ : Addr).add j = ⟨b, off + j, none⟩ := by unfold Addr.add; split <;> simp_all
        rw [hplain, hat j hjl, ← hj, List.getElem?_eq_getElem hjl]
    obtain ⟨v', w', hr, h2, h3⟩ := run_own_fresh (P := P) w base T o.type E i0 z size bytes ht hi hz0 hz1 hzb hz2 hpos v n xs hown ad m cap news hl hnews h1 (by unfold maxLen; omega) hbytes hbase
    unfold Oper.wp execOp
    simp only [ho, resolve, invoke, builtin, Sem.run_bind, Sem.run_pure, Result.andThen_ok, List.map_toArray, List.map_cons, List.map_nil, hs, hx, hr]
    exact h v' w' h2 ((Below.refl base w).grown h3.1 hbase (own_block hown)) h3

/-- append(out, u...) as a step of a drawn region -/
theorem step_any {P : Program} {T E : TypeId} {z : Value} {size bytes : Nat} (hE : Elem P T E z size bytes)
    {ops : Array Oper} {o : Oper} {a : Act} {K : Act → World → Prop} {Q : Exit → Act → World → Prop} {EE : Prop} {w : World} {base : Nat} {v u : Value} {n m : Nat} {xs news : List Value} (hgd : o.guard = none) (s x : Operand)
    (ho : o.op = .call { callee := .builtin .append, args := #[s, x], argTypes := #[T, T] })
    (hs : a.eval s = v) (hx : a.eval x = u) (hown : w.ownsRow base E size v n xs) (hu : Sl w u m news) (hl : news.length = m * size) (h1 : ∀ c ∈ news, c.oneCell' = true)
    (hlen : n + m ≤ 9223372036854775807) (hbytes : (n + m) * bytes ≤ 140737488355328) (hbase : base ≤ w.heap.size)
    (h : ∀ v' w', w'.ownsRow base E size v' (n + m) (xs ++ news) → Below base w w' → Grew w v w' v' → K (a.put o.dst v') w') : if Region.wanted o (yielded ops a.tmps) = true then Oper.wp P o a w K Q else EE := by
  have hw : Region.wanted o (yielded ops a.tmps) = true := by simp [Region.wanted, hgd]
  rw [if_pos hw]
  exact wp_any hE s x ho hs hx hown hu hl h1 hlen hbytes hbase h

/-- append(out, x), x one struct in the block that was just laid -/
theorem step_one {P : Program} {T E : TypeId} {z : Value} {size bytes : Nat} (hE : Elem P T E z size bytes)
    {ops : Array Oper} {o : Oper} {a : Act} {K : Act → World → Prop} {Q : Exit → Act → World → Prop} {EE : Prop} {w : World} {base : Nat} {v : Value} {n : Nat} {xs cs : List Value} (hgd : o.guard = none) (s x : Operand)
    (ho : o.op = .call { callee := .builtin .append, args := #[s, x], argTypes := #[T, T] })
    {mm : Nat} (hs : a.eval s = v) (hx : a.eval x = .slice (some ⟨mm, 0, none⟩) 1 1) (hat : At w mm 0 cs) (hown : w.ownsRow base E size v n xs) (hl : cs.length = size) (h1 : ∀ c ∈ cs, c.oneCell' = true)
    (hlen : n + 1 ≤ 9223372036854775807) (hbytes : (n + 1) * bytes ≤ 140737488355328) (hbase : base ≤ w.heap.size)
    (h : ∀ v' w', w'.ownsRow base E size v' (n + 1) (xs ++ cs) → Below base w w' → Grew w v w' v' → K (a.put o.dst v') w') : if Region.wanted o (yielded ops a.tmps) = true then Oper.wp P o a w K Q else EE :=
  step_any hE hgd s x ho hs hx hown ⟨_, _, rfl, Nat.le_refl _, by omega, by simp, .inr ⟨mm, 0, rfl, hat⟩⟩ (by omega) h1 hlen hbytes hbase h

/-- append(out, x), x one struct in the block that was just laid: the world written out -/
theorem step_one1 {P : Program} {T E : TypeId} {z : Value} {size bytes : Nat} (hE : Elem P T E z size bytes)
    {ops : Array Oper} {o : Oper} {a : Act} {K : Act → World → Prop} {Q : Exit → Act → World → Prop} {EE : Prop} {w : World} {base : Nat} {v : Value} {n : Nat} {xs cs : List Value} (hgd : o.guard = none) (s x : Operand)
    (ho : o.op = .call { callee := .builtin .append, args := #[s, x], argTypes := #[T, T] })
    {mm : Nat} (hs : a.eval s = v) (hx : a.eval x = .slice (some ⟨mm, 0, none⟩) 1 1) (hmm : mm = w.heap.size) (hown : w.ownsRow base E size v n xs) (hl : cs.length = size) (h1 : ∀ c ∈ cs, c.oneCell' = true)
    (hlen : n + 1 ≤ 9223372036854775807) (hbytes : (n + 1) * bytes ≤ 140737488355328) (hbase : base ≤ w.heap.size)
    (h : ∀ v' w', w'.ownsRow base E size v' (n + 1) (xs ++ cs) → Below base w w' → Grew w v w' v' → K (a.put o.dst v') w') : if Region.wanted o (yielded ops a.tmps) = true then Oper.wp P o a (w.alloc (.cells cs.toArray E)) K Q else EE := by
  refine step_one hE hgd s x ho hs hx ?_ (hown.alloc _) hl h1 hlen hbytes (by simp; omega) ?_
  · subst hmm
    intro j hj
    rw [World.cell?_alloc_new]
    simp
  · intro v' w' g1 g2 g3
    obtain ⟨g3, g4⟩ := g3
    refine h v' w' g1 (((Below.refl base w).alloc hbase _).trans g2) ⟨⟨g3.os, g3.tape, g3.output, by have := g3.size; simp at this; omega, fun k hk hne => ?_⟩, ?_⟩
    · rw [g3.block k (by simp; omega) hne, Below.heap_alloc _ _ _ hk]
    · rcases g4 with g4 | ⟨k, g4, g5⟩
      · exact .inl g4
      · exact .inr ⟨k, g4, by simp at g5; omega⟩
theorem Grew.cell {w w' : World} {v v' : Value} (hg : Grew w v w' v') {a : Addr} {u : Value} (h : w.cell? a = some u) (hne : v.ownBlock ≠ some a.block) : w'.cell? a = some u :=
  (World.cell?_of_block (hg.1.block a.block (World.block_lt_of_cell? w a h) (Ne.symm hne))).trans h
theorem Grew.free {w w' : World} {v v' : Value} (hg : Grew w v w' v') {a : Addr} {u : Value} (h : w.cell? a = some u) (hne : v.ownBlock ≠ some a.block) (hf : w.frozen? a = false) : w'.frozen? a = false :=
  (World.frozen?_of_block (hg.1.block a.block (World.block_lt_of_cell? w a h) (Ne.symm hne))).trans hf
theorem own_lt_ne {w : World} {base : Nat} {e : TypeId} {size : Nat} {v : Value} {n : Nat} {cs : List Value} (h : w.ownsRow base e size v n cs) {k : Nat} (hk : w.heap.size ≤ k) : v.ownBlock ≠ some k := by
  intro e
  have := (h.lt k e).2
  omega
theorem Sl_at_new' (w : World) (cs : Array Value) (t : TypeId) (b : Nat) (hb : b = w.heap.size) : At (w.alloc (.cells cs t)) b 0 cs.toList := by
  subst hb
  intro j hj
  rw [World.cell?_alloc_new]
  simp
end Go.Proofs.YtakfineljffoaaaGreatDoor
namespace Go.Proofs.YtakfineljffoaaaGreatDoor
open Go.RowKit

def orE (a b : Int) : Int := if a = 0 then b else a
theorem orE_zero (b : Int) : orE 0 b = b := rfl
theorem orE_none (a : Int) : orE a 0 = a := by unfold orE; split <;> omega
theorem orE_stop {a : Int} (h : a ≠ 0) (b : Int) : orE a b = a := if_neg h
theorem orE_assoc (a b c : Int) : orE (orE a b) c = orE a (orE b c) := by
  unfold orE
  by_cases h : a = 0
  · simp [h]
  · simp [h]
def foldE {α : Type} (F : α → Int) : List α → Int
  | [] => 0
  | x :: r => orE (F x) (foldE F r)
theorem foldE_append {α : Type} (F : α → Int) (a b : List α) : foldE F (a ++ b) = orE (foldE F a) (foldE F b) := by
  induction a with
  | nil => rfl
  | cons x r ih => rw [List.cons_append, foldE, ih, foldE, orE_assoc]
theorem foldE_next {α : Type} (F : α → Int) (l : List α) (k : Nat) (h : k < l.length) (b : Int) : orE (orE b (foldE F (l.take k))) (F l[k]) = orE b (foldE F (l.take (k + 1))) := by
  rw [List.take_succ_eq_append_getElem h, foldE_append, orE_assoc]
  show orE b (orE _ _) = orE b (orE _ (orE (F l[k]) 0))
  rw [orE_none]
theorem foldE_stop {α : Type} (F : α → Int) (l : List α) (k : Nat) (b : Int) (h : orE b (foldE F (l.take k)) ≠ 0) : orE b (foldE F l) = orE b (foldE F (l.take k)) := by
  conv => lhs; rw [← List.take_append_drop k l, foldE_append, ← orE_assoc, orE_stop h]
theorem foldE_full {α : Type} (F : α → Int) (l : List α) (b : Int) : orE b (foldE F (l.take l.length)) = orE b (foldE F l) := by rw [List.take_length]
def ndE (is : Bool) (e : Int) : Int := if is = true then 0 else e
def eachE {α : Type} (F : α → Int) (l : List α) (most : Int) : Int := orE (ndE (decide ((l.length : Int) ≤ most)) 2) (foldE F l)
def isK (k : Int) : Bool := decide (k = 127 ∨ k = 126)
def fKind (k : Int) : Int := ndE (isK k) 1
def isI (n : Int) : Bool := decide (0 ≤ n ∧ n ≤ 4294967295)
def fIdx (n : Int) : Int := ndE (isI n) 1
def isP (n : Int) : Bool := decide (-2147483648 ≤ n ∧ n ≤ 2147483647)
def fPlc (n : Int) : Int := ndE (isP n) 1
end Go.Proofs.YtakfineljffoaaaGreatDoor
namespace Go.Proofs.YtakfineljffoaaaGreatDoor
open Go.RowKit

theorem info_u8 : (Tryz.prog.info? 5).map (fun i => (i.zero, i.size, i.bytes)) = some (some (.int .u8 0), 1, 1) := by kernel_rfl

theorem strOfNums_S (xs : List Int) : strOfNums xs = S (xs.map fun n => UInt8.ofNat n.toNat) := by
  simp [strOfNums, S]

/-- string(b) of a slice of bytes -/
theorem conv_bytes {w : World} {v : Value} {xs : List Int} (h : Ints w .u8 v xs) : (convert 47 9 v).run Tryz.prog w = .ok (.string (S (xs.map fun n => UInt8.ofNat n.toNat))) w := by
  rcases h.open with ⟨ao, cap, rfl, rfl, _⟩ | ⟨b, off, cap, rfl, h0, hcap, hm, hc⟩
  · cases ao with
    | none => exact run_convert_bytes_nil w _ _ Tryz.underlying47 Tryz.underlying5 0 cap _ Tryz.underlying9
    | some a =>
      rw [run_convert_bytes_string w _ _ _ _ _ _ Tryz.underlying47 Tryz.underlying5 Tryz.underlying9, run_bytesToString w _ 0 cap [] (by simp [loadCells, loadCellsFrom, Sem.run_pure])]
      rfl
  · rw [run_convert_bytes_arg w _ _ Tryz.underlying47 Tryz.underlying5 b off _ cap xs rfl (fun i hi => by rw [hc i hi]; simp [List.getD, hi]) _ Tryz.underlying9, strOfNums_S]

set_option maxRecDepth 100000 in
set_option maxHeartbeats 400000 in
theorem chr_any (n : Int) (w : World) :
    Calls Tryz.prog 175 #[.int .i64 n] w fun e w' => e = .returned (.string (S [byteOf n])) ∧ Below w.heap.size w w' := by
  have hc := conv_bytes (Ints.made' w .u8 5 [n % 256] w.heap.size rfl (by simp))
  simp only [List.length_cons, List.length_nil, List.map_cons, List.map_nil, Nat.zero_add] at hc
  go_enter Tryz.func175, Tryz.ntmps175
  go_wp2_with fail
  go_ret
  exact ⟨rfl, (Below.refl _ _).alloc (Nat.le_refl _) _⟩

theorem elem_u8 : Elem Tryz.prog 47 5 (.int .u8 0) 1 1 := ⟨Tryz.underlying47, info_u8, rfl, by decide⟩
end Go.Proofs.YtakfineljffoaaaGreatDoor
namespace Go.Proofs.YtakfineljffoaaaGreatDoor
open Go.RowKit Go.Lib

/-- the bytes of a string as numbers -/
def nums (s : ByteArray) : List Int := s.data.toList.map fun b => (b.toNat : Int)
theorem nums_length (s : ByteArray) : (nums s).length = s.size := (List.length_map _).trans rfl
theorem nums_bytes (s : ByteArray) : (nums s).map (fun n => UInt8.ofNat n.toNat) = s.data.toList := by
  unfold nums
  rw [List.map_map]
  exact (List.map_congr_left fun b _ => UInt8.ofNat_toNat).trans (List.map_id _)

theorem app_str {P : Program} {T U E : TypeId} (hE : Elem P T E (.int .u8 0) 1 1) (hU : P.underlying U = some .string)
    {ops : Array Oper} {rest : List Oper} {o : Oper} {a : Act} {Q : Exit → Act → World → Prop} {w : World} {base : Nat} {v : Value} {xs : List Int} {s : ByteArray} (hgd : o.guard = none) (sl x : Operand)
    (ho : o.op = .call { callee := .builtin .append, args := #[sl, x], argTypes := #[T, U] })
    (hs : a.eval sl = v) (hx : a.eval x = .string s) (hown : OwnI w base .u8 E v xs)
    (hlen : xs.length + s.size ≤ 140737488355328) (hbase : base ≤ w.heap.size)
    (h : ∀ v' w', OwnI w' base .u8 E v' (xs ++ nums s) → Below base w w' → wpList P ops Q rest (a.put o.dst v') w') : wpList P ops Q (o :: rest) a w := by
  obtain ⟨ht, hinfo, hz2, hpos⟩ := hE
  obtain ⟨i0, hi, hz0, hz1, hzb⟩ := info_parts hinfo
  have e : xs.map (Value.int .u8) ++ strCells s = (xs ++ nums s).map (Value.int .u8) := by
    simp [strCells, nums, List.map_map, Function.comp_def]
  refine wpList_append_own_string w hgd sl x T U ho base E i0 ht hU hi hz0 hz1 hzb v xs.length (xs.map (Value.int .u8)) hs hown s hx (by unfold maxLen; omega) hlen hbase ?_
  intro v' w' g1 g2 g3
  have g1' : OwnI w' base .u8 E v' (xs ++ nums s) := by
    show w'.ownsRow base E 1 v' _ _
    rw [← e, List.length_append, nums_length]
    exact g1
  exact h v' w' g1' ((Below.refl base w).grown g2 hbase (own_block hown))

theorem box_cell {w w1 : World} {cs : Array Value} {t : TypeId} (hb : Below (w.alloc (.cells cs t)).heap.size (w.alloc (.cells cs t)) w1) (i : Nat) {v : Value} (h : cs[i]? = some v) : w1.cell? ⟨w.heap.size, i, none⟩ = some v := by
  have h0 : (w.alloc (.cells cs t)).cell? ⟨w.heap.size, i, none⟩ = some v := by
    rw [World.cell?_alloc_new]; exact h
  rw [← h0]
  exact hb.cell (p := ⟨w.heap.size, i, none⟩) (World.block_lt_of_cell? _ ⟨w.heap.size, i, none⟩ h0)
end Go.Proofs.YtakfineljffoaaaGreatDoor
