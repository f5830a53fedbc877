/-
  INSTRUCTIONS OF TWO NUMBERS, plain: what both sides give, and when a division has no place. No program.
-/
import Derived.Test.YtakfineljffoaaaGreatDoorGFoldSays17
import Derived.Test.YtakfineljffoaaaGreatDoorGFoldSays19
import Derived.Test.YtakfineljffoaaaGreatDoorGFoldSays20
import Derived.Test.YtakfineljffoaaaGreatDoorGFoldSays21
namespace Go.Proofs.YtakfineljffoaaaGreatDoor
open Go.RowKit

theorem size_nat {n : Nat} (b : BitVec n) (h0 : 0 < n) : (sizeV b).toNat = b.toInt.natAbs := by
  have hl := b.isLt
  have h2 : 2 ^ n = 2 * 2 ^ (n - 1) := by rw [← Nat.pow_succ']; congr 1; omega
  unfold sizeV
  rw [← BitVec.msb_eq_getLsbD_last]
  by_cases hm : b.msb = true
  · rw [if_pos hm, BitVec.toNat_neg, BitVec.toInt_eq_msb_cond, if_pos hm]
    rw [BitVec.msb_eq_decide, decide_eq_true_iff] at hm
    rw [h2] at hl ⊢
    generalize 2 ^ (n - 1) = P at *
    have : (2 * P - b.toNat) % (2 * P) = 2 * P - b.toNat := Nat.mod_eq_of_lt (by omega)
    rw [this]
    omega
  · rw [if_neg hm, BitVec.toInt_eq_msb_cond, if_neg hm]
    omega
theorem toInt_bd {n : Nat} (b : BitVec n) (h0 : 0 < n) : -(2 ^ (n - 1) : Nat) ≤ b.toInt ∧ b.toInt < (2 ^ (n - 1) : Nat) := by
  have hl := b.isLt
  have h2 : 2 ^ n = 2 * 2 ^ (n - 1) := by rw [← Nat.pow_succ']; congr 1; omega
  rw [BitVec.toInt_eq_toNat_cond, h2]
  rw [h2] at hl
  generalize 2 ^ (n - 1) = P at *
  split <;> omega
theorem sign_bit {n : Nat} (b : BitVec n) : b.getLsbD (n - 1) = decide (b.toInt < 0) := by
  rw [← BitVec.msb_eq_getLsbD_last, BitVec.msb_eq_toInt]
theorem ovf_iff {n : Nat} (a b : BitVec n) (h0 : 0 < n) (hb : b ≠ 0#n) : ovf a b = true ↔ (b.toInt = -1 ∧ a.toInt = -((2 ^ (n - 1) : Nat) : Int)) := by
  have ha1 := toInt_bd a h0
  have hb1 := toInt_bd b h0
  have hb0 : b.toInt ≠ 0 := fun e => hb (BitVec.eq_of_toInt_eq (by rw [e]; simp))
  unfold ovf
  rw [show (sizeV a / sizeV b).getLsbD (n - 1) = (sizeV a / sizeV b).msb from (BitVec.msb_eq_getLsbD_last _).symm, BitVec.msb_eq_decide, BitVec.toNat_udiv, size_nat a h0, size_nat b h0, sign_bit, sign_bit]
  have hP : 0 < 2 ^ (n - 1) := Nat.two_pow_pos _
  generalize 2 ^ (n - 1) = P at *
  generalize a.toInt = A at *
  generalize b.toInt = B at *
  rw [Bool.and_eq_true, beq_iff_eq, decide_eq_true_iff, decide_eq_decide]
  constructor
  · rintro ⟨h1, h2⟩
    by_cases hB : 2 ≤ B.natAbs
    · have h3 : A.natAbs / B.natAbs ≤ A.natAbs / 2 := Nat.div_le_div_left hB (by decide)
      omega
    · have h4 : B.natAbs = 1 := by omega
      rw [h4, Nat.div_one] at h2
      omega
  · rintro ⟨rfl, rfl⟩
    refine ⟨by omega, ?_⟩
    have : (-1 : Int).natAbs = 1 := rfl
    rw [this, Nat.div_one]
    omega

def rkV {n : Nat} (which : Nat) (x y : BitVec n) : BitVec n :=
  match which with
  | 0 => x + y
  | 1 => x - y
  | 2 => x * y
  | 3 => x.sdiv y
  | 4 => x / y
  | 5 => x.srem y
  | 6 => x % y
  | k => bwV k x y (y.toNat % n)
def rkE {n : Nat} (which : Nat) (x y : BitVec n) : Int :=
  if 3 ≤ which ∧ which ≤ 6 ∧ y = 0#n then 21 else if which = 3 ∧ ovf x y = true then 22 else 0
def rkN {n : Nat} (which : Nat) (x y : BitVec n) : Int := if rkE which x y = 0 then (rkV which x y).toInt else 0
def twoN (op : Nat) (a b : Int) : Int :=
  if 70 ≤ op ∧ op ≤ 79 then tv (cmpF (op - 70) (BitVec.ofInt 32 a) (BitVec.ofInt 32 b))
  else if 81 ≤ op ∧ op ≤ 90 then tv (cmpF (op - 81) (BitVec.ofInt 64 a) (BitVec.ofInt 64 b))
  else if 106 ≤ op ∧ op ≤ 120 then rkN (op - 106) (BitVec.ofInt 32 a) (BitVec.ofInt 32 b)
  else if 124 ≤ op ∧ op ≤ 138 then rkN (op - 124) (BitVec.ofInt 64 a) (BitVec.ofInt 64 b)
  else 0
def twoE (op : Nat) (a b : Int) : Int :=
  if 70 ≤ op ∧ op ≤ 79 then 0
  else if 81 ≤ op ∧ op ≤ 90 then 0
  else if 106 ≤ op ∧ op ≤ 120 then rkE (op - 106) (BitVec.ofInt 32 a) (BitVec.ofInt 32 b)
  else if 124 ≤ op ∧ op ≤ 138 then rkE (op - 124) (BitVec.ofInt 64 a) (BitVec.ofInt 64 b)
  else 6

theorem toInt_32 (a : Int) : (BitVec.ofInt 32 a).toInt = wrap32 a := by
  rw [BitVec.toInt_ofInt, Int.bmod_def]
  unfold wrap32
  simp only [Nat.reducePow]
  split <;> omega
theorem toNat_32 (a : Int) : ((BitVec.ofInt 32 a).toNat : Int) = a % 4294967296 := by
  rw [BitVec.toNat_ofInt]
  simp only [Nat.reducePow]
  omega
theorem toInt_64 (a : Int) (h : -9223372036854775808 ≤ a ∧ a < 9223372036854775808) : (BitVec.ofInt 64 a).toInt = a := by
  rw [BitVec.toInt_ofInt, Int.bmod_def]
  simp only [Nat.reducePow]
  split <;> omega
theorem toNat_64 (a : Int) : ((BitVec.ofInt 64 a).toNat : Int) = a % 18446744073709551616 := by
  rw [BitVec.toNat_ofInt]
  simp only [Nat.reducePow]
  omega
theorem back_32 (v : BitVec 32) : wrap32 (v.toNat : Int) = v.toInt := by
  rw [← toInt_32, BitVec.ofInt_natCast, BitVec.ofNat_toNat]; simp
theorem back_64 (v : BitVec 64) : wrap64 (v.toNat : Int) = v.toInt := by
  have := v.isLt
  rw [BitVec.toInt_eq_toNat_cond]
  unfold wrap64
  simp only [Nat.reducePow] at *
  split <;> omega
end Go.Proofs.YtakfineljffoaaaGreatDoor
namespace Go.Proofs.YtakfineljffoaaaGreatDoor
open Go.RowKit Go.Lib

theorem rk_any {n : Nat} (a b : BitVec n) (h0 : 0 < n) (hnn : n ≤ 62 ∨ n = 64) (which : Nat) (hw : which ≤ 14) (w : World) (v u : Value) (hv : Bools w v (bl a)) (hu : Bools w u (bl b)) :
    Calls Tryz.prog 114 #[.int .i64 which, v, u] w fun e w' => e = .returned (.tuple #[.int .i64 (rkN which a b), .int .i64 (rkE which a b)]) ∧ Below w.heap.size w w' := by
  by_cases hz : 3 ≤ which ∧ which ≤ 6 ∧ b = 0#n
  · have e : rkE which a b = 21 := if_pos hz
    have f : rkN which a b = 0 := by unfold rkN; rw [e]; rfl
    rw [e, f]
    exact rk_none b h0 hnn hz.2.2 which (by omega) a w v u hv hu
  · by_cases h3 : which = 3
    · subst h3
      have hb : b ≠ 0#n := fun e => hz ⟨by decide, by decide, e⟩
      have h := rk_3 a b h0 hnn hb w v u hv hu
      have e : rkE 3 a b = if ovf a b = true then 22 else 0 := by unfold rkE; rw [if_neg hz]; simp
      have f : rkN 3 a b = if ovf a b = true then 0 else (a.sdiv b).toInt := by
        unfold rkN
        rw [e]
        cases ovf a b <;> rfl
      rw [e, f]
      exact h
    · have e : rkE which a b = 0 := by unfold rkE; rw [if_neg hz, if_neg (fun h => h3 h.1)]
      have f : rkN which a b = (rkV which a b).toInt := if_pos e
      rw [e, f]
      rcases (by omega : which = 0 ∨ which = 1 ∨ which = 2 ∨ which = 4 ∨ which = 5 ∨ which = 6 ∨ which = 7 ∨ which = 8 ∨ which = 9 ∨ which = 10 ∨ which = 11 ∨ which = 12 ∨ which = 13 ∨ which = 14) with rfl | rfl | rfl | rfl | rfl | rfl | rfl | rfl | rfl | rfl | rfl | rfl | rfl | rfl
      · exact rk_0 a b h0 hnn w v u hv hu
      · exact rk_1 a b h0 hnn w v u hv hu
      · exact rk_2 a b h0 hnn w v u hv hu
      · exact rk_4 a b h0 hnn (fun e => hz ⟨by decide, by decide, e⟩) w v u hv hu
      · exact rk_5 a b h0 hnn (fun e => hz ⟨by decide, by decide, e⟩) w v u hv hu
      · exact rk_6 a b h0 hnn (fun e => hz ⟨by decide, by decide, e⟩) w v u hv hu
      · exact rk_7 a b h0 hnn w v u hv hu
      · exact rk_8 a b h0 hnn w v u hv hu
      · exact rk_9 a b h0 hnn w v u hv hu
      · exact rk_10 a b h0 hnn w v u hv hu
      · exact rk_11 a b h0 hnn w v u hv hu
      · exact rk_12 a b h0 hnn w v u hv hu
      · exact rk_13 a b h0 hnn w v u hv hu
      · exact rk_14 a b h0 hnn w v u hv hu
theorem rcmp_any {n : Nat} (b c : BitVec n) (h0 : 0 < n) (hn : n ≤ 90) (which : Nat) (hw : which ≤ 9) (w : World) (v u : Value) (hv : Bools w v (bl b)) (hu : Bools w u (bl c)) :
    Calls Tryz.prog 113 #[.int .i64 which, v, u] w fun e w' => e = .returned (.int .i64 (tv (cmpF which b c))) ∧ Below w.heap.size w w' := by
  by_cases h : which = 2 ∨ which = 4 ∨ which = 6 ∨ which = 8
  · exact rcmp_sign b c h0 hn which h w v u hv hu
  · exact rcmp_plain b c h0 hn which (by omega) w v u hv hu

set_option maxRecDepth 100000 in
set_option maxHeartbeats 8000000 in
theorem rtwo_any (op : Nat) (hop : op < 256) (a b : Int) (w : World) :
    Calls Tryz.prog 80 #[.int .u8 op, .int .i64 a, .int .i64 b] w fun e w' => e = .returned (.tuple #[.int .i64 (twoN op a b), .int .i64 (twoE op a b)]) ∧ Below w.heap.size w w' := by
  have HW : ∀ n : Nat, n ≤ 64 → ∀ (x m : Int), m = n → ∀ w' : World, Calls Tryz.prog 107 #[.int .i64 x, .int .i64 m] w' fun e w2 => ∃ v, e = .returned v ∧ OwnBW w2 w'.heap.size v (bl (BitVec.ofInt n x)) ∧ Below w'.heap.size w' w2 := by
    rintro n hn x m rfl w'
    exact wordOf_any x n hn w'
  rcases (by omega : (70 ≤ op ∧ op ≤ 79) ∨ (81 ≤ op ∧ op ≤ 90) ∨ (106 ≤ op ∧ op ≤ 120) ∨ (124 ≤ op ∧ op ≤ 138) ∨ (0 ≤ op ∧ op ≤ 69) ∨ (80 ≤ op ∧ op ≤ 80) ∨ (91 ≤ op ∧ op ≤ 105) ∨ (121 ≤ op ∧ op ≤ 123) ∨ (139 ≤ op ∧ op ≤ 255)) with hr | hr | hr | hr | hr | hr | hr | hr | hr
  · have mN : twoN op a b = tv (cmpF (op - 70) (BitVec.ofInt 32 a) (BitVec.ofInt 32 b)) := by
      unfold twoN
      rw [if_pos (show 70 ≤ op ∧ op ≤ 79 by omega)]
    have mE : twoE op a b = 0 := by
      unfold twoE
      rw [if_pos (show 70 ≤ op ∧ op ≤ 79 by omega)]
    rw [mN, mE]
    clear mN mE
    have H1 := hid (HW 32 (by decide))
    clear HW
    have HC : Hid (∀ z : Int, z = ((op - 70 : Nat) : Int) → ∀ w' v u, Bools w' v (bl (BitVec.ofInt 32 a)) → Bools w' u (bl (BitVec.ofInt 32 b)) → Calls Tryz.prog 113 #[.int .i64 z, v, u] w' fun e w2 => e = .returned (.int .i64 (tv (cmpF (op - 70) (BitVec.ofInt 32 a) (BitVec.ofInt 32 b)))) ∧ Below w'.heap.size w' w2) := hid (by
      rintro z rfl w' v u hv hu
      exact rcmp_any _ _ (by decide) (by decide) (op - 70) (by omega) w' v u hv hu)
    have g0 : (70 : Int) ≤ op := by omega
    have k0 : (op : Int) ≤ 79 := by omega
    have g1 : ¬ (81 : Int) ≤ op := by omega
    have g2 : ¬ (106 : Int) ≤ op := by omega
    have g3 : ¬ (124 : Int) ≤ op := by omega
    go_enter Tryz.func80, Tryz.ntmps80
    go_wp2_with fail
    refine (H1.out _ _ (by rfl) _).mono ?_
    rintro r w1 ⟨v1, rfl, ho1, hb1⟩
    have O1' := hid ho1
    have B1 := hid hb1
    clear ho1 hb1
    go_wp2_with fail
    refine (H1.out _ _ (by rfl) _).mono ?_
    rintro r w2 ⟨v2, rfl, ho2, hb2⟩
    have O2' := hid ho2
    have L1' := hid (L1.below (O1.l1 O1'.out) hb2)
    have B2 := hid (B1.out.trans (hb2.mono B1.out.size))
    clear ho2 hb2
    go_wp2_with (go_at_call 113; refine (HC.out _ (by omega) _ _ _ L1'.out (O1.l1 O2'.out)).mono ?_; rintro r w3 ⟨rfl, hb3⟩; have B3 := hid (B2.out.trans (hb3.mono B2.out.size)); clear hb3)
    go_ret2
    exact ⟨rfl, B3.out⟩
  · have mN : twoN op a b = tv (cmpF (op - 81) (BitVec.ofInt 64 a) (BitVec.ofInt 64 b)) := by
      unfold twoN
      rw [if_neg (show ¬ (70 ≤ op ∧ op ≤ 79) by omega), if_pos (show 81 ≤ op ∧ op ≤ 90 by omega)]
    have mE : twoE op a b = 0 := by
      unfold twoE
      rw [if_neg (show ¬ (70 ≤ op ∧ op ≤ 79) by omega), if_pos (show 81 ≤ op ∧ op ≤ 90 by omega)]
    rw [mN, mE]
    clear mN mE
    have H1 := hid (HW 64 (by decide))
    clear HW
    have HC : Hid (∀ z : Int, z = ((op - 81 : Nat) : Int) → ∀ w' v u, Bools w' v (bl (BitVec.ofInt 64 a)) → Bools w' u (bl (BitVec.ofInt 64 b)) → Calls Tryz.prog 113 #[.int .i64 z, v, u] w' fun e w2 => e = .returned (.int .i64 (tv (cmpF (op - 81) (BitVec.ofInt 64 a) (BitVec.ofInt 64 b)))) ∧ Below w'.heap.size w' w2) := hid (by
      rintro z rfl w' v u hv hu
      exact rcmp_any _ _ (by decide) (by decide) (op - 81) (by omega) w' v u hv hu)
    have g0 : (70 : Int) ≤ op := by omega
    have k0 : ¬ (op : Int) ≤ 79 := by omega
    have g1 : (81 : Int) ≤ op := by omega
    have k1 : (op : Int) ≤ 90 := by omega
    have g2 : ¬ (106 : Int) ≤ op := by omega
    have g3 : ¬ (124 : Int) ≤ op := by omega
    go_enter Tryz.func80, Tryz.ntmps80
    go_wp2_with fail
    refine (H1.out _ _ (by rfl) _).mono ?_
    rintro r w1 ⟨v1, rfl, ho1, hb1⟩
    have O1' := hid ho1
    have B1 := hid hb1
    clear ho1 hb1
    go_wp2_with fail
    refine (H1.out _ _ (by rfl) _).mono ?_
    rintro r w2 ⟨v2, rfl, ho2, hb2⟩
    have O2' := hid ho2
    have L1' := hid (L1.below (O1.l1 O1'.out) hb2)
    have B2 := hid (B1.out.trans (hb2.mono B1.out.size))
    clear ho2 hb2
    go_wp2_with (go_at_call 113; refine (HC.out _ (by omega) _ _ _ L1'.out (O1.l1 O2'.out)).mono ?_; rintro r w3 ⟨rfl, hb3⟩; have B3 := hid (B2.out.trans (hb3.mono B2.out.size)); clear hb3)
    go_ret2
    exact ⟨rfl, B3.out⟩
  · have mN : twoN op a b = rkN (op - 106) (BitVec.ofInt 32 a) (BitVec.ofInt 32 b) := by
      unfold twoN
      rw [if_neg (show ¬ (70 ≤ op ∧ op ≤ 79) by omega), if_neg (show ¬ (81 ≤ op ∧ op ≤ 90) by omega), if_pos (show 106 ≤ op ∧ op ≤ 120 by omega)]
    have mE : twoE op a b = rkE (op - 106) (BitVec.ofInt 32 a) (BitVec.ofInt 32 b) := by
      unfold twoE
      rw [if_neg (show ¬ (70 ≤ op ∧ op ≤ 79) by omega), if_neg (show ¬ (81 ≤ op ∧ op ≤ 90) by omega), if_pos (show 106 ≤ op ∧ op ≤ 120 by omega)]
    rw [mN, mE]
    clear mN mE
    have H1 := hid (HW 32 (by decide))
    clear HW
    have HC : Hid (∀ z : Int, z = ((op - 106 : Nat) : Int) → ∀ w' v u, Bools w' v (bl (BitVec.ofInt 32 a)) → Bools w' u (bl (BitVec.ofInt 32 b)) → Calls Tryz.prog 114 #[.int .i64 z, v, u] w' fun e w2 => e = .returned (.tuple #[.int .i64 (rkN (op - 106) (BitVec.ofInt 32 a) (BitVec.ofInt 32 b)), .int .i64 (rkE (op - 106) (BitVec.ofInt 32 a) (BitVec.ofInt 32 b))]) ∧ Below w'.heap.size w' w2) := hid (by
      rintro z rfl w' v u hv hu
      exact rk_any _ _ (by decide) (by decide) (op - 106) (by omega) w' v u hv hu)
    have g0 : (70 : Int) ≤ op := by omega
    have k0 : ¬ (op : Int) ≤ 79 := by omega
    have g1 : (81 : Int) ≤ op := by omega
    have k1 : ¬ (op : Int) ≤ 90 := by omega
    have g2 : (106 : Int) ≤ op := by omega
    have k2 : (op : Int) ≤ 120 := by omega
    have g3 : ¬ (124 : Int) ≤ op := by omega
    go_enter Tryz.func80, Tryz.ntmps80
    go_wp2_with fail
    refine (H1.out _ _ (by rfl) _).mono ?_
    rintro r w1 ⟨v1, rfl, ho1, hb1⟩
    have O1' := hid ho1
    have B1 := hid hb1
    clear ho1 hb1
    go_wp2_with fail
    refine (H1.out _ _ (by rfl) _).mono ?_
    rintro r w2 ⟨v2, rfl, ho2, hb2⟩
    have O2' := hid ho2
    have L1' := hid (L1.below (O1.l1 O1'.out) hb2)
    have B2 := hid (B1.out.trans (hb2.mono B1.out.size))
    clear ho2 hb2
    go_wp2_with (go_at_call 114; refine (HC.out _ (by omega) _ _ _ L1'.out (O1.l1 O2'.out)).mono ?_; rintro r w3 ⟨rfl, hb3⟩; have B3 := hid (B2.out.trans (hb3.mono B2.out.size)); clear hb3)
    go_ret2
    exact ⟨rfl, B3.out⟩
  · have mN : twoN op a b = rkN (op - 124) (BitVec.ofInt 64 a) (BitVec.ofInt 64 b) := by
      unfold twoN
      rw [if_neg (show ¬ (70 ≤ op ∧ op ≤ 79) by omega), if_neg (show ¬ (81 ≤ op ∧ op ≤ 90) by omega), if_neg (show ¬ (106 ≤ op ∧ op ≤ 120) by omega), if_pos (show 124 ≤ op ∧ op ≤ 138 by omega)]
    have mE : twoE op a b = rkE (op - 124) (BitVec.ofInt 64 a) (BitVec.ofInt 64 b) := by
      unfold twoE
      rw [if_neg (show ¬ (70 ≤ op ∧ op ≤ 79) by omega), if_neg (show ¬ (81 ≤ op ∧ op ≤ 90) by omega), if_neg (show ¬ (106 ≤ op ∧ op ≤ 120) by omega), if_pos (show 124 ≤ op ∧ op ≤ 138 by omega)]
    rw [mN, mE]
    clear mN mE
    have H1 := hid (HW 64 (by decide))
    clear HW
    have HC : Hid (∀ z : Int, z = ((op - 124 : Nat) : Int) → ∀ w' v u, Bools w' v (bl (BitVec.ofInt 64 a)) → Bools w' u (bl (BitVec.ofInt 64 b)) → Calls Tryz.prog 114 #[.int .i64 z, v, u] w' fun e w2 => e = .returned (.tuple #[.int .i64 (rkN (op - 124) (BitVec.ofInt 64 a) (BitVec.ofInt 64 b)), .int .i64 (rkE (op - 124) (BitVec.ofInt 64 a) (BitVec.ofInt 64 b))]) ∧ Below w'.heap.size w' w2) := hid (by
      rintro z rfl w' v u hv hu
      exact rk_any _ _ (by decide) (by decide) (op - 124) (by omega) w' v u hv hu)
    have g0 : (70 : Int) ≤ op := by omega
    have k0 : ¬ (op : Int) ≤ 79 := by omega
    have g1 : (81 : Int) ≤ op := by omega
    have k1 : ¬ (op : Int) ≤ 90 := by omega
    have g2 : (106 : Int) ≤ op := by omega
    have k2 : ¬ (op : Int) ≤ 120 := by omega
    have g3 : (124 : Int) ≤ op := by omega
    have k3 : (op : Int) ≤ 138 := by omega
    go_enter Tryz.func80, Tryz.ntmps80
    go_wp2_with fail
    refine (H1.out _ _ (by rfl) _).mono ?_
    rintro r w1 ⟨v1, rfl, ho1, hb1⟩
    have O1' := hid ho1
    have B1 := hid hb1
    clear ho1 hb1
    go_wp2_with fail
    refine (H1.out _ _ (by rfl) _).mono ?_
    rintro r w2 ⟨v2, rfl, ho2, hb2⟩
    have O2' := hid ho2
    have L1' := hid (L1.below (O1.l1 O1'.out) hb2)
    have B2 := hid (B1.out.trans (hb2.mono B1.out.size))
    clear ho2 hb2
    go_wp2_with (go_at_call 114; refine (HC.out _ (by omega) _ _ _ L1'.out (O1.l1 O2'.out)).mono ?_; rintro r w3 ⟨rfl, hb3⟩; have B3 := hid (B2.out.trans (hb3.mono B2.out.size)); clear hb3)
    go_ret2
    exact ⟨rfl, B3.out⟩
  · have mN : twoN op a b = 0 := by
      unfold twoN
      rw [if_neg (show ¬ (70 ≤ op ∧ op ≤ 79) by omega), if_neg (show ¬ (81 ≤ op ∧ op ≤ 90) by omega), if_neg (show ¬ (106 ≤ op ∧ op ≤ 120) by omega), if_neg (show ¬ (124 ≤ op ∧ op ≤ 138) by omega)]
    have mE : twoE op a b = 6 := by
      unfold twoE
      rw [if_neg (show ¬ (70 ≤ op ∧ op ≤ 79) by omega), if_neg (show ¬ (81 ≤ op ∧ op ≤ 90) by omega), if_neg (show ¬ (106 ≤ op ∧ op ≤ 120) by omega), if_neg (show ¬ (124 ≤ op ∧ op ≤ 138) by omega)]
    rw [mN, mE]
    clear mN mE
    clear HW
    have g0 : ¬ (70 : Int) ≤ op := by omega
    have g1 : ¬ (81 : Int) ≤ op := by omega
    have g2 : ¬ (106 : Int) ≤ op := by omega
    have g3 : ¬ (124 : Int) ≤ op := by omega
    go_enter Tryz.func80, Tryz.ntmps80
    go_wp2_with fail
    go_ret2
    exact ⟨rfl, Below.refl _ _⟩
  · have mN : twoN op a b = 0 := by
      unfold twoN
      rw [if_neg (show ¬ (70 ≤ op ∧ op ≤ 79) by omega), if_neg (show ¬ (81 ≤ op ∧ op ≤ 90) by omega), if_neg (show ¬ (106 ≤ op ∧ op ≤ 120) by omega), if_neg (show ¬ (124 ≤ op ∧ op ≤ 138) by omega)]
    have mE : twoE op a b = 6 := by
      unfold twoE
      rw [if_neg (show ¬ (70 ≤ op ∧ op ≤ 79) by omega), if_neg (show ¬ (81 ≤ op ∧ op ≤ 90) by omega), if_neg (show ¬ (106 ≤ op ∧ op ≤ 120) by omega), if_neg (show ¬ (124 ≤ op ∧ op ≤ 138) by omega)]
    rw [mN, mE]
    clear mN mE
    clear HW
    have g0 : (70 : Int) ≤ op := by omega
    have k0 : ¬ (op : Int) ≤ 79 := by omega
    have g1 : ¬ (81 : Int) ≤ op := by omega
    have g2 : ¬ (106 : Int) ≤ op := by omega
    have g3 : ¬ (124 : Int) ≤ op := by omega
    go_enter Tryz.func80, Tryz.ntmps80
    go_wp2_with fail
    go_ret2
    exact ⟨rfl, Below.refl _ _⟩
  · have mN : twoN op a b = 0 := by
      unfold twoN
      rw [if_neg (show ¬ (70 ≤ op ∧ op ≤ 79) by omega), if_neg (show ¬ (81 ≤ op ∧ op ≤ 90) by omega), if_neg (show ¬ (106 ≤ op ∧ op ≤ 120) by omega), if_neg (show ¬ (124 ≤ op ∧ op ≤ 138) by omega)]
    have mE : twoE op a b = 6 := by
      unfold twoE
      rw [if_neg (show ¬ (70 ≤ op ∧ op ≤ 79) by omega), if_neg (show ¬ (81 ≤ op ∧ op ≤ 90) by omega), if_neg (show ¬ (106 ≤ op ∧ op ≤ 120) by omega), if_neg (show ¬ (124 ≤ op ∧ op ≤ 138) by omega)]
    rw [mN, mE]
    clear mN mE
    clear HW
    have g0 : (70 : Int) ≤ op := by omega
    have k0 : ¬ (op : Int) ≤ 79 := by omega
    have g1 : (81 : Int) ≤ op := by omega
    have k1 : ¬ (op : Int) ≤ 90 := by omega
    have g2 : ¬ (106 : Int) ≤ op := by omega
    have g3 : ¬ (124 : Int) ≤ op := by omega
    go_enter Tryz.func80, Tryz.ntmps80
    go_wp2_with fail
    go_ret2
    exact ⟨rfl, Below.refl _ _⟩
  · have mN : twoN op a b = 0 := by
      unfold twoN
      rw [if_neg (show ¬ (70 ≤ op ∧ op ≤ 79) by omega), if_neg (show ¬ (81 ≤ op ∧ op ≤ 90) by omega), if_neg (show ¬ (106 ≤ op ∧ op ≤ 120) by omega), if_neg (show ¬ (124 ≤ op ∧ op ≤ 138) by omega)]
    have mE : twoE op a b = 6 := by
      unfold twoE
      rw [if_neg (show ¬ (70 ≤ op ∧ op ≤ 79) by omega), if_neg (show ¬ (81 ≤ op ∧ op ≤ 90) by omega), if_neg (show ¬ (106 ≤ op ∧ op ≤ 120) by omega), if_neg (show ¬ (124 ≤ op ∧ op ≤ 138) by omega)]
    rw [mN, mE]
    clear mN mE
    clear HW
    have g0 : (70 : Int) ≤ op := by omega
    have k0 : ¬ (op : Int) ≤ 79 := by omega
    have g1 : (81 : Int) ≤ op := by omega
    have k1 : ¬ (op : Int) ≤ 90 := by omega
    have g2 : (106 : Int) ≤ op := by omega
    have k2 : ¬ (op : Int) ≤ 120 := by omega
    have g3 : ¬ (124 : Int) ≤ op := by omega
    go_enter Tryz.func80, Tryz.ntmps80
    go_wp2_with fail
    go_ret2
    exact ⟨rfl, Below.refl _ _⟩
  · have mN : twoN op a b = 0 := by
      unfold twoN
      rw [if_neg (show ¬ (70 ≤ op ∧ op ≤ 79) by omega), if_neg (show ¬ (81 ≤ op ∧ op ≤ 90) by omega), if_neg (show ¬ (106 ≤ op ∧ op ≤ 120) by omega), if_neg (show ¬ (124 ≤ op ∧ op ≤ 138) by omega)]
    have mE : twoE op a b = 6 := by
      unfold twoE
      rw [if_neg (show ¬ (70 ≤ op ∧ op ≤ 79) by omega), if_neg (show ¬ (81 ≤ op ∧ op ≤ 90) by omega), if_neg (show ¬ (106 ≤ op ∧ op ≤ 120) by omega), if_neg (show ¬ (124 ≤ op ∧ op ≤ 138) by omega)]
    rw [mN, mE]
    clear mN mE
    clear HW
    have g0 : (70 : Int) ≤ op := by omega
    have k0 : ¬ (op : Int) ≤ 79 := by omega
    have g1 : (81 : Int) ≤ op := by omega
    have k1 : ¬ (op : Int) ≤ 90 := by omega
    have g2 : (106 : Int) ≤ op := by omega
    have k2 : ¬ (op : Int) ≤ 120 := by omega
    have g3 : (124 : Int) ≤ op := by omega
    have k3 : ¬ (op : Int) ≤ 138 := by omega
    go_enter Tryz.func80, Tryz.ntmps80
    go_wp2_with fail
    go_ret2
    exact ⟨rfl, Below.refl _ _⟩
end Go.Proofs.YtakfineljffoaaaGreatDoor
