/-
  THE REFERENCE's WORDS: comparisons, with a sign and without. Condition: the number of the comparison is 0 to 9.
-/
import Derived.Test.YtakfineljffoaaaGreatDoorGFoldSays16
namespace Go.Proofs.YtakfineljffoaaaGreatDoor
open Go.RowKit Go.Lib

def tv (b : Bool) : Int := if b = true then 1 else 0
theorem rtruth_b (b : Bool) (w : World) : Calls Tryz.prog 108 #[.bool b] w fun e w' => e = .returned (.int .i64 (tv b)) ∧ w = w' := by
  cases b
  · go_enter Tryz.func108, Tryz.ntmps108
    go_wp2_with fail
    go_ret
    exact ⟨rfl, rfl⟩
  · go_enter Tryz.func108, Tryz.ntmps108
    go_wp2_with fail
    go_ret
    exact ⟨rfl, rfl⟩
def flip {n : Nat} (b : BitVec n) : BitVec n := b ^^^ BitVec.twoPow n (n - 1)
theorem flip_set {n : Nat} (b : BitVec n) : (bl b).set (n - 1) (!b.getLsbD (n - 1)) = bl (flip b) := by
  apply bl_set
  intro i hi
  unfold flip
  rw [BitVec.getLsbD_xor, BitVec.getLsbD_twoPow]
  by_cases e : i = n - 1
  · subst e; simp [hi]
  · have e2 : ¬ n - 1 = i := fun h => e h.symm
    simp [e, e2]
theorem flip_low {n : Nat} (b : BitVec n) : (flip b).toNat % 2 ^ (n - 1) = b.toNat % 2 ^ (n - 1) := by
  apply Nat.eq_of_testBit_eq
  intro i
  rw [Nat.testBit_mod_two_pow, Nat.testBit_mod_two_pow, BitVec.testBit_toNat, BitVec.testBit_toNat]
  unfold flip
  rw [BitVec.getLsbD_xor, BitVec.getLsbD_twoPow]
  by_cases h : i < n - 1
  · have e2 : ¬ n - 1 = i := by omega
    simp [e2]
  · simp [h]
theorem top_bit {n : Nat} (b : BitVec n) (h0 : 0 < n) : b.toNat = 2 ^ (n - 1) * (if b.getLsbD (n - 1) = true then 1 else 0) + b.toNat % 2 ^ (n - 1) := by
  have h := div_stepW b.toNat (n - 1)
  rw [show n - 1 + 1 = n by omega, Nat.div_eq_of_lt b.isLt, BitVec.testBit_toNat] at h
  have h2 := Nat.div_add_mod b.toNat (2 ^ (n - 1))
  rw [h] at h2
  rw [Nat.mul_zero, Nat.zero_add] at h2
  exact h2.symm
theorem flip_top {n : Nat} (b : BitVec n) (h0 : 0 < n) : (flip b).getLsbD (n - 1) = !b.getLsbD (n - 1) := by
  unfold flip
  rw [BitVec.getLsbD_xor, BitVec.getLsbD_twoPow]
  have h : n - 1 < n := by omega
  simp [h]
theorem flip_ult {n : Nat} (b c : BitVec n) (h0 : 0 < n) : (flip b).ult (flip c) = b.slt c := by
  have b1 := top_bit b h0
  have c1 := top_bit c h0
  have b2 := top_bit (flip b) h0
  have c2 := top_bit (flip c) h0
  rw [flip_top b h0, flip_low b] at b2
  rw [flip_top c h0, flip_low c] at c2
  have hp : 0 < 2 ^ (n - 1) := Nat.two_pow_pos _
  have lb := Nat.mod_lt b.toNat hp
  have lc := Nat.mod_lt c.toNat hp
  have e : 2 ^ n = 2 * 2 ^ (n - 1) := by rw [← Nat.pow_succ']; congr 1; omega
  unfold BitVec.ult BitVec.slt
  rw [BitVec.toInt_eq_msb_cond, BitVec.toInt_eq_msb_cond, BitVec.msb_eq_getLsbD_last, BitVec.msb_eq_getLsbD_last, e]
  generalize b.toNat % 2 ^ (n - 1) = x at *
  generalize c.toNat % 2 ^ (n - 1) = y at *
  generalize 2 ^ (n - 1) = P at *
  rw [decide_eq_decide]
  cases hb : b.getLsbD (n - 1) <;> cases hc : c.getLsbD (n - 1) <;> simp only [hb, hc, Bool.not_true, Bool.not_false, if_true, if_false, Bool.false_eq_true, Nat.mul_one, Nat.mul_zero] at * <;> omega

def cmpF {n : Nat} (which : Nat) (x y : BitVec n) : Bool :=
  match which with
  | 0 => x == y
  | 1 => x != y
  | 2 => x.slt y
  | 3 => x.ult y
  | 4 => y.slt x
  | 5 => y.ult x
  | 6 => !y.slt x
  | 7 => !y.ult x
  | 8 => !x.slt y
  | _ => !x.ult y
theorem ult_eq {n : Nat} (x y : BitVec n) : (!x.ult y && !y.ult x) = (x == y) := by
  unfold BitVec.ult
  rw [Bool.eq_iff_iff]
  simp only [Bool.and_eq_true, Bool.not_eq_true', decide_eq_false_iff_not, beq_iff_eq]
  constructor
  · intro h
    exact BitVec.eq_of_toNat_eq (by omega)
  · rintro rfl
    omega
theorem ult_ne {n : Nat} (x y : BitVec n) : (x.ult y || y.ult x) = (x != y) := by
  have h := ult_eq x y
  cases h1 : x.ult y <;> cases h2 : y.ult x <;> simp [h1, h2, bne] at h ⊢ <;> simp_all

set_option maxRecDepth 100000 in
set_option maxHeartbeats 4000000 in
theorem rcmp_plain {n : Nat} (b c : BitVec n) (h0 : 0 < n) (hn : n ≤ 90) (which : Nat) (hw : which = 0 ∨ which = 1 ∨ which = 3 ∨ which = 5 ∨ which = 7 ∨ which = 9) (w : World) (v u : Value) (hv : Bools w v (bl b)) (hu : Bools w u (bl c)) :
    Calls Tryz.prog 113 #[.int .i64 which, v, u] w fun e w' => e = .returned (.int .i64 (tv (cmpF which b c))) ∧ Below w.heap.size w w' := by
  have HL := hid (less_any b c h0 (by omega) w v u hv hu)
  have HM := hid (fun w' h => less_any c b h0 (by omega) w' u v (L1.below hu h) (L1.below hv h))
  have h1 := ult_eq b c
  have h2 := ult_ne b c
  have HT := hid (fun x w' => rtruth_b x w')
  clear hv hu
  rcases hw with rfl | rfl | rfl | rfl | rfl | rfl
  all_goals
    simp only [cmpF]
    try rw [← h1]
    try rw [← h2]
    clear h1 h2
    generalize b.ult c = l at *
    generalize c.ult b = m at *
    go_enter Tryz.func113, Tryz.ntmps113
    go_wp2_with (first | (go_at_call 142; with_reducible refine HL.out.mono ?_; rintro r w1 ⟨rfl, hb1⟩; have B1 := hid hb1; clear hb1) | (go_at_call 142; with_reducible refine (HM.out _ B1.out).mono ?_; rintro r w2 ⟨rfl, hb2⟩; have B2 := hid hb2; clear hb2) | (go_at_call 108; refine (HT.out _ _).mono ?_; rintro r w3 ⟨rfl, rfl⟩))
    all_goals
      go_ret
      exact ⟨ret1 (by cases l <;> cases m <;> simp_all), ((B1.out.trans (B2.out.mono B1.out.size)).alloc (Nat.le_trans B1.out.size B2.out.size) _).alloc (by have h1 := B1.out.size; have h2 := B2.out.size; simp; omega) _⟩
end Go.Proofs.YtakfineljffoaaaGreatDoor
