/-
  THE PROGRAM's Two. Condition: none beside the kinds of the arguments.
-/
import Derived.Test.YtakfineljffoaaaGreatDoorGFoldSays22
namespace Go.Proofs.YtakfineljffoaaaGreatDoor
open Go.RowKit Go.Lib

theorem prk32_any (which : Nat) (hw : which ≤ 14) (hd : ¬ (3 ≤ which ∧ which ≤ 6)) (x y : BitVec 32) (w : World) :
    Calls Tryz.prog 137 #[.int .u8 which, .int .u32 x.toNat, .int .u32 y.toNat, .int .i64 32] w fun e w' => e = .returned (.int .u32 ((rkV which x y).toNat : Int)) ∧ Below w.heap.size w w' := by
  rcases (by omega : which = 0 ∨ which = 1 ∨ which = 2 ∨ which = 7 ∨ which = 8 ∨ which = 9 ∨ which = 10 ∨ which = 11 ∨ which = 12 ∨ which = 13 ∨ which = 14) with rfl | rfl | rfl | rfl | rfl | rfl | rfl | rfl | rfl | rfl | rfl
  · exact prk_32_0 x y w
  · exact prk_32_1 x y w
  · exact prk_32_2 x y w
  · exact prk_32_7 x y w
  · exact prk_32_8 x y w
  · exact prk_32_9 x y w
  · exact prk_32_10 x y w
  · exact prk_32_11 x y w
  · exact prk_32_12 x y w
  · exact prk_32_13 x y w
  · exact prk_32_14 x y w
theorem prk64_any (which : Nat) (hw : which ≤ 14) (hd : ¬ (3 ≤ which ∧ which ≤ 6)) (x y : BitVec 64) (w : World) :
    Calls Tryz.prog 138 #[.int .u8 which, .int .u64 x.toNat, .int .u64 y.toNat, .int .i64 64] w fun e w' => e = .returned (.int .u64 ((rkV which x y).toNat : Int)) ∧ Below w.heap.size w w' := by
  rcases (by omega : which = 0 ∨ which = 1 ∨ which = 2 ∨ which = 7 ∨ which = 8 ∨ which = 9 ∨ which = 10 ∨ which = 11 ∨ which = 12 ∨ which = 13 ∨ which = 14) with rfl | rfl | rfl | rfl | rfl | rfl | rfl | rfl | rfl | rfl | rfl
  · exact prk_64_0 x y w
  · exact prk_64_1 x y w
  · exact prk_64_2 x y w
  · exact prk_64_7 x y w
  · exact prk_64_8 x y w
  · exact prk_64_9 x y w
  · exact prk_64_10 x y w
  · exact prk_64_11 x y w
  · exact prk_64_12 x y w
  · exact prk_64_13 x y w
  · exact prk_64_14 x y w

theorem sdiv_in {n : Nat} (x y : BitVec n) (h0 : 0 < n) (hy : y ≠ 0#n) (ho : ovf x y = false) : x.toInt.tdiv y.toInt = (x.sdiv y).toInt := by
  have h : ¬ (y.toInt = -1 ∧ x.toInt = -((2 ^ (n - 1) : Nat) : Int)) := fun h => by
    have := (ovf_iff x y h0 hy).2 h
    rw [ho] at this
    cases this
  have hx := toInt_bd x h0
  have e1 := tdiv_abs x.toInt y.toInt
  rw [BitVec.toInt_sdiv]
  have h2 : 2 ^ n = 2 * 2 ^ (n - 1) := by rw [← Nat.pow_succ']; congr 1; omega
  rw [h2]
  have hd : -((2 ^ (n - 1) : Nat) : Int) ≤ x.toInt.tdiv y.toInt ∧ x.toInt.tdiv y.toInt < ((2 ^ (n - 1) : Nat) : Int) := by
    generalize 2 ^ (n - 1) = P at *
    by_cases e2 : x.toInt = -(P : Int)
    · have hy0 : y.toInt ≠ 0 := fun e => hy (BitVec.eq_of_toInt_eq (by rw [e]; simp))
      by_cases e3 : y.toInt = 1
      · rw [e3, Int.tdiv_one]; omega
      · have e4 := tdiv_half x.toInt y.toInt (by omega)
        omega
    · omega
  generalize 2 ^ (n - 1) = P at *
  exact (Int.bmod_eq_of_le (by omega) (by omega)).symm
theorem pdiv32_any (which : Nat) (hw : which ≤ 3) (x y : BitVec 32) (w : World) :
    Calls Tryz.prog 135 #[.int .u8 which, .int .i32 x.toInt, .int .i32 y.toInt, .int .u32 x.toNat, .int .u32 y.toNat] w fun e w' => ∃ r : Int, e = .returned (.tuple #[.int .i64 r, .int .i64 (rkE (which + 3) x y)]) ∧ wrap32 r = rkN (which + 3) x y ∧ w = w' := by
  have hx := toInt_bd x (by decide)
  have hy := toInt_bd y (by decide)
  have hx2 := x.isLt
  have hy2 := y.isLt
  simp only [Nat.reducePow, Nat.reduceSub] at hx hy hx2 hy2
  by_cases hz : y = 0#32
  · have e : rkE (which + 3) x y = 21 := if_pos ⟨by omega, by omega, hz⟩
    refine (pdiv_zero_int32 x.toInt y.toInt x.toNat y.toNat (by omega) which (by rw [hz]; rfl) w).mono ?_
    rintro r w' ⟨rfl, rfl⟩
    exact ⟨0, by rw [e], by unfold rkN; rw [e, if_neg (by decide)]; unfold wrap32; omega, rfl⟩
  · have hy0 : y.toInt ≠ 0 := fun e => hz (BitVec.eq_of_toInt_eq (by rw [e]; simp))
    have hn0 : ((y.toNat : Nat) : Int) ≠ 0 := fun e => hz (BitVec.eq_of_toNat_eq (by simpa using e))
    have hE : rkE (which + 3) x y = if which = 0 ∧ ovf x y = true then 22 else 0 := by
      unfold rkE
      rw [if_neg (fun h => hz h.2.2)]
      simp
    have ov := ovf_iff x y (by decide) hz
    simp only [Nat.reducePow, Nat.reduceSub] at ov
    have w32 : ∀ v : BitVec 32, wrap32 v.toInt = v.toInt := fun v => by have := toInt_bd v (by decide); simp only [Nat.reducePow, Nat.reduceSub] at this; unfold wrap32; omega
    rcases (by omega : which = 0 ∨ which = 1 ∨ which = 2 ∨ which = 3) with rfl | rfl | rfl | rfl
    · by_cases ho : ovf x y = true
      · obtain ⟨h1, h2⟩ := ov.1 ho
        have e : rkE (0 + 3) x y = 22 := by rw [hE, if_pos ⟨rfl, ho⟩]
        refine (pdiv_over_int32 x.toInt y.toInt x.toNat y.toNat (by omega) (by omega) h1 (by omega) w).mono ?_
        rintro r w' ⟨rfl, rfl⟩
        exact ⟨0, by rw [e], by unfold rkN; rw [e, if_neg (by decide)]; unfold wrap32; omega, rfl⟩
      · have e : rkE (0 + 3) x y = 0 := by rw [hE, if_neg (fun h => ho h.2)]
        refine (pdiv_s_int32 x.toInt y.toInt x.toNat y.toNat (by omega) (by omega) hy0 (fun h => ho (ov.2 ⟨h.1, by omega⟩)) w).mono ?_
        rintro r w' ⟨rfl, rfl⟩
        rw [sdiv_in x y (by decide) hz (by simpa using ho)]
        exact ⟨_, by rw [e], by unfold rkN; rw [e, if_pos rfl]; exact w32 _, rfl⟩
    · have e : rkE (1 + 3) x y = 0 := by rw [hE, if_neg (fun h => by omega)]
      refine (pdiv_u_int32 x.toInt y.toInt x.toNat y.toNat (by omega) (by omega) hy0 hn0 w).mono ?_
      rintro r w' ⟨rfl, rfl⟩
      refine ⟨_, by rw [e], ?_, rfl⟩
      unfold rkN
      rw [e, if_pos rfl]
      show _ = (x / y).toInt
      rw [← back_32, BitVec.toNat_udiv, Int.ofNat_tdiv]
    · have e : rkE (2 + 3) x y = 0 := by rw [hE, if_neg (fun h => by omega)]
      refine (pdiv_r_int32 x.toInt y.toInt x.toNat y.toNat (by omega) hy0 w).mono ?_
      rintro r w' ⟨rfl, rfl⟩
      refine ⟨_, by rw [e], ?_, rfl⟩
      unfold rkN
      rw [e, if_pos rfl]
      show _ = (x.srem y).toInt
      rw [← BitVec.toInt_srem, w32]
    · have e : rkE (3 + 3) x y = 0 := by rw [hE, if_neg (fun h => by omega)]
      refine (pdiv_m_int32 x.toInt y.toInt x.toNat y.toNat (by omega) (by omega) hy0 hn0 w).mono ?_
      rintro r w' ⟨rfl, rfl⟩
      refine ⟨_, by rw [e], ?_, rfl⟩
      unfold rkN
      rw [e, if_pos rfl]
      show _ = (x % y).toInt
      rw [← back_32, BitVec.toNat_umod]
      push_cast
      rfl
theorem pdiv64_any (which : Nat) (hw : which ≤ 3) (x y : BitVec 64) (w : World) :
    Calls Tryz.prog 136 #[.int .u8 which, .int .i64 x.toInt, .int .i64 y.toInt, .int .u64 x.toNat, .int .u64 y.toNat] w fun e w' => e = .returned (.tuple #[.int .i64 (rkN (which + 3) x y), .int .i64 (rkE (which + 3) x y)]) ∧ w = w' := by
  have hx := toInt_bd x (by decide)
  have hy := toInt_bd y (by decide)
  have hx2 := x.isLt
  have hy2 := y.isLt
  simp only [Nat.reducePow, Nat.reduceSub] at hx hy hx2 hy2
  by_cases hz : y = 0#64
  · have e : rkE (which + 3) x y = 21 := if_pos ⟨by omega, by omega, hz⟩
    have f : rkN (which + 3) x y = 0 := by unfold rkN; rw [e, if_neg (by decide)]
    rw [e, f]
    exact pdiv_zero_int64 x.toInt y.toInt x.toNat y.toNat (by omega) which (by rw [hz]; rfl) w
  · have hy0 : y.toInt ≠ 0 := fun e => hz (BitVec.eq_of_toInt_eq (by rw [e]; simp))
    have hn0 : ((y.toNat : Nat) : Int) ≠ 0 := fun e => hz (BitVec.eq_of_toNat_eq (by simpa using e))
    have hE : rkE (which + 3) x y = if which = 0 ∧ ovf x y = true then 22 else 0 := by
      unfold rkE
      rw [if_neg (fun h => hz h.2.2)]
      simp
    have ov := ovf_iff x y (by decide) hz
    simp only [Nat.reducePow, Nat.reduceSub] at ov
    rcases (by omega : which = 0 ∨ which = 1 ∨ which = 2 ∨ which = 3) with rfl | rfl | rfl | rfl
    · by_cases ho : ovf x y = true
      · obtain ⟨h1, h2⟩ := ov.1 ho
        have e : rkE (0 + 3) x y = 22 := by rw [hE, if_pos ⟨rfl, ho⟩]
        have f : rkN (0 + 3) x y = 0 := by unfold rkN; rw [e, if_neg (by decide)]
        rw [e, f]
        exact pdiv_over_int64 x.toInt y.toInt x.toNat y.toNat (by omega) (by omega) h1 (by omega) w
      · have e : rkE (0 + 3) x y = 0 := by rw [hE, if_neg (fun h => ho h.2)]
        have f : rkN (0 + 3) x y = (x.sdiv y).toInt := if_pos e
        rw [e, f, ← sdiv_in x y (by decide) hz (by simpa using ho)]
        exact pdiv_s_int64 x.toInt y.toInt x.toNat y.toNat (by omega) (by omega) hy0 (fun h => ho (ov.2 ⟨h.1, by omega⟩)) w
    · have e : rkE (1 + 3) x y = 0 := by rw [hE, if_neg (fun h => by omega)]
      have f : rkN (1 + 3) x y = (x / y).toInt := if_pos e
      rw [e, f, ← back_64 (x / y), BitVec.toNat_udiv, show ((x.toNat / y.toNat : Nat) : Int) = (x.toNat : Int).tdiv y.toNat from Int.ofNat_tdiv _ _]
      exact pdiv_u_int64 x.toInt y.toInt x.toNat y.toNat (by omega) (by omega) hy0 hn0 w
    · have e : rkE (2 + 3) x y = 0 := by rw [hE, if_neg (fun h => by omega)]
      have f : rkN (2 + 3) x y = (x.srem y).toInt := if_pos e
      rw [e, f, BitVec.toInt_srem]
      exact pdiv_r_int64 x.toInt y.toInt x.toNat y.toNat (by omega) hy0 w
    · have e : rkE (3 + 3) x y = 0 := by rw [hE, if_neg (fun h => by omega)]
      have f : rkN (3 + 3) x y = (x % y).toInt := if_pos e
      rw [e, f, ← back_64 (x % y), BitVec.toNat_umod, show ((x.toNat % y.toNat : Nat) : Int) = (x.toNat : Int) % y.toNat from Int.natCast_emod _ _]
      exact pdiv_m_int64 x.toInt y.toInt x.toNat y.toNat (by omega) (by omega) hy0 hn0 w

set_option maxRecDepth 100000 in
set_option maxHeartbeats 8000000 in
theorem ptwo_any (op : Nat) (hop : op < 256) (a b : Int) (ha : -9223372036854775808 ≤ a ∧ a < 9223372036854775808) (hb : -9223372036854775808 ≤ b ∧ b < 9223372036854775808) (w : World) :
    Calls Tryz.prog 102 #[.int .u8 op, .int .i64 a, .int .i64 b] w fun e w' => e = .returned (.tuple #[.int .i64 (twoN op a b), .int .i64 (twoE op a b)]) ∧ Below w.heap.size w w' := by
  rcases (by omega : (70 ≤ op ∧ op ≤ 79) ∨ (81 ≤ op ∧ op ≤ 90) ∨ (109 ≤ op ∧ op ≤ 112) ∨ (127 ≤ op ∧ op ≤ 130) ∨ (106 ≤ op ∧ op ≤ 108) ∨ (113 ≤ op ∧ op ≤ 120) ∨ (124 ≤ op ∧ op ≤ 126) ∨ (131 ≤ op ∧ op ≤ 138) ∨ (0 ≤ op ∧ op ≤ 69) ∨ (80 ≤ op ∧ op ≤ 80) ∨ (91 ≤ op ∧ op ≤ 105) ∨ (121 ≤ op ∧ op ≤ 123) ∨ (139 ≤ op ∧ op ≤ 255)) with hr | hr | hr | hr | hr | hr | hr | hr | hr | hr | hr | hr | hr
  · have mN : twoN op a b = tv (cmpF (op - 70) (BitVec.ofInt 32 a) (BitVec.ofInt 32 b)) := by
      unfold twoN
      rw [if_pos (show 70 ≤ op ∧ op ≤ 79 by omega)]
    have mE : twoE op a b = 0 := by
      unfold twoE
      rw [if_pos (show 70 ≤ op ∧ op ≤ 79 by omega)]
    rw [mN, mE]
    clear mN mE
    have HC : Hid (∀ (z s t p q : Int), z = ((op - 70 : Nat) : Int) → s = (BitVec.ofInt 32 a).toInt → t = (BitVec.ofInt 32 b).toInt → p = (BitVec.ofInt 32 a).toNat → q = (BitVec.ofInt 32 b).toNat → ∀ w', Calls Tryz.prog 133 #[.int .u8 z, .int .i32 s, .int .i32 t, .int .u32 p, .int .u32 q] w' fun e w2 => e = .returned (.int .i64 (tv (cmpF (op - 70) (BitVec.ofInt 32 a) (BitVec.ofInt 32 b)))) ∧ w' = w2) := hid (by
      rintro z s t p q rfl rfl rfl rfl rfl w'
      rw [← cmp_eq]
      exact pcmp_int32 (op - 70) (by omega) _ _ _ _ w')
    have g0 : (70 : Int) ≤ op := by omega
    have k0 : (op : Int) ≤ 79 := by omega
    have g1 : ¬ (81 : Int) ≤ op := by omega
    have g2 : ¬ (109 : Int) ≤ op := by omega
    have g3 : ¬ (127 : Int) ≤ op := by omega
    have g4 : ¬ (106 : Int) ≤ op := by omega
    have g5 : ¬ (124 : Int) ≤ op := by omega
    go_enter Tryz.func102, Tryz.ntmps102
    go_wp2_with (go_at_call 133; refine (HC.out _ _ _ _ _ (by omega) (by first | exact (toInt_32 _).symm | exact (toNat_32 _).symm | exact (toInt_64 _ (by assumption)).symm | exact (toNat_64 _).symm | (rw [wp_u64]; exact (toNat_64 _).symm)) (by first | exact (toInt_32 _).symm | exact (toNat_32 _).symm | exact (toInt_64 _ (by assumption)).symm | exact (toNat_64 _).symm | (rw [wp_u64]; exact (toNat_64 _).symm)) (by first | exact (toInt_32 _).symm | exact (toNat_32 _).symm | exact (toInt_64 _ (by assumption)).symm | exact (toNat_64 _).symm | (rw [wp_u64]; exact (toNat_64 _).symm)) (by first | exact (toInt_32 _).symm | exact (toNat_32 _).symm | exact (toInt_64 _ (by assumption)).symm | exact (toNat_64 _).symm | (rw [wp_u64]; exact (toNat_64 _).symm)) _).mono ?_; rintro r w1 ⟨rfl, rfl⟩)
    go_ret2
    exact ⟨rfl, Below.refl _ _⟩
  · have mN : twoN op a b = tv (cmpF (op - 81) (BitVec.ofInt 64 a) (BitVec.ofInt 64 b)) := by
      unfold twoN
      rw [if_neg (show ¬ (70 ≤ op ∧ op ≤ 79) by omega), if_pos (show 81 ≤ op ∧ op ≤ 90 by omega)]
    have mE : twoE op a b = 0 := by
      unfold twoE
      rw [if_neg (show ¬ (70 ≤ op ∧ op ≤ 79) by omega), if_pos (show 81 ≤ op ∧ op ≤ 90 by omega)]
    rw [mN, mE]
    clear mN mE
    have HC : Hid (∀ (z s t p q : Int), z = ((op - 81 : Nat) : Int) → s = (BitVec.ofInt 64 a).toInt → t = (BitVec.ofInt 64 b).toInt → p = (BitVec.ofInt 64 a).toNat → q = (BitVec.ofInt 64 b).toNat → ∀ w', Calls Tryz.prog 134 #[.int .u8 z, .int .i64 s, .int .i64 t, .int .u64 p, .int .u64 q] w' fun e w2 => e = .returned (.int .i64 (tv (cmpF (op - 81) (BitVec.ofInt 64 a) (BitVec.ofInt 64 b)))) ∧ w' = w2) := hid (by
      rintro z s t p q rfl rfl rfl rfl rfl w'
      rw [← cmp_eq]
      exact pcmp_int64 (op - 81) (by omega) _ _ _ _ w')
    have g0 : (70 : Int) ≤ op := by omega
    have k0 : ¬ (op : Int) ≤ 79 := by omega
    have g1 : (81 : Int) ≤ op := by omega
    have k1 : (op : Int) ≤ 90 := by omega
    have g2 : ¬ (109 : Int) ≤ op := by omega
    have g3 : ¬ (127 : Int) ≤ op := by omega
    have g4 : ¬ (106 : Int) ≤ op := by omega
    have g5 : ¬ (124 : Int) ≤ op := by omega
    go_enter Tryz.func102, Tryz.ntmps102
    go_wp2_with (go_at_call 134; refine (HC.out _ _ _ _ _ (by omega) (by first | exact (toInt_32 _).symm | exact (toNat_32 _).symm | exact (toInt_64 _ (by assumption)).symm | exact (toNat_64 _).symm | (rw [wp_u64]; exact (toNat_64 _).symm)) (by first | exact (toInt_32 _).symm | exact (toNat_32 _).symm | exact (toInt_64 _ (by assumption)).symm | exact (toNat_64 _).symm | (rw [wp_u64]; exact (toNat_64 _).symm)) (by first | exact (toInt_32 _).symm | exact (toNat_32 _).symm | exact (toInt_64 _ (by assumption)).symm | exact (toNat_64 _).symm | (rw [wp_u64]; exact (toNat_64 _).symm)) (by first | exact (toInt_32 _).symm | exact (toNat_32 _).symm | exact (toInt_64 _ (by assumption)).symm | exact (toNat_64 _).symm | (rw [wp_u64]; exact (toNat_64 _).symm)) _).mono ?_; rintro r w1 ⟨rfl, rfl⟩)
    go_ret2
    exact ⟨rfl, Below.refl _ _⟩
  · have mN : twoN op a b = rkN (op - 106) (BitVec.ofInt 32 a) (BitVec.ofInt 32 b) := by
      unfold twoN
      rw [if_neg (show ¬ (70 ≤ op ∧ op ≤ 79) by omega), if_neg (show ¬ (81 ≤ op ∧ op ≤ 90) by omega), if_pos (show 106 ≤ op ∧ op ≤ 120 by omega)]
    have mE : twoE op a b = rkE (op - 106) (BitVec.ofInt 32 a) (BitVec.ofInt 32 b) := by
      unfold twoE
      rw [if_neg (show ¬ (70 ≤ op ∧ op ≤ 79) by omega), if_neg (show ¬ (81 ≤ op ∧ op ≤ 90) by omega), if_pos (show 106 ≤ op ∧ op ≤ 120 by omega)]
    rw [mN, mE]
    clear mN mE
    have HC : Hid (∀ (z s t p q : Int), z = ((op - 109 : Nat) : Int) → s = (BitVec.ofInt 32 a).toInt → t = (BitVec.ofInt 32 b).toInt → p = (BitVec.ofInt 32 a).toNat → q = (BitVec.ofInt 32 b).toNat → ∀ w', Calls Tryz.prog 135 #[.int .u8 z, .int .i32 s, .int .i32 t, .int .u32 p, .int .u32 q] w' fun e w2 => ∃ r : Int, e = .returned (.tuple #[.int .i64 r, .int .i64 (rkE (op - 106) (BitVec.ofInt 32 a) (BitVec.ofInt 32 b))]) ∧ wrap32 r = rkN (op - 106) (BitVec.ofInt 32 a) (BitVec.ofInt 32 b) ∧ w' = w2) := hid (by
      rintro z s t p q rfl rfl rfl rfl rfl w'
      rw [show op - 106 = op - 109 + 3 by omega]
      exact pdiv32_any (op - 109) (by omega) _ _ w')
    have g0 : (70 : Int) ≤ op := by omega
    have k0 : ¬ (op : Int) ≤ 79 := by omega
    have g1 : (81 : Int) ≤ op := by omega
    have k1 : ¬ (op : Int) ≤ 90 := by omega
    have g2 : (109 : Int) ≤ op := by omega
    have k2 : (op : Int) ≤ 112 := by omega
    have g3 : ¬ (127 : Int) ≤ op := by omega
    have g4 : (106 : Int) ≤ op := by omega
    have k4 : (op : Int) ≤ 120 := by omega
    have g5 : ¬ (124 : Int) ≤ op := by omega
    go_enter Tryz.func102, Tryz.ntmps102
    go_wp2_with (go_at_call 135; refine (HC.out _ _ _ _ _ (by omega) (by first | exact (toInt_32 _).symm | exact (toNat_32 _).symm | exact (toInt_64 _ (by assumption)).symm | exact (toNat_64 _).symm | (rw [wp_u64]; exact (toNat_64 _).symm)) (by first | exact (toInt_32 _).symm | exact (toNat_32 _).symm | exact (toInt_64 _ (by assumption)).symm | exact (toNat_64 _).symm | (rw [wp_u64]; exact (toNat_64 _).symm)) (by first | exact (toInt_32 _).symm | exact (toNat_32 _).symm | exact (toInt_64 _ (by assumption)).symm | exact (toNat_64 _).symm | (rw [wp_u64]; exact (toNat_64 _).symm)) (by first | exact (toInt_32 _).symm | exact (toNat_32 _).symm | exact (toInt_64 _ (by assumption)).symm | exact (toNat_64 _).symm | (rw [wp_u64]; exact (toNat_64 _).symm)) _).mono ?_; rintro r w1 ⟨q, rfl, hq, rfl⟩; have HQ := hid hq; clear hq)
    go_ret2
    exact ⟨by have e : wrap64 (wrap32 q) = rkN (op - 106) (BitVec.ofInt 32 a) (BitVec.ofInt 32 b) := by rw [← HQ.out]; unfold wrap64 wrap32; omega
              rw [← e]; rfl, Below.refl _ _⟩
  · have mN : twoN op a b = rkN (op - 124) (BitVec.ofInt 64 a) (BitVec.ofInt 64 b) := by
      unfold twoN
      rw [if_neg (show ¬ (70 ≤ op ∧ op ≤ 79) by omega), if_neg (show ¬ (81 ≤ op ∧ op ≤ 90) by omega), if_neg (show ¬ (106 ≤ op ∧ op ≤ 120) by omega), if_pos (show 124 ≤ op ∧ op ≤ 138 by omega)]
    have mE : twoE op a b = rkE (op - 124) (BitVec.ofInt 64 a) (BitVec.ofInt 64 b) := by
      unfold twoE
      rw [if_neg (show ¬ (70 ≤ op ∧ op ≤ 79) by omega), if_neg (show ¬ (81 ≤ op ∧ op ≤ 90) by omega), if_neg (show ¬ (106 ≤ op ∧ op ≤ 120) by omega), if_pos (show 124 ≤ op ∧ op ≤ 138 by omega)]
    rw [mN, mE]
    clear mN mE
    have HC : Hid (∀ (z s t p q : Int), z = ((op - 127 : Nat) : Int) → s = (BitVec.ofInt 64 a).toInt → t = (BitVec.ofInt 64 b).toInt → p = (BitVec.ofInt 64 a).toNat → q = (BitVec.ofInt 64 b).toNat → ∀ w', Calls Tryz.prog 136 #[.int .u8 z, .int .i64 s, .int .i64 t, .int .u64 p, .int .u64 q] w' fun e w2 => e = .returned (.tuple #[.int .i64 (rkN (op - 124) (BitVec.ofInt 64 a) (BitVec.ofInt 64 b)), .int .i64 (rkE (op - 124) (BitVec.ofInt 64 a) (BitVec.ofInt 64 b))]) ∧ w' = w2) := hid (by
      rintro z s t p q rfl rfl rfl rfl rfl w'
      rw [show op - 124 = op - 127 + 3 by omega]
      exact pdiv64_any (op - 127) (by omega) _ _ w')
    have g0 : (70 : Int) ≤ op := by omega
    have k0 : ¬ (op : Int) ≤ 79 := by omega
    have g1 : (81 : Int) ≤ op := by omega
    have k1 : ¬ (op : Int) ≤ 90 := by omega
    have g2 : (109 : Int) ≤ op := by omega
    have k2 : ¬ (op : Int) ≤ 112 := by omega
    have g3 : (127 : Int) ≤ op := by omega
    have k3 : (op : Int) ≤ 130 := by omega
    have g4 : (106 : Int) ≤ op := by omega
    have k4 : ¬ (op : Int) ≤ 120 := by omega
    have g5 : (124 : Int) ≤ op := by omega
    have k5 : (op : Int) ≤ 138 := by omega
    go_enter Tryz.func102, Tryz.ntmps102
    go_wp2_with (go_at_call 136; refine (HC.out _ _ _ _ _ (by omega) (by first | exact (toInt_32 _).symm | exact (toNat_32 _).symm | exact (toInt_64 _ (by assumption)).symm | exact (toNat_64 _).symm | (rw [wp_u64]; exact (toNat_64 _).symm)) (by first | exact (toInt_32 _).symm | exact (toNat_32 _).symm | exact (toInt_64 _ (by assumption)).symm | exact (toNat_64 _).symm | (rw [wp_u64]; exact (toNat_64 _).symm)) (by first | exact (toInt_32 _).symm | exact (toNat_32 _).symm | exact (toInt_64 _ (by assumption)).symm | exact (toNat_64 _).symm | (rw [wp_u64]; exact (toNat_64 _).symm)) (by first | exact (toInt_32 _).symm | exact (toNat_32 _).symm | exact (toInt_64 _ (by assumption)).symm | exact (toNat_64 _).symm | (rw [wp_u64]; exact (toNat_64 _).symm)) _).mono ?_; rintro r w1 ⟨rfl, rfl⟩)
    go_ret2
    exact ⟨rfl, Below.refl _ _⟩
  · have mN : twoN op a b = rkN (op - 106) (BitVec.ofInt 32 a) (BitVec.ofInt 32 b) := by
      unfold twoN
      rw [if_neg (show ¬ (70 ≤ op ∧ op ≤ 79) by omega), if_neg (show ¬ (81 ≤ op ∧ op ≤ 90) by omega), if_pos (show 106 ≤ op ∧ op ≤ 120 by omega)]
    have mE : twoE op a b = rkE (op - 106) (BitVec.ofInt 32 a) (BitVec.ofInt 32 b) := by
      unfold twoE
      rw [if_neg (show ¬ (70 ≤ op ∧ op ≤ 79) by omega), if_neg (show ¬ (81 ≤ op ∧ op ≤ 90) by omega), if_pos (show 106 ≤ op ∧ op ≤ 120 by omega)]
    rw [mN, mE]
    clear mN mE
    have eE : rkE (op - 106) (BitVec.ofInt 32 a) (BitVec.ofInt 32 b) = 0 := by unfold rkE; rw [if_neg (by omega), if_neg (by omega)]
    have eN : rkN (op - 106) (BitVec.ofInt 32 a) (BitVec.ofInt 32 b) = (rkV (op - 106) (BitVec.ofInt 32 a) (BitVec.ofInt 32 b)).toInt := if_pos eE
    rw [eE, eN]
    clear eE eN
    have HC : Hid (∀ (z p q : Int), z = ((op - 106 : Nat) : Int) → p = (BitVec.ofInt 32 a).toNat → q = (BitVec.ofInt 32 b).toNat → ∀ w', Calls Tryz.prog 137 #[.int .u8 z, .int .u32 p, .int .u32 q, .int .i64 32] w' fun e w2 => e = .returned (.int .u32 ((rkV (op - 106) (BitVec.ofInt 32 a) (BitVec.ofInt 32 b)).toNat : Int)) ∧ Below w'.heap.size w' w2) := hid (by
      rintro z p q rfl rfl rfl w'
      exact prk32_any (op - 106) (by omega) (by omega) _ _ w')
    have HV := hid (back_32 (rkV (op - 106) (BitVec.ofInt 32 a) (BitVec.ofInt 32 b)))
    have g0 : (70 : Int) ≤ op := by omega
    have k0 : ¬ (op : Int) ≤ 79 := by omega
    have g1 : (81 : Int) ≤ op := by omega
    have k1 : ¬ (op : Int) ≤ 90 := by omega
    have g2 : ¬ (109 : Int) ≤ op := by omega
    have g3 : ¬ (127 : Int) ≤ op := by omega
    have g4 : (106 : Int) ≤ op := by omega
    have k4 : (op : Int) ≤ 120 := by omega
    have g5 : ¬ (124 : Int) ≤ op := by omega
    go_enter Tryz.func102, Tryz.ntmps102
    go_wp2_with (go_at_call 137; refine (HC.out _ _ _ (by omega) (by first | exact (toInt_32 _).symm | exact (toNat_32 _).symm | exact (toInt_64 _ (by assumption)).symm | exact (toNat_64 _).symm | (rw [wp_u64]; exact (toNat_64 _).symm)) (by first | exact (toInt_32 _).symm | exact (toNat_32 _).symm | exact (toInt_64 _ (by assumption)).symm | exact (toNat_64 _).symm | (rw [wp_u64]; exact (toNat_64 _).symm)) _).mono ?_; rintro r w1 ⟨rfl, hb1⟩; have B1 := hid hb1; clear hb1)
    go_ret2
    exact ⟨by have e : wrap64 (wrap32 ((rkV (op - 106) (BitVec.ofInt 32 a) (BitVec.ofInt 32 b)).toNat : Int)) = (rkV (op - 106) (BitVec.ofInt 32 a) (BitVec.ofInt 32 b)).toInt := by rw [← HV.out]; unfold wrap64 wrap32; omega
              rw [← e]; rfl, B1.out⟩
  · have mN : twoN op a b = rkN (op - 106) (BitVec.ofInt 32 a) (BitVec.ofInt 32 b) := by
      unfold twoN
      rw [if_neg (show ¬ (70 ≤ op ∧ op ≤ 79) by omega), if_neg (show ¬ (81 ≤ op ∧ op ≤ 90) by omega), if_pos (show 106 ≤ op ∧ op ≤ 120 by omega)]
    have mE : twoE op a b = rkE (op - 106) (BitVec.ofInt 32 a) (BitVec.ofInt 32 b) := by
      unfold twoE
      rw [if_neg (show ¬ (70 ≤ op ∧ op ≤ 79) by omega), if_neg (show ¬ (81 ≤ op ∧ op ≤ 90) by omega), if_pos (show 106 ≤ op ∧ op ≤ 120 by omega)]
    rw [mN, mE]
    clear mN mE
    have eE : rkE (op - 106) (BitVec.ofInt 32 a) (BitVec.ofInt 32 b) = 0 := by unfold rkE; rw [if_neg (by omega), if_neg (by omega)]
    have eN : rkN (op - 106) (BitVec.ofInt 32 a) (BitVec.ofInt 32 b) = (rkV (op - 106) (BitVec.ofInt 32 a) (BitVec.ofInt 32 b)).toInt := if_pos eE
    rw [eE, eN]
    clear eE eN
    have HC : Hid (∀ (z p q : Int), z = ((op - 106 : Nat) : Int) → p = (BitVec.ofInt 32 a).toNat → q = (BitVec.ofInt 32 b).toNat → ∀ w', Calls Tryz.prog 137 #[.int .u8 z, .int .u32 p, .int .u32 q, .int .i64 32] w' fun e w2 => e = .returned (.int .u32 ((rkV (op - 106) (BitVec.ofInt 32 a) (BitVec.ofInt 32 b)).toNat : Int)) ∧ Below w'.heap.size w' w2) := hid (by
      rintro z p q rfl rfl rfl w'
      exact prk32_any (op - 106) (by omega) (by omega) _ _ w')
    have HV := hid (back_32 (rkV (op - 106) (BitVec.ofInt 32 a) (BitVec.ofInt 32 b)))
    have g0 : (70 : Int) ≤ op := by omega
    have k0 : ¬ (op : Int) ≤ 79 := by omega
    have g1 : (81 : Int) ≤ op := by omega
    have k1 : ¬ (op : Int) ≤ 90 := by omega
    have g2 : (109 : Int) ≤ op := by omega
    have k2 : ¬ (op : Int) ≤ 112 := by omega
    have g3 : ¬ (127 : Int) ≤ op := by omega
    have g4 : (106 : Int) ≤ op := by omega
    have k4 : (op : Int) ≤ 120 := by omega
    have g5 : ¬ (124 : Int) ≤ op := by omega
    go_enter Tryz.func102, Tryz.ntmps102
    go_wp2_with (go_at_call 137; refine (HC.out _ _ _ (by omega) (by first | exact (toInt_32 _).symm | exact (toNat_32 _).symm | exact (toInt_64 _ (by assumption)).symm | exact (toNat_64 _).symm | (rw [wp_u64]; exact (toNat_64 _).symm)) (by first | exact (toInt_32 _).symm | exact (toNat_32 _).symm | exact (toInt_64 _ (by assumption)).symm | exact (toNat_64 _).symm | (rw [wp_u64]; exact (toNat_64 _).symm)) _).mono ?_; rintro r w1 ⟨rfl, hb1⟩; have B1 := hid hb1; clear hb1)
    go_ret2
    exact ⟨by have e : wrap64 (wrap32 ((rkV (op - 106) (BitVec.ofInt 32 a) (BitVec.ofInt 32 b)).toNat : Int)) = (rkV (op - 106) (BitVec.ofInt 32 a) (BitVec.ofInt 32 b)).toInt := by rw [← HV.out]; unfold wrap64 wrap32; omega
              rw [← e]; rfl, B1.out⟩
  · have mN : twoN op a b = rkN (op - 124) (BitVec.ofInt 64 a) (BitVec.ofInt 64 b) := by
      unfold twoN
      rw [if_neg (show ¬ (70 ≤ op ∧ op ≤ 79) by omega), if_neg (show ¬ (81 ≤ op ∧ op ≤ 90) by omega), if_neg (show ¬ (106 ≤ op ∧ op ≤ 120) by omega), if_pos (show 124 ≤ op ∧ op ≤ 138 by omega)]
    have mE : twoE op a b = rkE (op - 124) (BitVec.ofInt 64 a) (BitVec.ofInt 64 b) := by
      unfold twoE
      rw [if_neg (show ¬ (70 ≤ op ∧ op ≤ 79) by omega), if_neg (show ¬ (81 ≤ op ∧ op ≤ 90) by omega), if_neg (show ¬ (106 ≤ op ∧ op ≤ 120) by omega), if_pos (show 124 ≤ op ∧ op ≤ 138 by omega)]
    rw [mN, mE]
    clear mN mE
    have eE : rkE (op - 124) (BitVec.ofInt 64 a) (BitVec.ofInt 64 b) = 0 := by unfold rkE; rw [if_neg (by omega), if_neg (by omega)]
    have eN : rkN (op - 124) (BitVec.ofInt 64 a) (BitVec.ofInt 64 b) = (rkV (op - 124) (BitVec.ofInt 64 a) (BitVec.ofInt 64 b)).toInt := if_pos eE
    rw [eE, eN]
    clear eE eN
    have HC : Hid (∀ (z p q : Int), z = ((op - 124 : Nat) : Int) → p = (BitVec.ofInt 64 a).toNat → q = (BitVec.ofInt 64 b).toNat → ∀ w', Calls Tryz.prog 138 #[.int .u8 z, .int .u64 p, .int .u64 q, .int .i64 64] w' fun e w2 => e = .returned (.int .u64 ((rkV (op - 124) (BitVec.ofInt 64 a) (BitVec.ofInt 64 b)).toNat : Int)) ∧ Below w'.heap.size w' w2) := hid (by
      rintro z p q rfl rfl rfl w'
      exact prk64_any (op - 124) (by omega) (by omega) _ _ w')
    have HV := hid (back_64 (rkV (op - 124) (BitVec.ofInt 64 a) (BitVec.ofInt 64 b)))
    have g0 : (70 : Int) ≤ op := by omega
    have k0 : ¬ (op : Int) ≤ 79 := by omega
    have g1 : (81 : Int) ≤ op := by omega
    have k1 : ¬ (op : Int) ≤ 90 := by omega
    have g2 : (109 : Int) ≤ op := by omega
    have k2 : ¬ (op : Int) ≤ 112 := by omega
    have g3 : ¬ (127 : Int) ≤ op := by omega
    have g4 : (106 : Int) ≤ op := by omega
    have k4 : ¬ (op : Int) ≤ 120 := by omega
    have g5 : (124 : Int) ≤ op := by omega
    have k5 : (op : Int) ≤ 138 := by omega
    go_enter Tryz.func102, Tryz.ntmps102
    go_wp2_with (go_at_call 138; refine (HC.out _ _ _ (by omega) (by first | exact (toInt_32 _).symm | exact (toNat_32 _).symm | exact (toInt_64 _ (by assumption)).symm | exact (toNat_64 _).symm | (rw [wp_u64]; exact (toNat_64 _).symm)) (by first | exact (toInt_32 _).symm | exact (toNat_32 _).symm | exact (toInt_64 _ (by assumption)).symm | exact (toNat_64 _).symm | (rw [wp_u64]; exact (toNat_64 _).symm)) _).mono ?_; rintro r w1 ⟨rfl, hb1⟩; have B1 := hid hb1; clear hb1)
    go_ret2
    exact ⟨by rw [← HV.out]; rfl, B1.out⟩
  · have mN : twoN op a b = rkN (op - 124) (BitVec.ofInt 64 a) (BitVec.ofInt 64 b) := by
      unfold twoN
      rw [if_neg (show ¬ (70 ≤ op ∧ op ≤ 79) by omega), if_neg (show ¬ (81 ≤ op ∧ op ≤ 90) by omega), if_neg (show ¬ (106 ≤ op ∧ op ≤ 120) by omega), if_pos (show 124 ≤ op ∧ op ≤ 138 by omega)]
    have mE : twoE op a b = rkE (op - 124) (BitVec.ofInt 64 a) (BitVec.ofInt 64 b) := by
      unfold twoE
      rw [if_neg (show ¬ (70 ≤ op ∧ op ≤ 79) by omega), if_neg (show ¬ (81 ≤ op ∧ op ≤ 90) by omega), if_neg (show ¬ (106 ≤ op ∧ op ≤ 120) by omega), if_pos (show 124 ≤ op ∧ op ≤ 138 by omega)]
    rw [mN, mE]
    clear mN mE
    have eE : rkE (op - 124) (BitVec.ofInt 64 a) (BitVec.ofInt 64 b) = 0 := by unfold rkE; rw [if_neg (by omega), if_neg (by omega)]
    have eN : rkN (op - 124) (BitVec.ofInt 64 a) (BitVec.ofInt 64 b) = (rkV (op - 124) (BitVec.ofInt 64 a) (BitVec.ofInt 64 b)).toInt := if_pos eE
    rw [eE, eN]
    clear eE eN
    have HC : Hid (∀ (z p q : Int), z = ((op - 124 : Nat) : Int) → p = (BitVec.ofInt 64 a).toNat → q = (BitVec.ofInt 64 b).toNat → ∀ w', Calls Tryz.prog 138 #[.int .u8 z, .int .u64 p, .int .u64 q, .int .i64 64] w' fun e w2 => e = .returned (.int .u64 ((rkV (op - 124) (BitVec.ofInt 64 a) (BitVec.ofInt 64 b)).toNat : Int)) ∧ Below w'.heap.size w' w2) := hid (by
      rintro z p q rfl rfl rfl w'
      exact prk64_any (op - 124) (by omega) (by omega) _ _ w')
    have HV := hid (back_64 (rkV (op - 124) (BitVec.ofInt 64 a) (BitVec.ofInt 64 b)))
    have g0 : (70 : Int) ≤ op := by omega
    have k0 : ¬ (op : Int) ≤ 79 := by omega
    have g1 : (81 : Int) ≤ op := by omega
    have k1 : ¬ (op : Int) ≤ 90 := by omega
    have g2 : (109 : Int) ≤ op := by omega
    have k2 : ¬ (op : Int) ≤ 112 := by omega
    have g3 : (127 : Int) ≤ op := by omega
    have k3 : ¬ (op : Int) ≤ 130 := by omega
    have g4 : (106 : Int) ≤ op := by omega
    have k4 : ¬ (op : Int) ≤ 120 := by omega
    have g5 : (124 : Int) ≤ op := by omega
    have k5 : (op : Int) ≤ 138 := by omega
    go_enter Tryz.func102, Tryz.ntmps102
    go_wp2_with (go_at_call 138; refine (HC.out _ _ _ (by omega) (by first | exact (toInt_32 _).symm | exact (toNat_32 _).symm | exact (toInt_64 _ (by assumption)).symm | exact (toNat_64 _).symm | (rw [wp_u64]; exact (toNat_64 _).symm)) (by first | exact (toInt_32 _).symm | exact (toNat_32 _).symm | exact (toInt_64 _ (by assumption)).symm | exact (toNat_64 _).symm | (rw [wp_u64]; exact (toNat_64 _).symm)) _).mono ?_; rintro r w1 ⟨rfl, hb1⟩; have B1 := hid hb1; clear hb1)
    go_ret2
    exact ⟨by rw [← HV.out]; rfl, B1.out⟩
  · have mN : twoN op a b = 0 := by
      unfold twoN
      rw [if_neg (show ¬ (70 ≤ op ∧ op ≤ 79) by omega), if_neg (show ¬ (81 ≤ op ∧ op ≤ 90) by omega), if_neg (show ¬ (106 ≤ op ∧ op ≤ 120) by omega), if_neg (show ¬ (124 ≤ op ∧ op ≤ 138) by omega)]
    have mE : twoE op a b = 6 := by
      unfold twoE
      rw [if_neg (show ¬ (70 ≤ op ∧ op ≤ 79) by omega), if_neg (show ¬ (81 ≤ op ∧ op ≤ 90) by omega), if_neg (show ¬ (106 ≤ op ∧ op ≤ 120) by omega), if_neg (show ¬ (124 ≤ op ∧ op ≤ 138) by omega)]
    rw [mN, mE]
    clear mN mE
    have g0 : ¬ (70 : Int) ≤ op := by omega
    have g1 : ¬ (81 : Int) ≤ op := by omega
    have g2 : ¬ (109 : Int) ≤ op := by omega
    have g3 : ¬ (127 : Int) ≤ op := by omega
    have g4 : ¬ (106 : Int) ≤ op := by omega
    have g5 : ¬ (124 : Int) ≤ op := by omega
    go_enter Tryz.func102, Tryz.ntmps102
    go_wp2_with fail
    go_ret2
    exact ⟨rfl, Below.refl _ _⟩
  · have mN : twoN op a b = 0 := by
      unfold twoN
      rw [if_neg (show ¬ (70 ≤ op ∧ op ≤ 79) by omega), if_neg (show ¬ (81 ≤ op ∧ op ≤ 90) by omega), if_neg (show ¬ (106 ≤ op ∧ op ≤ 120) by omega), if_neg (show ¬ (124 ≤ op ∧ op ≤ 138) by omega)]
    have mE : twoE op a b = 6 := by
      unfold twoE
      rw [if_neg (show ¬ (70 ≤ op ∧ op ≤ 79) by omega), if_neg (show ¬ (81 ≤ op ∧ op ≤ 90) by omega), if_neg (show ¬ (106 ≤ op ∧ op ≤ 120) by omega), if_neg (show ¬ (124 ≤ op ∧ op ≤ 138) by omega)]
    rw [mN, mE]
    clear mN mE
    have g0 : (70 : Int) ≤ op := by omega
    have k0 : ¬ (op : Int) ≤ 79 := by omega
    have g1 : ¬ (81 : Int) ≤ op := by omega
    have g2 : ¬ (109 : Int) ≤ op := by omega
    have g3 : ¬ (127 : Int) ≤ op := by omega
    have g4 : ¬ (106 : Int) ≤ op := by omega
    have g5 : ¬ (124 : Int) ≤ op := by omega
    go_enter Tryz.func102, Tryz.ntmps102
    go_wp2_with fail
    go_ret2
    exact ⟨rfl, Below.refl _ _⟩
  · have mN : twoN op a b = 0 := by
      unfold twoN
      rw [if_neg (show ¬ (70 ≤ op ∧ op ≤ 79) by omega), if_neg (show ¬ (81 ≤ op ∧ op ≤ 90) by omega), if_neg (show ¬ (106 ≤ op ∧ op ≤ 120) by omega), if_neg (show ¬ (124 ≤ op ∧ op ≤ 138) by omega)]
    have mE : twoE op a b = 6 := by
      unfold twoE
      rw [if_neg (show ¬ (70 ≤ op ∧ op ≤ 79) by omega), if_neg (show ¬ (81 ≤ op ∧ op ≤ 90) by omega), if_neg (show ¬ (106 ≤ op ∧ op ≤ 120) by omega), if_neg (show ¬ (124 ≤ op ∧ op ≤ 138) by omega)]
    rw [mN, mE]
    clear mN mE
    have g0 : (70 : Int) ≤ op := by omega
    have k0 : ¬ (op : Int) ≤ 79 := by omega
    have g1 : (81 : Int) ≤ op := by omega
    have k1 : ¬ (op : Int) ≤ 90 := by omega
    have g2 : ¬ (109 : Int) ≤ op := by omega
    have g3 : ¬ (127 : Int) ≤ op := by omega
    have g4 : ¬ (106 : Int) ≤ op := by omega
    have g5 : ¬ (124 : Int) ≤ op := by omega
    go_enter Tryz.func102, Tryz.ntmps102
    go_wp2_with fail
    go_ret2
    exact ⟨rfl, Below.refl _ _⟩
  · have mN : twoN op a b = 0 := by
      unfold twoN
      rw [if_neg (show ¬ (70 ≤ op ∧ op ≤ 79) by omega), if_neg (show ¬ (81 ≤ op ∧ op ≤ 90) by omega), if_neg (show ¬ (106 ≤ op ∧ op ≤ 120) by omega), if_neg (show ¬ (124 ≤ op ∧ op ≤ 138) by omega)]
    have mE : twoE op a b = 6 := by
      unfold twoE
      rw [if_neg (show ¬ (70 ≤ op ∧ op ≤ 79) by omega), if_neg (show ¬ (81 ≤ op ∧ op ≤ 90) by omega), if_neg (show ¬ (106 ≤ op ∧ op ≤ 120) by omega), if_neg (show ¬ (124 ≤ op ∧ op ≤ 138) by omega)]
    rw [mN, mE]
    clear mN mE
    have g0 : (70 : Int) ≤ op := by omega
    have k0 : ¬ (op : Int) ≤ 79 := by omega
    have g1 : (81 : Int) ≤ op := by omega
    have k1 : ¬ (op : Int) ≤ 90 := by omega
    have g2 : (109 : Int) ≤ op := by omega
    have k2 : ¬ (op : Int) ≤ 112 := by omega
    have g3 : ¬ (127 : Int) ≤ op := by omega
    have g4 : (106 : Int) ≤ op := by omega
    have k4 : ¬ (op : Int) ≤ 120 := by omega
    have g5 : ¬ (124 : Int) ≤ op := by omega
    go_enter Tryz.func102, Tryz.ntmps102
    go_wp2_with fail
    go_ret2
    exact ⟨rfl, Below.refl _ _⟩
  · have mN : twoN op a b = 0 := by
      unfold twoN
      rw [if_neg (show ¬ (70 ≤ op ∧ op ≤ 79) by omega), if_neg (show ¬ (81 ≤ op ∧ op ≤ 90) by omega), if_neg (show ¬ (106 ≤ op ∧ op ≤ 120) by omega), if_neg (show ¬ (124 ≤ op ∧ op ≤ 138) by omega)]
    have mE : twoE op a b = 6 := by
      unfold twoE
      rw [if_neg (show ¬ (70 ≤ op ∧ op ≤ 79) by omega), if_neg (show ¬ (81 ≤ op ∧ op ≤ 90) by omega), if_neg (show ¬ (106 ≤ op ∧ op ≤ 120) by omega), if_neg (show ¬ (124 ≤ op ∧ op ≤ 138) by omega)]
    rw [mN, mE]
    clear mN mE
    have g0 : (70 : Int) ≤ op := by omega
    have k0 : ¬ (op : Int) ≤ 79 := by omega
    have g1 : (81 : Int) ≤ op := by omega
    have k1 : ¬ (op : Int) ≤ 90 := by omega
    have g2 : (109 : Int) ≤ op := by omega
    have k2 : ¬ (op : Int) ≤ 112 := by omega
    have g3 : (127 : Int) ≤ op := by omega
    have k3 : ¬ (op : Int) ≤ 130 := by omega
    have g4 : (106 : Int) ≤ op := by omega
    have k4 : ¬ (op : Int) ≤ 120 := by omega
    have g5 : (124 : Int) ≤ op := by omega
    have k5 : ¬ (op : Int) ≤ 138 := by omega
    go_enter Tryz.func102, Tryz.ntmps102
    go_wp2_with fail
    go_ret2
    exact ⟨rfl, Below.refl _ _⟩
end Go.Proofs.YtakfineljffoaaaGreatDoor
