/-
  THE REFERENCE's NumTwo. Condition: none beside the kinds of the arguments.
-/
import Derived.Test.YtomaiolhaenmhaaWbi
import Derived.Test.YtomaiolhaenmhaaWbc
namespace Go.Proofs.Ytomaiolhaenmhaa
open Go.RowKit Go.Lib

theorem rk_any {n : Nat} (a b : BitVec n) (h0 : 0 < n) (hnn : n ≤ 62 ∨ n = 64) (which : Nat) (hw : which ≤ 14) (w : World) (v u : Value) (hv : Bools w v (bl a)) (hu : Bools w u (bl b)) :
    Calls Try.prog 89 #[.int .i64 which, v, u] w fun e w' => e = .returned (.tuple #[.int .i64 (rkN which a b), .int .i64 (rkE which a b)]) ∧ Below w.heap.size w w' := by
  by_cases hz : 3 ≤ which ∧ which ≤ 6 ∧ b = 0#n
  · have e : rkE which a b = 21 := if_pos hz
    have f : rkN which a b = 0 := by unfold rkN; rw [e]; rfl
    rw [e, f]
    exact rk_none b h0 hnn hz.2.2 which (by omega) a w v u hv hu
  · by_cases h3 : which = 3
    · subst h3
      have hb : b ≠ 0#n := fun e => hz ⟨by decide, by decide, e⟩
      have h := rk_3 a b h0 hnn hb w v u hv hu
      have e : rkE 3 a b = if ovf a b = true then 22 else 0 := by unfold rkE; rw [if_neg hz]; simp
      have f : rkN 3 a b = if ovf a b = true then 0 else (a.sdiv b).toInt := by
        unfold rkN
        rw [e]
        cases ovf a b <;> rfl
      rw [e, f]
      exact h
    · have e : rkE which a b = 0 := by unfold rkE; rw [if_neg hz, if_neg (fun h => h3 h.1)]
      have f : rkN which a b = (rkV which a b).toInt := if_pos e
      rw [e, f]
      rcases (by omega : which = 0 ∨ which = 1 ∨ which = 2 ∨ which = 4 ∨ which = 5 ∨ which = 6 ∨ which = 7 ∨ which = 8 ∨ which = 9 ∨ which = 10 ∨ which = 11 ∨ which = 12 ∨ which = 13 ∨ which = 14) with rfl | rfl | rfl | rfl | rfl | rfl | rfl | rfl | rfl | rfl | rfl | rfl | rfl | rfl
      · exact rk_0 a b h0 hnn w v u hv hu
      · exact rk_1 a b h0 hnn w v u hv hu
      · exact rk_2 a b h0 hnn w v u hv hu
      · exact rk_4 a b h0 hnn (fun e => hz ⟨by decide, by decide, e⟩) w v u hv hu
      · exact rk_5 a b h0 hnn (fun e => hz ⟨by decide, by decide, e⟩) w v u hv hu
      · exact rk_6 a b h0 hnn (fun e => hz ⟨by decide, by decide, e⟩) w v u hv hu
      · exact rk_7 a b h0 hnn w v u hv hu
      · exact rk_8 a b h0 hnn w v u hv hu
      · exact rk_9 a b h0 hnn w v u hv hu
      · exact rk_10 a b h0 hnn w v u hv hu
      · exact rk_11 a b h0 hnn w v u hv hu
      · exact rk_12 a b h0 hnn w v u hv hu
      · exact rk_13 a b h0 hnn w v u hv hu
      · exact rk_14 a b h0 hnn w v u hv hu
theorem rcmp_any {n : Nat} (b c : BitVec n) (h0 : 0 < n) (hn : n ≤ 90) (which : Nat) (hw : which ≤ 9) (w : World) (v u : Value) (hv : Bools w v (bl b)) (hu : Bools w u (bl c)) :
    Calls Try.prog 87 #[.int .i64 which, v, u] w fun e w' => e = .returned (.int .i64 (tv (cmpF which b c))) ∧ Below w.heap.size w w' := by
  by_cases h : which = 2 ∨ which = 4 ∨ which = 6 ∨ which = 8
  · exact rcmp_sign b c h0 hn which h w v u hv hu
  · exact rcmp_plain b c h0 hn which (by omega) w v u hv hu

set_option maxRecDepth 100000 in
set_option maxHeartbeats 8000000 in
theorem rtwo_any (op : Nat) (hop : op < 256) (a b : Int) (w : World) :
    Calls Try.prog 30 #[.int .u8 op, .int .i64 a, .int .i64 b] w fun e w' => e = .returned (.tuple #[.int .i64 (twoN op a b), .int .i64 (twoE op a b)]) ∧ Below w.heap.size w w' := by
  have HW : ∀ n : Nat, n ≤ 64 → ∀ (x m : Int), m = n → ∀ w' : World, Calls Try.prog 88 #[.int .i64 x, .int .i64 m] w' fun e w2 => ∃ v, e = .returned v ∧ OwnB w2 w'.heap.size v (bl (BitVec.ofInt n x)) ∧ Below w'.heap.size w' w2 := by
    rintro n hn x m rfl w'
    exact wordOf_any x n hn w'
  rcases (by omega : (70 ≤ op ∧ op ≤ 79) ∨ (81 ≤ op ∧ op ≤ 90) ∨ (106 ≤ op ∧ op ≤ 120) ∨ (124 ≤ op ∧ op ≤ 138) ∨ (0 ≤ op ∧ op ≤ 69) ∨ (80 ≤ op ∧ op ≤ 80) ∨ (91 ≤ op ∧ op ≤ 105) ∨ (121 ≤ op ∧ op ≤ 123) ∨ (139 ≤ op ∧ op ≤ 255)) with hr | hr | hr | hr | hr | hr | hr | hr | hr
  · have mN : twoN op a b = tv (cmpF (op - 70) (BitVec.ofInt 32 a) (BitVec.ofInt 32 b)) := by
      unfold twoN
      rw [if_pos (show 70 ≤ op ∧ op ≤ 79 by omega)]
    have mE : twoE op a b = 0 := by
      unfold twoE
      rw [if_pos (show 70 ≤ op ∧ op ≤ 79 by omega)]
    rw [mN, mE]
    clear mN mE
    have H1 := hid (HW 32 (by decide))
    clear HW
    have HC : Hid (∀ z : Int, z = ((op - 70 : Nat) : Int) → ∀ w' v u, Bools w' v (bl (BitVec.ofInt 32 a)) → Bools w' u (bl (BitVec.ofInt 32 b)) → Calls Try.prog 87 #[.int .i64 z, v, u] w' fun e w2 => e = .returned (.int .i64 (tv (cmpF (op - 70) (BitVec.ofInt 32 a) (BitVec.ofInt 32 b)))) ∧ Below w'.heap.size w' w2) := hid (by
      rintro z rfl w' v u hv hu
      exact rcmp_any _ _ (by decide) (by decide) (op - 70) (by omega) w' v u hv hu)
    have g0 : (70 : Int) ≤ op := by omega
    have k0 : (op : Int) ≤ 79 := by omega
    have g1 : ¬ (81 : Int) ≤ op := by omega
    have g2 : ¬ (106 : Int) ≤ op := by omega
    have g3 : ¬ (124 : Int) ≤ op := by omega
    go_enter Try.func30, Try.ntmps30
    go_wp2_with fail
    refine (H1.out _ _ (by rfl) _).mono ?_
    rintro r w1 ⟨v1, rfl, ho1, hb1⟩
    have O1' := hid ho1
    have B1 := hid hb1
    clear ho1 hb1
    go_wp2_with fail
    refine (H1.out _ _ (by rfl) _).mono ?_
    rintro r w2 ⟨v2, rfl, ho2, hb2⟩
    have O2' := hid ho2
    have L1' := hid (L1.below (O1.l1 O1'.out) hb2)
    have B2 := hid (B1.out.trans (hb2.mono B1.out.size))
    clear ho2 hb2
    go_wp2_with (go_at_call 87; refine (HC.out _ (by omega) _ _ _ L1'.out (O1.l1 O2'.out)).mono ?_; rintro r w3 ⟨rfl, hb3⟩; have B3 := hid (B2.out.trans (hb3.mono B2.out.size)); clear hb3)
    go_ret2
    exact ⟨rfl, B3.out⟩
  · have mN : twoN op a b = tv (cmpF (op - 81) (BitVec.ofInt 64 a) (BitVec.ofInt 64 b)) := by
      unfold twoN
      rw [if_neg (show ¬ (70 ≤ op ∧ op ≤ 79) by omega), if_pos (show 81 ≤ op ∧ op ≤ 90 by omega)]
    have mE : twoE op a b = 0 := by
      unfold twoE
      rw [if_neg (show ¬ (70 ≤ op ∧ op ≤ 79) by omega), if_pos (show 81 ≤ op ∧ op ≤ 90 by omega)]
    rw [mN, mE]
    clear mN mE
    have H1 := hid (HW 64 (by decide))
    clear HW
    have HC : Hid (∀ z : Int, z = ((op - 81 : Nat) : Int) → ∀ w' v u, Bools w' v (bl (BitVec.ofInt 64 a)) → Bools w' u (bl (BitVec.ofInt 64 b)) → Calls Try.prog 87 #[.int .i64 z, v, u] w' fun e w2 => e = .returned (.int .i64 (tv (cmpF (op - 81) (BitVec.ofInt 64 a) (BitVec.ofInt 64 b)))) ∧ Below w'.heap.size w' w2) := hid (by
      rintro z rfl w' v u hv hu
      exact rcmp_any _ _ (by decide) (by decide) (op - 81) (by omega) w' v u hv hu)
    have g0 : (70 : Int) ≤ op := by omega
    have k0 : ¬ (op : Int) ≤ 79 := by omega
    have g1 : (81 : Int) ≤ op := by omega
    have k1 : (op : Int) ≤ 90 := by omega
    have g2 : ¬ (106 : Int) ≤ op := by omega
    have g3 : ¬ (124 : Int) ≤ op := by omega
    go_enter Try.func30, Try.ntmps30
    go_wp2_with fail
    refine (H1.out _ _ (by rfl) _).mono ?_
    rintro r w1 ⟨v1, rfl, ho1, hb1⟩
    have O1' := hid ho1
    have B1 := hid hb1
    clear ho1 hb1
    go_wp2_with fail
    refine (H1.out _ _ (by rfl) _).mono ?_
    rintro r w2 ⟨v2, rfl, ho2, hb2⟩
    have O2' := hid ho2
    have L1' := hid (L1.below (O1.l1 O1'.out) hb2)
    have B2 := hid (B1.out.trans (hb2.mono B1.out.size))
    clear ho2 hb2
    go_wp2_with (go_at_call 87; refine (HC.out _ (by omega) _ _ _ L1'.out (O1.l1 O2'.out)).mono ?_; rintro r w3 ⟨rfl, hb3⟩; have B3 := hid (B2.out.trans (hb3.mono B2.out.size)); clear hb3)
    go_ret2
    exact ⟨rfl, B3.out⟩
  · have mN : twoN op a b = rkN (op - 106) (BitVec.ofInt 32 a) (BitVec.ofInt 32 b) := by
      unfold twoN
      rw [if_neg (show ¬ (70 ≤ op ∧ op ≤ 79) by omega), if_neg (show ¬ (81 ≤ op ∧ op ≤ 90) by omega), if_pos (show 106 ≤ op ∧ op ≤ 120 by omega)]
    have mE : twoE op a b = rkE (op - 106) (BitVec.ofInt 32 a) (BitVec.ofInt 32 b) := by
      unfold twoE
      rw [if_neg (show ¬ (70 ≤ op ∧ op ≤ 79) by omega), if_neg (show ¬ (81 ≤ op ∧ op ≤ 90) by omega), if_pos (show 106 ≤ op ∧ op ≤ 120 by omega)]
    rw [mN, mE]
    clear mN mE
    have H1 := hid (HW 32 (by decide))
    clear HW
    have HC : Hid (∀ z : Int, z = ((op - 106 : Nat) : Int) → ∀ w' v u, Bools w' v (bl (BitVec.ofInt 32 a)) → Bools w' u (bl (BitVec.ofInt 32 b)) → Calls Try.prog 89 #[.int .i64 z, v, u] w' fun e w2 => e = .returned (.tuple #[.int .i64 (rkN (op - 106) (BitVec.ofInt 32 a) (BitVec.ofInt 32 b)), .int .i64 (rkE (op - 106) (BitVec.ofInt 32 a) (BitVec.ofInt 32 b))]) ∧ Below w'.heap.size w' w2) := hid (by
      rintro z rfl w' v u hv hu
      exact rk_any _ _ (by decide) (by decide) (op - 106) (by omega) w' v u hv hu)
    have g0 : (70 : Int) ≤ op := by omega
    have k0 : ¬ (op : Int) ≤ 79 := by omega
    have g1 : (81 : Int) ≤ op := by omega
    have k1 : ¬ (op : Int) ≤ 90 := by omega
    have g2 : (106 : Int) ≤ op := by omega
    have k2 : (op : Int) ≤ 120 := by omega
    have g3 : ¬ (124 : Int) ≤ op := by omega
    go_enter Try.func30, Try.ntmps30
    go_wp2_with fail
    refine (H1.out _ _ (by rfl) _).mono ?_
    rintro r w1 ⟨v1, rfl, ho1, hb1⟩
    have O1' := hid ho1
    have B1 := hid hb1
    clear ho1 hb1
    go_wp2_with fail
    refine (H1.out _ _ (by rfl) _).mono ?_
    rintro r w2 ⟨v2, rfl, ho2, hb2⟩
    have O2' := hid ho2
    have L1' := hid (L1.below (O1.l1 O1'.out) hb2)
    have B2 := hid (B1.out.trans (hb2.mono B1.out.size))
    clear ho2 hb2
    go_wp2_with (go_at_call 89; refine (HC.out _ (by omega) _ _ _ L1'.out (O1.l1 O2'.out)).mono ?_; rintro r w3 ⟨rfl, hb3⟩; have B3 := hid (B2.out.trans (hb3.mono B2.out.size)); clear hb3)
    go_ret2
    exact ⟨rfl, B3.out⟩
  · have mN : twoN op a b = rkN (op - 124) (BitVec.ofInt 64 a) (BitVec.ofInt 64 b) := by
      unfold twoN
      rw [if_neg (show ¬ (70 ≤ op ∧ op ≤ 79) by omega), if_neg (show ¬ (81 ≤ op ∧ op ≤ 90) by omega), if_neg (show ¬ (106 ≤ op ∧ op ≤ 120) by omega), if_pos (show 124 ≤ op ∧ op ≤ 138 by omega)]
    have mE : twoE op a b = rkE (op - 124) (BitVec.ofInt 64 a) (BitVec.ofInt 64 b) := by
      unfold twoE
      rw [if_neg (show ¬ (70 ≤ op ∧ op ≤ 79) by omega), if_neg (show ¬ (81 ≤ op ∧ op ≤ 90) by omega), if_neg (show ¬ (106 ≤ op ∧ op ≤ 120) by omega), if_pos (show 124 ≤ op ∧ op ≤ 138 by omega)]
    rw [mN, mE]
    clear mN mE
    have H1 := hid (HW 64 (by decide))
    clear HW
    have HC : Hid (∀ z : Int, z = ((op - 124 : Nat) : Int) → ∀ w' v u, Bools w' v (bl (BitVec.ofInt 64 a)) → Bools w' u (bl (BitVec.ofInt 64 b)) → Calls Try.prog 89 #[.int .i64 z, v, u] w' fun e w2 => e = .returned (.tuple #[.int .i64 (rkN (op - 124) (BitVec.ofInt 64 a) (BitVec.ofInt 64 b)), .int .i64 (rkE (op - 124) (BitVec.ofInt 64 a) (BitVec.ofInt 64 b))]) ∧ Below w'.heap.size w' w2) := hid (by
      rintro z rfl w' v u hv hu
      exact rk_any _ _ (by decide) (by decide) (op - 124) (by omega) w' v u hv hu)
    have g0 : (70 : Int) ≤ op := by omega
    have k0 : ¬ (op : Int) ≤ 79 := by omega
    have g1 : (81 : Int) ≤ op := by omega
    have k1 : ¬ (op : Int) ≤ 90 := by omega
    have g2 : (106 : Int) ≤ op := by omega
    have k2 : ¬ (op : Int) ≤ 120 := by omega
    have g3 : (124 : Int) ≤ op := by omega
    have k3 : (op : Int) ≤ 138 := by omega
    go_enter Try.func30, Try.ntmps30
    go_wp2_with fail
    refine (H1.out _ _ (by rfl) _).mono ?_
    rintro r w1 ⟨v1, rfl, ho1, hb1⟩
    have O1' := hid ho1
    have B1 := hid hb1
    clear ho1 hb1
    go_wp2_with fail
    refine (H1.out _ _ (by rfl) _).mono ?_
    rintro r w2 ⟨v2, rfl, ho2, hb2⟩
    have O2' := hid ho2
    have L1' := hid (L1.below (O1.l1 O1'.out) hb2)
    have B2 := hid (B1.out.trans (hb2.mono B1.out.size))
    clear ho2 hb2
    go_wp2_with (go_at_call 89; refine (HC.out _ (by omega) _ _ _ L1'.out (O1.l1 O2'.out)).mono ?_; rintro r w3 ⟨rfl, hb3⟩; have B3 := hid (B2.out.trans (hb3.mono B2.out.size)); clear hb3)
    go_ret2
    exact ⟨rfl, B3.out⟩
  · have mN : twoN op a b = 0 := by
      unfold twoN
      rw [if_neg (show ¬ (70 ≤ op ∧ op ≤ 79) by omega), if_neg (show ¬ (81 ≤ op ∧ op ≤ 90) by omega), if_neg (show ¬ (106 ≤ op ∧ op ≤ 120) by omega), if_neg (show ¬ (124 ≤ op ∧ op ≤ 138) by omega)]
    have mE : twoE op a b = 6 := by
      unfold twoE
      rw [if_neg (show ¬ (70 ≤ op ∧ op ≤ 79) by omega), if_neg (show ¬ (81 ≤ op ∧ op ≤ 90) by omega), if_neg (show ¬ (106 ≤ op ∧ op ≤ 120) by omega), if_neg (show ¬ (124 ≤ op ∧ op ≤ 138) by omega)]
    rw [mN, mE]
    clear mN mE
    clear HW
    have g0 : ¬ (70 : Int) ≤ op := by omega
    have g1 : ¬ (81 : Int) ≤ op := by omega
    have g2 : ¬ (106 : Int) ≤ op := by omega
    have g3 : ¬ (124 : Int) ≤ op := by omega
    go_enter Try.func30, Try.ntmps30
    go_wp2_with fail
    go_ret2
    exact ⟨rfl, Below.refl _ _⟩
  · have mN : twoN op a b = 0 := by
      unfold twoN
      rw [if_neg (show ¬ (70 ≤ op ∧ op ≤ 79) by omega), if_neg (show ¬ (81 ≤ op ∧ op ≤ 90) by omega), if_neg (show ¬ (106 ≤ op ∧ op ≤ 120) by omega), if_neg (show ¬ (124 ≤ op ∧ op ≤ 138) by omega)]
    have mE : twoE op a b = 6 := by
      unfold twoE
      rw [if_neg (show ¬ (70 ≤ op ∧ op ≤ 79) by omega), if_neg (show ¬ (81 ≤ op ∧ op ≤ 90) by omega), if_neg (show ¬ (106 ≤ op ∧ op ≤ 120) by omega), if_neg (show ¬ (124 ≤ op ∧ op ≤ 138) by omega)]
    rw [mN, mE]
    clear mN mE
    clear HW
    have g0 : (70 : Int) ≤ op := by omega
    have k0 : ¬ (op : Int) ≤ 79 := by omega
    have g1 : ¬ (81 : Int) ≤ op := by omega
    have g2 : ¬ (106 : Int) ≤ op := by omega
    have g3 : ¬ (124 : Int) ≤ op := by omega
    go_enter Try.func30, Try.ntmps30
    go_wp2_with fail
    go_ret2
    exact ⟨rfl, Below.refl _ _⟩
  · have mN : twoN op a b = 0 := by
      unfold twoN
      rw [if_neg (show ¬ (70 ≤ op ∧ op ≤ 79) by omega), if_neg (show ¬ (81 ≤ op ∧ op ≤ 90) by omega), if_neg (show ¬ (106 ≤ op ∧ op ≤ 120) by omega), if_neg (show ¬ (124 ≤ op ∧ op ≤ 138) by omega)]
    have mE : twoE op a b = 6 := by
      unfold twoE
      rw [if_neg (show ¬ (70 ≤ op ∧ op ≤ 79) by omega), if_neg (show ¬ (81 ≤ op ∧ op ≤ 90) by omega), if_neg (show ¬ (106 ≤ op ∧ op ≤ 120) by omega), if_neg (show ¬ (124 ≤ op ∧ op ≤ 138) by omega)]
    rw [mN, mE]
    clear mN mE
    clear HW
    have g0 : (70 : Int) ≤ op := by omega
    have k0 : ¬ (op : Int) ≤ 79 := by omega
    have g1 : (81 : Int) ≤ op := by omega
    have k1 : ¬ (op : Int) ≤ 90 := by omega
    have g2 : ¬ (106 : Int) ≤ op := by omega
    have g3 : ¬ (124 : Int) ≤ op := by omega
    go_enter Try.func30, Try.ntmps30
    go_wp2_with fail
    go_ret2
    exact ⟨rfl, Below.refl _ _⟩
  · have mN : twoN op a b = 0 := by
      unfold twoN
      rw [if_neg (show ¬ (70 ≤ op ∧ op ≤ 79) by omega), if_neg (show ¬ (81 ≤ op ∧ op ≤ 90) by omega), if_neg (show ¬ (106 ≤ op ∧ op ≤ 120) by omega), if_neg (show ¬ (124 ≤ op ∧ op ≤ 138) by omega)]
    have mE : twoE op a b = 6 := by
      unfold twoE
      rw [if_neg (show ¬ (70 ≤ op ∧ op ≤ 79) by omega), if_neg (show ¬ (81 ≤ op ∧ op ≤ 90) by omega), if_neg (show ¬ (106 ≤ op ∧ op ≤ 120) by omega), if_neg (show ¬ (124 ≤ op ∧ op ≤ 138) by omega)]
    rw [mN, mE]
    clear mN mE
    clear HW
    have g0 : (70 : Int) ≤ op := by omega
    have k0 : ¬ (op : Int) ≤ 79 := by omega
    have g1 : (81 : Int) ≤ op := by omega
    have k1 : ¬ (op : Int) ≤ 90 := by omega
    have g2 : (106 : Int) ≤ op := by omega
    have k2 : ¬ (op : Int) ≤ 120 := by omega
    have g3 : ¬ (124 : Int) ≤ op := by omega
    go_enter Try.func30, Try.ntmps30
    go_wp2_with fail
    go_ret2
    exact ⟨rfl, Below.refl _ _⟩
  · have mN : twoN op a b = 0 := by
      unfold twoN
      rw [if_neg (show ¬ (70 ≤ op ∧ op ≤ 79) by omega), if_neg (show ¬ (81 ≤ op ∧ op ≤ 90) by omega), if_neg (show ¬ (106 ≤ op ∧ op ≤ 120) by omega), if_neg (show ¬ (124 ≤ op ∧ op ≤ 138) by omega)]
    have mE : twoE op a b = 6 := by
      unfold twoE
      rw [if_neg (show ¬ (70 ≤ op ∧ op ≤ 79) by omega), if_neg (show ¬ (81 ≤ op ∧ op ≤ 90) by omega), if_neg (show ¬ (106 ≤ op ∧ op ≤ 120) by omega), if_neg (show ¬ (124 ≤ op ∧ op ≤ 138) by omega)]
    rw [mN, mE]
    clear mN mE
    clear HW
    have g0 : (70 : Int) ≤ op := by omega
    have k0 : ¬ (op : Int) ≤ 79 := by omega
    have g1 : (81 : Int) ≤ op := by omega
    have k1 : ¬ (op : Int) ≤ 90 := by omega
    have g2 : (106 : Int) ≤ op := by omega
    have k2 : ¬ (op : Int) ≤ 120 := by omega
    have g3 : (124 : Int) ≤ op := by omega
    have k3 : ¬ (op : Int) ≤ 138 := by omega
    go_enter Try.func30, Try.ntmps30
    go_wp2_with fail
    go_ret2
    exact ⟨rfl, Below.refl _ _⟩
end Go.Proofs.Ytomaiolhaenmhaa
