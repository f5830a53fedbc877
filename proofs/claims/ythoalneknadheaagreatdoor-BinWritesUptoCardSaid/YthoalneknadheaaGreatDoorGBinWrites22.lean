/-
  INSTRUCTIONS: the reference's InsCheck, some kinds. Conditions: the number is a byte; the variable of the library that strings.Contains reads holds some number.
-/
import Derived.Test.YthoalneknadheaaGreatDoorGBinWrites20
namespace Go.Proofs.YthoalneknadheaaGreatDoor
open Go.RowKit Go.Lib
attribute [local go_sem ↓] Go.wp_at_zero Go.wp_at_succ

set_option maxRecDepth 100000 in
set_option maxHeartbeats 8000000 in
theorem rchk_3 (op : Nat) (hop : op < 256) (hk : tB op = 3) (A B : Int) (xs : List Int) (v : Value) (w : World) (hM : MaxL w) (hx : Ints w .i64 v xs) :
  Calls Tryz.prog 161 #[insV op A B v] w fun e w' => e = .returned (.int .i64 (chkI 3 A B xs)) ∧ Below w.heap.size w w' := by
 have hA0 : Below w.heap.size w (w.alloc (.cells #[.int .u8 op, .int .i64 A, .int .i64 B, v] 162)) := (Below.refl _ _).alloc (Nat.le_refl _) _
 have hblk := Blk.new w #[.int .u8 op, .int .i64 A, .int .i64 B, v] 162 _ rfl
 have HBS := hid (rbeside_any op hop (w.alloc (.cells #[.int .u8 op, .int .i64 A, .int .i64 B, v] 162)) (hM.below hA0))
 rw [hk, show S (sdL 3) = ⟨#[97]⟩ from rfl] at HBS
 have HI := hid (fun n w' => wide_any n w')
 have HCA := hid (fun w' => Tryz.strings_ContainsAny_laid ⟨#[97]⟩ ⟨#[97, 116]⟩ w' (by decide) (by decide) (ascii_of _ (by decide)) (ascii_of _ (by decide)))
 rw [show Lib.containsAny (ByteArray.data ⟨#[97]⟩).toList (ByteArray.data ⟨#[97, 116]⟩).toList = true from by decide] at HCA
 have HA := hid hA0
 have HX := hid (qHX hx op A B v 162)
 have HC := hid (qHC hblk)
 obtain ⟨ao, cap, rfl, _⟩ := id hx
 clear hx hA0 hblk hk hM
 generalize hn : xs.length = n at *
 have HN := hid hn
 clear hn
 by_cases h16 : 16 < n
 ·have g16 : (16 : Int) < n := by omega
  have hres := hid (show chkI 3 A B xs = 2 from chk_large (by decide) (by rw [HN.out]; exact h16))
  go_enter Tryz.func161, Tryz.ntmps161
  go_wp2_with (first | (go_at_call 162; refine HBS.out.mono ?_; rintro r w1 ⟨rfl, hb1⟩; have c0 := HC.out _ hb1; have hx1 := HX.out _ hb1; have B1 := hid (HA.out.trans (hb1.mono HA.out.size)); have HB1 := hid hb1; obtain ⟨y0, y1, y2, y3⟩ := c0; have HX1 := hid hx1; clear hb1 hx1))
  go_ret
  exact ⟨ret1 (by first | (rw [hres.out]; done) | (rw [hres.out]; rfl)), B1.out⟩
 have g16 : ¬ (16 : Int) < n := by omega
 have H16 := hid (show ¬ 16 < xs.length by rw [HN.out]; exact h16)
 cases hz : isIx A
 ·have HIA := hid (fun w' => wide_any A w')
  rw [hz] at HIA
  by_cases hzb : B = 0
  ·subst hzb
   by_cases hl : 0 < n
   ·have gl : (0 : Int) < n := by omega
    have HOT := hid (show (false && xs.all isIx) = okT 3 xs from by unfold okT; rw [if_neg (by decide), decide_eq_false (by rw [HN.out]; omega)]; rfl)
    have HGA := hid (show okA 3 A = false from by unfold okA; rw [if_neg (by decide), if_neg (by decide), if_neg (by decide), if_neg (by decide)]; exact hz)
    have HGB := hid (show okB 3 0 = true from by rfl)
    go_enter Tryz.func161, Tryz.ntmps161
    go_wp2_with (first | (go_at_call 162; refine HBS.out.mono ?_; rintro r w1 ⟨rfl, hb1⟩; have c0 := HC.out _ hb1; have hx1 := HX.out _ hb1; have B1 := hid (HA.out.trans (hb1.mono HA.out.size)); have HB1 := hid hb1; obtain ⟨y0, y1, y2, y3⟩ := c0; have HX1 := hid hx1; clear hb1 hx1) | (go_at_call 170; refine (HCA.out _).mono ?_; rintro r w2 ⟨rfl, hb2⟩; have c2 := HC.out _ (HB1.out.trans (hb2.mono HB1.out.size)); have hx2 := HX.out _ (HB1.out.trans (hb2.mono HB1.out.size)); have B2 := hid (B1.out.trans (hb2.mono B1.out.size)); obtain ⟨z0, z1, z2, z3⟩ := c2; have HX2 := hid hx2; clear hb2 hx2) | (go_at_call 169; with_reducible refine (HIA.out _).mono ?_; rintro r w3 ⟨rfl, rfl⟩))
    go_loop [79, 7] (fun i gg => ∃ (j : Nat) (G : Bool), j ≤ n ∧ i = .int .i64 j ∧ gg = .bool G ∧ Hid (G = !(false && (xs.take j).all isIx))) (fun i _ => n - (RowKit.intOf i).toNat)
    case atStart => exact ⟨0, !false, Nat.zero_le _, rfl, rfl, hid (by simp)⟩
    case round =>
     obtain ⟨j, G, hj, rfl, rfl, hG⟩ := hrel
     by_cases hlt0 : j < n
     ·have hlt : j < xs.length := by rw [HN.out]; exact hlt0
      have hltI : (j : Int) < n := by omega
      have hnx := all_take_next xs j hlt
      rcases L1.open HX2.out with ⟨_, _, _, e, _⟩ | ⟨lb, lo, cap', hv, _, _, _, hc⟩
      ·rw [e] at hlt; simp at hlt
      simp only [Value.slice.injEq] at hv
      obtain ⟨rfl, hnn, rfl⟩ := hv
      clear hnn
      have ha := hc j hlt
      generalize xs[j] = m at *
      have HNX := hid hnx
      clear hc hnx hlt
      cases hGb : G
      ·have HG2 := hid (show (!isIx m) = !(false && (xs.take (j + 1)).all isIx) by
        have h9 := hG.out; rw [hGb] at h9; rw [HNX.out]; revert h9; cases (xs.take j).all isIx <;> cases isIx m <;> simp)
       clear hGb hG
       go_wp2_with (go_at_call 169; refine (HI.out _ _).mono ?_; rintro r w2 ⟨rfl, rfl⟩)
       go_round
       case rel => exact ⟨j + 1, !isIx m, by omega, by go_num, rfl, HG2⟩
       case measure => simp [RowKit.intOf]; omega
      ·have HG2 := hid (show true = !(false && (xs.take (j + 1)).all isIx) by
        have h9 := hG.out; rw [hGb] at h9; rw [HNX.out]; revert h9; cases (xs.take j).all isIx <;> cases isIx m <;> simp)
       clear hGb hG
       go_wp2_with (go_at_call 169; refine (HI.out _ _).mono ?_; rintro r w2 ⟨rfl, rfl⟩)
       go_round
       case rel => exact ⟨j + 1, true, by omega, by go_num, rfl, HG2⟩
       case measure => simp [RowKit.intOf]; omega
     ·obtain rfl : j = n := by omega
      have hfin := hG.out
      rw [← HN.out, List.take_length, HOT.out] at hfin
      have hres := hid (chk_end 3 A 0 xs (by decide) H16.out false true (!G) HGA.out HGB.out (by rw [hfin, Bool.not_not]))
      clear hfin hG
      cases G
      ·go_wp2_with fail
       go_ret
       exact ⟨ret1 (by first | (rw [hres.out]; done) | (rw [hres.out]; rfl)), B2.out⟩
      ·go_wp2_with fail
       go_ret
       exact ⟨ret1 (by first | (rw [hres.out]; done) | (rw [hres.out]; rfl)), B2.out⟩
   ·have gl : ¬ (0 : Int) < n := by omega
    have HOT := hid (show (true && xs.all isIx) = okT 3 xs from by rw [show xs = [] from List.eq_nil_of_length_eq_zero (by rw [HN.out]; omega)]; rfl)
    have HGA := hid (show okA 3 A = false from by unfold okA; rw [if_neg (by decide), if_neg (by decide), if_neg (by decide), if_neg (by decide)]; exact hz)
    have HGB := hid (show okB 3 0 = true from by rfl)
    go_enter Tryz.func161, Tryz.ntmps161
    go_wp2_with (first | (go_at_call 162; refine HBS.out.mono ?_; rintro r w1 ⟨rfl, hb1⟩; have c0 := HC.out _ hb1; have hx1 := HX.out _ hb1; have B1 := hid (HA.out.trans (hb1.mono HA.out.size)); have HB1 := hid hb1; obtain ⟨y0, y1, y2, y3⟩ := c0; have HX1 := hid hx1; clear hb1 hx1) | (go_at_call 170; refine (HCA.out _).mono ?_; rintro r w2 ⟨rfl, hb2⟩; have c2 := HC.out _ (HB1.out.trans (hb2.mono HB1.out.size)); have hx2 := HX.out _ (HB1.out.trans (hb2.mono HB1.out.size)); have B2 := hid (B1.out.trans (hb2.mono B1.out.size)); obtain ⟨z0, z1, z2, z3⟩ := c2; have HX2 := hid hx2; clear hb2 hx2) | (go_at_call 169; with_reducible refine (HIA.out _).mono ?_; rintro r w3 ⟨rfl, rfl⟩))
    go_loop [79, 7] (fun i gg => ∃ (j : Nat) (G : Bool), j ≤ n ∧ i = .int .i64 j ∧ gg = .bool G ∧ Hid (G = !(true && (xs.take j).all isIx))) (fun i _ => n - (RowKit.intOf i).toNat)
    case atStart => exact ⟨0, !true, Nat.zero_le _, rfl, rfl, hid (by simp)⟩
    case round =>
     obtain ⟨j, G, hj, rfl, rfl, hG⟩ := hrel
     by_cases hlt0 : j < n
     ·exfalso; omega
     ·obtain rfl : j = n := by omega
      have hfin := hG.out
      rw [← HN.out, List.take_length, HOT.out] at hfin
      have hres := hid (chk_end 3 A 0 xs (by decide) H16.out false true (!G) HGA.out HGB.out (by rw [hfin, Bool.not_not]))
      clear hfin hG
      cases G
      ·go_wp2_with fail
       go_ret
       exact ⟨ret1 (by first | (rw [hres.out]; done) | (rw [hres.out]; rfl)), B2.out⟩
      ·go_wp2_with fail
       go_ret
       exact ⟨ret1 (by first | (rw [hres.out]; done) | (rw [hres.out]; rfl)), B2.out⟩
  ·have hzb2 : (B != 0) = true := by simpa using hzb
   by_cases hl : 0 < n
   ·have gl : (0 : Int) < n := by omega
    have HOT := hid (show (false && xs.all isIx) = okT 3 xs from by unfold okT; rw [if_neg (by decide), decide_eq_false (by rw [HN.out]; omega)]; rfl)
    have HGA := hid (show okA 3 A = false from by unfold okA; rw [if_neg (by decide), if_neg (by decide), if_neg (by decide), if_neg (by decide)]; exact hz)
    have HGB := hid (show okB 3 B = false from by simp [okB, hzb])
    go_enter Tryz.func161, Tryz.ntmps161
    go_wp2_with (first | (go_at_call 162; refine HBS.out.mono ?_; rintro r w1 ⟨rfl, hb1⟩; have c0 := HC.out _ hb1; have hx1 := HX.out _ hb1; have B1 := hid (HA.out.trans (hb1.mono HA.out.size)); have HB1 := hid hb1; obtain ⟨y0, y1, y2, y3⟩ := c0; have HX1 := hid hx1; clear hb1 hx1) | (go_at_call 170; refine (HCA.out _).mono ?_; rintro r w2 ⟨rfl, hb2⟩; have c2 := HC.out _ (HB1.out.trans (hb2.mono HB1.out.size)); have hx2 := HX.out _ (HB1.out.trans (hb2.mono HB1.out.size)); have B2 := hid (B1.out.trans (hb2.mono B1.out.size)); obtain ⟨z0, z1, z2, z3⟩ := c2; have HX2 := hid hx2; clear hb2 hx2) | (go_at_call 169; with_reducible refine (HIA.out _).mono ?_; rintro r w3 ⟨rfl, rfl⟩))
    go_loop [79, 7] (fun i gg => ∃ (j : Nat) (G : Bool), j ≤ n ∧ i = .int .i64 j ∧ gg = .bool G ∧ Hid (G = !(false && (xs.take j).all isIx))) (fun i _ => n - (RowKit.intOf i).toNat)
    case atStart => exact ⟨0, !false, Nat.zero_le _, rfl, rfl, hid (by simp)⟩
    case round =>
     obtain ⟨j, G, hj, rfl, rfl, hG⟩ := hrel
     by_cases hlt0 : j < n
     ·have hlt : j < xs.length := by rw [HN.out]; exact hlt0
      have hltI : (j : Int) < n := by omega
      have hnx := all_take_next xs j hlt
      rcases L1.open HX2.out with ⟨_, _, _, e, _⟩ | ⟨lb, lo, cap', hv, _, _, _, hc⟩
      ·rw [e] at hlt; simp at hlt
      simp only [Value.slice.injEq] at hv
      obtain ⟨rfl, hnn, rfl⟩ := hv
      clear hnn
      have ha := hc j hlt
      generalize xs[j] = m at *
      have HNX := hid hnx
      clear hc hnx hlt
      cases hGb : G
      ·have HG2 := hid (show (!isIx m) = !(false && (xs.take (j + 1)).all isIx) by
        have h9 := hG.out; rw [hGb] at h9; rw [HNX.out]; revert h9; cases (xs.take j).all isIx <;> cases isIx m <;> simp)
       clear hGb hG
       go_wp2_with (go_at_call 169; refine (HI.out _ _).mono ?_; rintro r w2 ⟨rfl, rfl⟩)
       go_round
       case rel => exact ⟨j + 1, !isIx m, by omega, by go_num, rfl, HG2⟩
       case measure => simp [RowKit.intOf]; omega
      ·have HG2 := hid (show true = !(false && (xs.take (j + 1)).all isIx) by
        have h9 := hG.out; rw [hGb] at h9; rw [HNX.out]; revert h9; cases (xs.take j).all isIx <;> cases isIx m <;> simp)
       clear hGb hG
       go_wp2_with (go_at_call 169; refine (HI.out _ _).mono ?_; rintro r w2 ⟨rfl, rfl⟩)
       go_round
       case rel => exact ⟨j + 1, true, by omega, by go_num, rfl, HG2⟩
       case measure => simp [RowKit.intOf]; omega
     ·obtain rfl : j = n := by omega
      have hfin := hG.out
      rw [← HN.out, List.take_length, HOT.out] at hfin
      have hres := hid (chk_end 3 A B xs (by decide) H16.out false false (!G) HGA.out HGB.out (by rw [hfin, Bool.not_not]))
      clear hfin hG
      cases G
      ·go_wp2_with fail
       go_ret
       exact ⟨ret1 (by first | (rw [hres.out]; done) | (rw [hres.out]; rfl)), B2.out⟩
      ·go_wp2_with fail
       go_ret
       exact ⟨ret1 (by first | (rw [hres.out]; done) | (rw [hres.out]; rfl)), B2.out⟩
   ·have gl : ¬ (0 : Int) < n := by omega
    have HOT := hid (show (true && xs.all isIx) = okT 3 xs from by rw [show xs = [] from List.eq_nil_of_length_eq_zero (by rw [HN.out]; omega)]; rfl)
    have HGA := hid (show okA 3 A = false from by unfold okA; rw [if_neg (by decide), if_neg (by decide), if_neg (by decide), if_neg (by decide)]; exact hz)
    have HGB := hid (show okB 3 B = false from by simp [okB, hzb])
    go_enter Tryz.func161, Tryz.ntmps161
    go_wp2_with (first | (go_at_call 162; refine HBS.out.mono ?_; rintro r w1 ⟨rfl, hb1⟩; have c0 := HC.out _ hb1; have hx1 := HX.out _ hb1; have B1 := hid (HA.out.trans (hb1.mono HA.out.size)); have HB1 := hid hb1; obtain ⟨y0, y1, y2, y3⟩ := c0; have HX1 := hid hx1; clear hb1 hx1) | (go_at_call 170; refine (HCA.out _).mono ?_; rintro r w2 ⟨rfl, hb2⟩; have c2 := HC.out _ (HB1.out.trans (hb2.mono HB1.out.size)); have hx2 := HX.out _ (HB1.out.trans (hb2.mono HB1.out.size)); have B2 := hid (B1.out.trans (hb2.mono B1.out.size)); obtain ⟨z0, z1, z2, z3⟩ := c2; have HX2 := hid hx2; clear hb2 hx2) | (go_at_call 169; with_reducible refine (HIA.out _).mono ?_; rintro r w3 ⟨rfl, rfl⟩))
    go_loop [79, 7] (fun i gg => ∃ (j : Nat) (G : Bool), j ≤ n ∧ i = .int .i64 j ∧ gg = .bool G ∧ Hid (G = !(true && (xs.take j).all isIx))) (fun i _ => n - (RowKit.intOf i).toNat)
    case atStart => exact ⟨0, !true, Nat.zero_le _, rfl, rfl, hid (by simp)⟩
    case round =>
     obtain ⟨j, G, hj, rfl, rfl, hG⟩ := hrel
     by_cases hlt0 : j < n
     ·exfalso; omega
     ·obtain rfl : j = n := by omega
      have hfin := hG.out
      rw [← HN.out, List.take_length, HOT.out] at hfin
      have hres := hid (chk_end 3 A B xs (by decide) H16.out false false (!G) HGA.out HGB.out (by rw [hfin, Bool.not_not]))
      clear hfin hG
      cases G
      ·go_wp2_with fail
       go_ret
       exact ⟨ret1 (by first | (rw [hres.out]; done) | (rw [hres.out]; rfl)), B2.out⟩
      ·go_wp2_with fail
       go_ret
       exact ⟨ret1 (by first | (rw [hres.out]; done) | (rw [hres.out]; rfl)), B2.out⟩
 ·have HIA := hid (fun w' => wide_any A w')
  rw [hz] at HIA
  by_cases hzb : B = 0
  ·subst hzb
   by_cases hl : 0 < n
   ·have gl : (0 : Int) < n := by omega
    have HOT := hid (show (false && xs.all isIx) = okT 3 xs from by unfold okT; rw [if_neg (by decide), decide_eq_false (by rw [HN.out]; omega)]; rfl)
    have HGA := hid (show okA 3 A = true from by unfold okA; rw [if_neg (by decide), if_neg (by decide), if_neg (by decide), if_neg (by decide)]; exact hz)
    have HGB := hid (show okB 3 0 = true from by rfl)
    go_enter Tryz.func161, Tryz.ntmps161
    go_wp2_with (first | (go_at_call 162; refine HBS.out.mono ?_; rintro r w1 ⟨rfl, hb1⟩; have c0 := HC.out _ hb1; have hx1 := HX.out _ hb1; have B1 := hid (HA.out.trans (hb1.mono HA.out.size)); have HB1 := hid hb1; obtain ⟨y0, y1, y2, y3⟩ := c0; have HX1 := hid hx1; clear hb1 hx1) | (go_at_call 170; refine (HCA.out _).mono ?_; rintro r w2 ⟨rfl, hb2⟩; have c2 := HC.out _ (HB1.out.trans (hb2.mono HB1.out.size)); have hx2 := HX.out _ (HB1.out.trans (hb2.mono HB1.out.size)); have B2 := hid (B1.out.trans (hb2.mono B1.out.size)); obtain ⟨z0, z1, z2, z3⟩ := c2; have HX2 := hid hx2; clear hb2 hx2) | (go_at_call 169; with_reducible refine (HIA.out _).mono ?_; rintro r w3 ⟨rfl, rfl⟩))
    go_loop [79, 7] (fun i gg => ∃ (j : Nat) (G : Bool), j ≤ n ∧ i = .int .i64 j ∧ gg = .bool G ∧ Hid (G = !(false && (xs.take j).all isIx))) (fun i _ => n - (RowKit.intOf i).toNat)
    case atStart => exact ⟨0, !false, Nat.zero_le _, rfl, rfl, hid (by simp)⟩
    case round =>
     obtain ⟨j, G, hj, rfl, rfl, hG⟩ := hrel
     by_cases hlt0 : j < n
     ·have hlt : j < xs.length := by rw [HN.out]; exact hlt0
      have hltI : (j : Int) < n := by omega
      have hnx := all_take_next xs j hlt
      rcases L1.open HX2.out with ⟨_, _, _, e, _⟩ | ⟨lb, lo, cap', hv, _, _, _, hc⟩
      ·rw [e] at hlt; simp at hlt
      simp only [Value.slice.injEq] at hv
      obtain ⟨rfl, hnn, rfl⟩ := hv
      clear hnn
      have ha := hc j hlt
      generalize xs[j] = m at *
      have HNX := hid hnx
      clear hc hnx hlt
      cases hGb : G
      ·have HG2 := hid (show (!isIx m) = !(false && (xs.take (j + 1)).all isIx) by
        have h9 := hG.out; rw [hGb] at h9; rw [HNX.out]; revert h9; cases (xs.take j).all isIx <;> cases isIx m <;> simp)
       clear hGb hG
       go_wp2_with (go_at_call 169; refine (HI.out _ _).mono ?_; rintro r w2 ⟨rfl, rfl⟩)
       go_round
       case rel => exact ⟨j + 1, !isIx m, by omega, by go_num, rfl, HG2⟩
       case measure => simp [RowKit.intOf]; omega
      ·have HG2 := hid (show true = !(false && (xs.take (j + 1)).all isIx) by
        have h9 := hG.out; rw [hGb] at h9; rw [HNX.out]; revert h9; cases (xs.take j).all isIx <;> cases isIx m <;> simp)
       clear hGb hG
       go_wp2_with (go_at_call 169; refine (HI.out _ _).mono ?_; rintro r w2 ⟨rfl, rfl⟩)
       go_round
       case rel => exact ⟨j + 1, true, by omega, by go_num, rfl, HG2⟩
       case measure => simp [RowKit.intOf]; omega
     ·obtain rfl : j = n := by omega
      have hfin := hG.out
      rw [← HN.out, List.take_length, HOT.out] at hfin
      have hres := hid (chk_end 3 A 0 xs (by decide) H16.out true true (!G) HGA.out HGB.out (by rw [hfin, Bool.not_not]))
      clear hfin hG
      cases G
      ·go_wp2_with fail
       go_ret
       exact ⟨ret1 (by first | (rw [hres.out]; done) | (rw [hres.out]; rfl)), B2.out⟩
      ·go_wp2_with fail
       go_ret
       exact ⟨ret1 (by first | (rw [hres.out]; done) | (rw [hres.out]; rfl)), B2.out⟩
   ·have gl : ¬ (0 : Int) < n := by omega
    have HOT := hid (show (true && xs.all isIx) = okT 3 xs from by rw [show xs = [] from List.eq_nil_of_length_eq_zero (by rw [HN.out]; omega)]; rfl)
    have HGA := hid (show okA 3 A = true from by unfold okA; rw [if_neg (by decide), if_neg (by decide), if_neg (by decide), if_neg (by decide)]; exact hz)
    have HGB := hid (show okB 3 0 = true from by rfl)
    go_enter Tryz.func161, Tryz.ntmps161
    go_wp2_with (first | (go_at_call 162; refine HBS.out.mono ?_; rintro r w1 ⟨rfl, hb1⟩; have c0 := HC.out _ hb1; have hx1 := HX.out _ hb1; have B1 := hid (HA.out.trans (hb1.mono HA.out.size)); have HB1 := hid hb1; obtain ⟨y0, y1, y2, y3⟩ := c0; have HX1 := hid hx1; clear hb1 hx1) | (go_at_call 170; refine (HCA.out _).mono ?_; rintro r w2 ⟨rfl, hb2⟩; have c2 := HC.out _ (HB1.out.trans (hb2.mono HB1.out.size)); have hx2 := HX.out _ (HB1.out.trans (hb2.mono HB1.out.size)); have B2 := hid (B1.out.trans (hb2.mono B1.out.size)); obtain ⟨z0, z1, z2, z3⟩ := c2; have HX2 := hid hx2; clear hb2 hx2) | (go_at_call 169; with_reducible refine (HIA.out _).mono ?_; rintro r w3 ⟨rfl, rfl⟩))
    go_loop [79, 7] (fun i gg => ∃ (j : Nat) (G : Bool), j ≤ n ∧ i = .int .i64 j ∧ gg = .bool G ∧ Hid (G = !(true && (xs.take j).all isIx))) (fun i _ => n - (RowKit.intOf i).toNat)
    case atStart => exact ⟨0, !true, Nat.zero_le _, rfl, rfl, hid (by simp)⟩
    case round =>
     obtain ⟨j, G, hj, rfl, rfl, hG⟩ := hrel
     by_cases hlt0 : j < n
     ·exfalso; omega
     ·obtain rfl : j = n := by omega
      have hfin := hG.out
      rw [← HN.out, List.take_length, HOT.out] at hfin
      have hres := hid (chk_end 3 A 0 xs (by decide) H16.out true true (!G) HGA.out HGB.out (by rw [hfin, Bool.not_not]))
      clear hfin hG
      cases G
      ·go_wp2_with fail
       go_ret
       exact ⟨ret1 (by first | (rw [hres.out]; done) | (rw [hres.out]; rfl)), B2.out⟩
      ·go_wp2_with fail
       go_ret
       exact ⟨ret1 (by first | (rw [hres.out]; done) | (rw [hres.out]; rfl)), B2.out⟩
  ·have hzb2 : (B != 0) = true := by simpa using hzb
   by_cases hl : 0 < n
   ·have gl : (0 : Int) < n := by omega
    have HOT := hid (show (false && xs.all isIx) = okT 3 xs from by unfold okT; rw [if_neg (by decide), decide_eq_false (by rw [HN.out]; omega)]; rfl)
    have HGA := hid (show okA 3 A = true from by unfold okA; rw [if_neg (by decide), if_neg (by decide), if_neg (by decide), if_neg (by decide)]; exact hz)
    have HGB := hid (show okB 3 B = false from by simp [okB, hzb])
    go_enter Tryz.func161, Tryz.ntmps161
    go_wp2_with (first | (go_at_call 162; refine HBS.out.mono ?_; rintro r w1 ⟨rfl, hb1⟩; have c0 := HC.out _ hb1; have hx1 := HX.out _ hb1; have B1 := hid (HA.out.trans (hb1.mono HA.out.size)); have HB1 := hid hb1; obtain ⟨y0, y1, y2, y3⟩ := c0; have HX1 := hid hx1; clear hb1 hx1) | (go_at_call 170; refine (HCA.out _).mono ?_; rintro r w2 ⟨rfl, hb2⟩; have c2 := HC.out _ (HB1.out.trans (hb2.mono HB1.out.size)); have hx2 := HX.out _ (HB1.out.trans (hb2.mono HB1.out.size)); have B2 := hid (B1.out.trans (hb2.mono B1.out.size)); obtain ⟨z0, z1, z2, z3⟩ := c2; have HX2 := hid hx2; clear hb2 hx2) | (go_at_call 169; with_reducible refine (HIA.out _).mono ?_; rintro r w3 ⟨rfl, rfl⟩))
    go_loop [79, 7] (fun i gg => ∃ (j : Nat) (G : Bool), j ≤ n ∧ i = .int .i64 j ∧ gg = .bool G ∧ Hid (G = !(false && (xs.take j).all isIx))) (fun i _ => n - (RowKit.intOf i).toNat)
    case atStart => exact ⟨0, !false, Nat.zero_le _, rfl, rfl, hid (by simp)⟩
    case round =>
     obtain ⟨j, G, hj, rfl, rfl, hG⟩ := hrel
     by_cases hlt0 : j < n
     ·have hlt : j < xs.length := by rw [HN.out]; exact hlt0
      have hltI : (j : Int) < n := by omega
      have hnx := all_take_next xs j hlt
      rcases L1.open HX2.out with ⟨_, _, _, e, _⟩ | ⟨lb, lo, cap', hv, _, _, _, hc⟩
      ·rw [e] at hlt; simp at hlt
      simp only [Value.slice.injEq] at hv
      obtain ⟨rfl, hnn, rfl⟩ := hv
      clear hnn
      have ha := hc j hlt
      generalize xs[j] = m at *
      have HNX := hid hnx
      clear hc hnx hlt
      cases hGb : G
      ·have HG2 := hid (show (!isIx m) = !(false && (xs.take (j + 1)).all isIx) by
        have h9 := hG.out; rw [hGb] at h9; rw [HNX.out]; revert h9; cases (xs.take j).all isIx <;> cases isIx m <;> simp)
       clear hGb hG
       go_wp2_with (go_at_call 169; refine (HI.out _ _).mono ?_; rintro r w2 ⟨rfl, rfl⟩)
       go_round
       case rel => exact ⟨j + 1, !isIx m, by omega, by go_num, rfl, HG2⟩
       case measure => simp [RowKit.intOf]; omega
      ·have HG2 := hid (show true = !(false && (xs.take (j + 1)).all isIx) by
        have h9 := hG.out; rw [hGb] at h9; rw [HNX.out]; revert h9; cases (xs.take j).all isIx <;> cases isIx m <;> simp)
       clear hGb hG
       go_wp2_with (go_at_call 169; refine (HI.out _ _).mono ?_; rintro r w2 ⟨rfl, rfl⟩)
       go_round
       case rel => exact ⟨j + 1, true, by omega, by go_num, rfl, HG2⟩
       case measure => simp [RowKit.intOf]; omega
     ·obtain rfl : j = n := by omega
      have hfin := hG.out
      rw [← HN.out, List.take_length, HOT.out] at hfin
      have hres := hid (chk_end 3 A B xs (by decide) H16.out true false (!G) HGA.out HGB.out (by rw [hfin, Bool.not_not]))
      clear hfin hG
      cases G
      ·go_wp2_with fail
       go_ret
       exact ⟨ret1 (by first | (rw [hres.out]; done) | (rw [hres.out]; rfl)), B2.out⟩
      ·go_wp2_with fail
       go_ret
       exact ⟨ret1 (by first | (rw [hres.out]; done) | (rw [hres.out]; rfl)), B2.out⟩
   ·have gl : ¬ (0 : Int) < n := by omega
    have HOT := hid (show (true && xs.all isIx) = okT 3 xs from by rw [show xs = [] from List.eq_nil_of_length_eq_zero (by rw [HN.out]; omega)]; rfl)
    have HGA := hid (show okA 3 A = true from by unfold okA; rw [if_neg (by decide), if_neg (by decide), if_neg (by decide), if_neg (by decide)]; exact hz)
    have HGB := hid (show okB 3 B = false from by simp [okB, hzb])
    go_enter Tryz.func161, Tryz.ntmps161
    go_wp2_with (first | (go_at_call 162; refine HBS.out.mono ?_; rintro r w1 ⟨rfl, hb1⟩; have c0 := HC.out _ hb1; have hx1 := HX.out _ hb1; have B1 := hid (HA.out.trans (hb1.mono HA.out.size)); have HB1 := hid hb1; obtain ⟨y0, y1, y2, y3⟩ := c0; have HX1 := hid hx1; clear hb1 hx1) | (go_at_call 170; refine (HCA.out _).mono ?_; rintro r w2 ⟨rfl, hb2⟩; have c2 := HC.out _ (HB1.out.trans (hb2.mono HB1.out.size)); have hx2 := HX.out _ (HB1.out.trans (hb2.mono HB1.out.size)); have B2 := hid (B1.out.trans (hb2.mono B1.out.size)); obtain ⟨z0, z1, z2, z3⟩ := c2; have HX2 := hid hx2; clear hb2 hx2) | (go_at_call 169; with_reducible refine (HIA.out _).mono ?_; rintro r w3 ⟨rfl, rfl⟩))
    go_loop [79, 7] (fun i gg => ∃ (j : Nat) (G : Bool), j ≤ n ∧ i = .int .i64 j ∧ gg = .bool G ∧ Hid (G = !(true && (xs.take j).all isIx))) (fun i _ => n - (RowKit.intOf i).toNat)
    case atStart => exact ⟨0, !true, Nat.zero_le _, rfl, rfl, hid (by simp)⟩
    case round =>
     obtain ⟨j, G, hj, rfl, rfl, hG⟩ := hrel
     by_cases hlt0 : j < n
     ·exfalso; omega
     ·obtain rfl : j = n := by omega
      have hfin := hG.out
      rw [← HN.out, List.take_length, HOT.out] at hfin
      have hres := hid (chk_end 3 A B xs (by decide) H16.out true false (!G) HGA.out HGB.out (by rw [hfin, Bool.not_not]))
      clear hfin hG
      cases G
      ·go_wp2_with fail
       go_ret
       exact ⟨ret1 (by first | (rw [hres.out]; done) | (rw [hres.out]; rfl)), B2.out⟩
      ·go_wp2_with fail
       go_ret
       exact ⟨ret1 (by first | (rw [hres.out]; done) | (rw [hres.out]; rfl)), B2.out⟩

set_option maxRecDepth 100000 in
set_option maxHeartbeats 8000000 in
theorem rchk_4 (op : Nat) (hop : op < 256) (hk : tB op = 4) (A B : Int) (xs : List Int) (v : Value) (w : World) (hM : MaxL w) (hx : Ints w .i64 v xs) :
  Calls Tryz.prog 161 #[insV op A B v] w fun e w' => e = .returned (.int .i64 (chkI 4 A B xs)) ∧ Below w.heap.size w w' := by
 have hA0 : Below w.heap.size w (w.alloc (.cells #[.int .u8 op, .int .i64 A, .int .i64 B, v] 162)) := (Below.refl _ _).alloc (Nat.le_refl _) _
 have hblk := Blk.new w #[.int .u8 op, .int .i64 A, .int .i64 B, v] 162 _ rfl
 have HBS := hid (rbeside_any op hop (w.alloc (.cells #[.int .u8 op, .int .i64 A, .int .i64 B, v] 162)) (hM.below hA0))
 rw [hk, show S (sdL 4) = ⟨#[116]⟩ from rfl] at HBS
 have HI := hid (fun n w' => wide_any n w')
 have HCA := hid (fun w' => Tryz.strings_ContainsAny_laid ⟨#[116]⟩ ⟨#[97, 116]⟩ w' (by decide) (by decide) (ascii_of _ (by decide)) (ascii_of _ (by decide)))
 rw [show Lib.containsAny (ByteArray.data ⟨#[116]⟩).toList (ByteArray.data ⟨#[97, 116]⟩).toList = true from by decide] at HCA
 have HA := hid hA0
 have HX := hid (qHX hx op A B v 162)
 have HC := hid (qHC hblk)
 obtain ⟨ao, cap, rfl, _⟩ := id hx
 clear hx hA0 hblk hk hM
 generalize hn : xs.length = n at *
 have HN := hid hn
 clear hn
 by_cases h16 : 16 < n
 ·have g16 : (16 : Int) < n := by omega
  have hres := hid (show chkI 4 A B xs = 2 from chk_large (by decide) (by rw [HN.out]; exact h16))
  go_enter Tryz.func161, Tryz.ntmps161
  go_wp2_with (first | (go_at_call 162; refine HBS.out.mono ?_; rintro r w1 ⟨rfl, hb1⟩; have c0 := HC.out _ hb1; have hx1 := HX.out _ hb1; have B1 := hid (HA.out.trans (hb1.mono HA.out.size)); have HB1 := hid hb1; obtain ⟨y0, y1, y2, y3⟩ := c0; have HX1 := hid hx1; clear hb1 hx1))
  go_ret
  exact ⟨ret1 (by first | (rw [hres.out]; done) | (rw [hres.out]; rfl)), B1.out⟩
 have g16 : ¬ (16 : Int) < n := by omega
 have H16 := hid (show ¬ 16 < xs.length by rw [HN.out]; exact h16)
 cases hz : isIx A
 ·have HIA := hid (fun w' => wide_any A w')
  rw [hz] at HIA
  by_cases hzb : B = 0
  ·subst hzb
   by_cases hl : 0 < n
   ·have gl : (0 : Int) < n := by omega
    have HOT := hid (show (true && xs.all isIx) = okT 4 xs from by simp [okT])
    have HGA := hid (show okA 4 A = false from by unfold okA; rw [if_neg (by decide), if_neg (by decide), if_neg (by decide), if_neg (by decide)]; exact hz)
    have HGB := hid (show okB 4 0 = true from by rfl)
    go_enter Tryz.func161, Tryz.ntmps161
    go_wp2_with (first | (go_at_call 162; refine HBS.out.mono ?_; rintro r w1 ⟨rfl, hb1⟩; have c0 := HC.out _ hb1; have hx1 := HX.out _ hb1; have B1 := hid (HA.out.trans (hb1.mono HA.out.size)); have HB1 := hid hb1; obtain ⟨y0, y1, y2, y3⟩ := c0; have HX1 := hid hx1; clear hb1 hx1) | (go_at_call 170; refine (HCA.out _).mono ?_; rintro r w2 ⟨rfl, hb2⟩; have c2 := HC.out _ (HB1.out.trans (hb2.mono HB1.out.size)); have hx2 := HX.out _ (HB1.out.trans (hb2.mono HB1.out.size)); have B2 := hid (B1.out.trans (hb2.mono B1.out.size)); obtain ⟨z0, z1, z2, z3⟩ := c2; have HX2 := hid hx2; clear hb2 hx2) | (go_at_call 169; with_reducible refine (HIA.out _).mono ?_; rintro r w3 ⟨rfl, rfl⟩))
    go_loop [79, 7] (fun i gg => ∃ (j : Nat) (G : Bool), j ≤ n ∧ i = .int .i64 j ∧ gg = .bool G ∧ Hid (G = !(true && (xs.take j).all isIx))) (fun i _ => n - (RowKit.intOf i).toNat)
    case atStart => exact ⟨0, !true, Nat.zero_le _, rfl, rfl, hid (by simp)⟩
    case round =>
     obtain ⟨j, G, hj, rfl, rfl, hG⟩ := hrel
     by_cases hlt0 : j < n
     ·have hlt : j < xs.length := by rw [HN.out]; exact hlt0
      have hltI : (j : Int) < n := by omega
      have hnx := all_take_next xs j hlt
      rcases L1.open HX2.out with ⟨_, _, _, e, _⟩ | ⟨lb, lo, cap', hv, _, _, _, hc⟩
      ·rw [e] at hlt; simp at hlt
      simp only [Value.slice.injEq] at hv
      obtain ⟨rfl, hnn, rfl⟩ := hv
      clear hnn
      have ha := hc j hlt
      generalize xs[j] = m at *
      have HNX := hid hnx
      clear hc hnx hlt
      cases hGb : G
      ·have HG2 := hid (show (!isIx m) = !(true && (xs.take (j + 1)).all isIx) by
        have h9 := hG.out; rw [hGb] at h9; rw [HNX.out]; revert h9; cases (xs.take j).all isIx <;> cases isIx m <;> simp)
       clear hGb hG
       go_wp2_with (go_at_call 169; refine (HI.out _ _).mono ?_; rintro r w2 ⟨rfl, rfl⟩)
       go_round
       case rel => exact ⟨j + 1, !isIx m, by omega, by go_num, rfl, HG2⟩
       case measure => simp [RowKit.intOf]; omega
      ·have HG2 := hid (show true = !(true && (xs.take (j + 1)).all isIx) by
        have h9 := hG.out; rw [hGb] at h9; rw [HNX.out]; revert h9; cases (xs.take j).all isIx <;> cases isIx m <;> simp)
       clear hGb hG
       go_wp2_with (go_at_call 169; refine (HI.out _ _).mono ?_; rintro r w2 ⟨rfl, rfl⟩)
       go_round
       case rel => exact ⟨j + 1, true, by omega, by go_num, rfl, HG2⟩
       case measure => simp [RowKit.intOf]; omega
     ·obtain rfl : j = n := by omega
      have hfin := hG.out
      rw [← HN.out, List.take_length, HOT.out] at hfin
      have hres := hid (chk_end 4 A 0 xs (by decide) H16.out false true (!G) HGA.out HGB.out (by rw [hfin, Bool.not_not]))
      clear hfin hG
      cases G
      ·go_wp2_with fail
       go_ret
       exact ⟨ret1 (by first | (rw [hres.out]; done) | (rw [hres.out]; rfl)), B2.out⟩
      ·go_wp2_with fail
       go_ret
       exact ⟨ret1 (by first | (rw [hres.out]; done) | (rw [hres.out]; rfl)), B2.out⟩
   ·have gl : ¬ (0 : Int) < n := by omega
    have HOT := hid (show (true && xs.all isIx) = okT 4 xs from by simp [okT])
    have HGA := hid (show okA 4 A = false from by unfold okA; rw [if_neg (by decide), if_neg (by decide), if_neg (by decide), if_neg (by decide)]; exact hz)
    have HGB := hid (show okB 4 0 = true from by rfl)
    go_enter Tryz.func161, Tryz.ntmps161
    go_wp2_with (first | (go_at_call 162; refine HBS.out.mono ?_; rintro r w1 ⟨rfl, hb1⟩; have c0 := HC.out _ hb1; have hx1 := HX.out _ hb1; have B1 := hid (HA.out.trans (hb1.mono HA.out.size)); have HB1 := hid hb1; obtain ⟨y0, y1, y2, y3⟩ := c0; have HX1 := hid hx1; clear hb1 hx1) | (go_at_call 170; refine (HCA.out _).mono ?_; rintro r w2 ⟨rfl, hb2⟩; have c2 := HC.out _ (HB1.out.trans (hb2.mono HB1.out.size)); have hx2 := HX.out _ (HB1.out.trans (hb2.mono HB1.out.size)); have B2 := hid (B1.out.trans (hb2.mono B1.out.size)); obtain ⟨z0, z1, z2, z3⟩ := c2; have HX2 := hid hx2; clear hb2 hx2) | (go_at_call 169; with_reducible refine (HIA.out _).mono ?_; rintro r w3 ⟨rfl, rfl⟩))
    go_loop [79, 7] (fun i gg => ∃ (j : Nat) (G : Bool), j ≤ n ∧ i = .int .i64 j ∧ gg = .bool G ∧ Hid (G = !(true && (xs.take j).all isIx))) (fun i _ => n - (RowKit.intOf i).toNat)
    case atStart => exact ⟨0, !true, Nat.zero_le _, rfl, rfl, hid (by simp)⟩
    case round =>
     obtain ⟨j, G, hj, rfl, rfl, hG⟩ := hrel
     by_cases hlt0 : j < n
     ·exfalso; omega
     ·obtain rfl : j = n := by omega
      have hfin := hG.out
      rw [← HN.out, List.take_length, HOT.out] at hfin
      have hres := hid (chk_end 4 A 0 xs (by decide) H16.out false true (!G) HGA.out HGB.out (by rw [hfin, Bool.not_not]))
      clear hfin hG
      cases G
      ·go_wp2_with fail
       go_ret
       exact ⟨ret1 (by first | (rw [hres.out]; done) | (rw [hres.out]; rfl)), B2.out⟩
      ·go_wp2_with fail
       go_ret
       exact ⟨ret1 (by first | (rw [hres.out]; done) | (rw [hres.out]; rfl)), B2.out⟩
  ·have hzb2 : (B != 0) = true := by simpa using hzb
   by_cases hl : 0 < n
   ·have gl : (0 : Int) < n := by omega
    have HOT := hid (show (true && xs.all isIx) = okT 4 xs from by simp [okT])
    have HGA := hid (show okA 4 A = false from by unfold okA; rw [if_neg (by decide), if_neg (by decide), if_neg (by decide), if_neg (by decide)]; exact hz)
    have HGB := hid (show okB 4 B = false from by simp [okB, hzb])
    go_enter Tryz.func161, Tryz.ntmps161
    go_wp2_with (first | (go_at_call 162; refine HBS.out.mono ?_; rintro r w1 ⟨rfl, hb1⟩; have c0 := HC.out _ hb1; have hx1 := HX.out _ hb1; have B1 := hid (HA.out.trans (hb1.mono HA.out.size)); have HB1 := hid hb1; obtain ⟨y0, y1, y2, y3⟩ := c0; have HX1 := hid hx1; clear hb1 hx1) | (go_at_call 170; refine (HCA.out _).mono ?_; rintro r w2 ⟨rfl, hb2⟩; have c2 := HC.out _ (HB1.out.trans (hb2.mono HB1.out.size)); have hx2 := HX.out _ (HB1.out.trans (hb2.mono HB1.out.size)); have B2 := hid (B1.out.trans (hb2.mono B1.out.size)); obtain ⟨z0, z1, z2, z3⟩ := c2; have HX2 := hid hx2; clear hb2 hx2) | (go_at_call 169; with_reducible refine (HIA.out _).mono ?_; rintro r w3 ⟨rfl, rfl⟩))
    go_loop [79, 7] (fun i gg => ∃ (j : Nat) (G : Bool), j ≤ n ∧ i = .int .i64 j ∧ gg = .bool G ∧ Hid (G = !(true && (xs.take j).all isIx))) (fun i _ => n - (RowKit.intOf i).toNat)
    case atStart => exact ⟨0, !true, Nat.zero_le _, rfl, rfl, hid (by simp)⟩
    case round =>
     obtain ⟨j, G, hj, rfl, rfl, hG⟩ := hrel
     by_cases hlt0 : j < n
     ·have hlt : j < xs.length := by rw [HN.out]; exact hlt0
      have hltI : (j : Int) < n := by omega
      have hnx := all_take_next xs j hlt
      rcases L1.open HX2.out with ⟨_, _, _, e, _⟩ | ⟨lb, lo, cap', hv, _, _, _, hc⟩
      ·rw [e] at hlt; simp at hlt
      simp only [Value.slice.injEq] at hv
      obtain ⟨rfl, hnn, rfl⟩ := hv
      clear hnn
      have ha := hc j hlt
      generalize xs[j] = m at *
      have HNX := hid hnx
      clear hc hnx hlt
      cases hGb : G
      ·have HG2 := hid (show (!isIx m) = !(true && (xs.take (j + 1)).all isIx) by
        have h9 := hG.out; rw [hGb] at h9; rw [HNX.out]; revert h9; cases (xs.take j).all isIx <;> cases isIx m <;> simp)
       clear hGb hG
       go_wp2_with (go_at_call 169; refine (HI.out _ _).mono ?_; rintro r w2 ⟨rfl, rfl⟩)
       go_round
       case rel => exact ⟨j + 1, !isIx m, by omega, by go_num, rfl, HG2⟩
       case measure => simp [RowKit.intOf]; omega
      ·have HG2 := hid (show true = !(true && (xs.take (j + 1)).all isIx) by
        have h9 := hG.out; rw [hGb] at h9; rw [HNX.out]; revert h9; cases (xs.take j).all isIx <;> cases isIx m <;> simp)
       clear hGb hG
       go_wp2_with (go_at_call 169; refine (HI.out _ _).mono ?_; rintro r w2 ⟨rfl, rfl⟩)
       go_round
       case rel => exact ⟨j + 1, true, by omega, by go_num, rfl, HG2⟩
       case measure => simp [RowKit.intOf]; omega
     ·obtain rfl : j = n := by omega
      have hfin := hG.out
      rw [← HN.out, List.take_length, HOT.out] at hfin
      have hres := hid (chk_end 4 A B xs (by decide) H16.out false false (!G) HGA.out HGB.out (by rw [hfin, Bool.not_not]))
      clear hfin hG
      cases G
      ·go_wp2_with fail
       go_ret
       exact ⟨ret1 (by first | (rw [hres.out]; done) | (rw [hres.out]; rfl)), B2.out⟩
      ·go_wp2_with fail
       go_ret
       exact ⟨ret1 (by first | (rw [hres.out]; done) | (rw [hres.out]; rfl)), B2.out⟩
   ·have gl : ¬ (0 : Int) < n := by omega
    have HOT := hid (show (true && xs.all isIx) = okT 4 xs from by simp [okT])
    have HGA := hid (show okA 4 A = false from by unfold okA; rw [if_neg (by decide), if_neg (by decide), if_neg (by decide), if_neg (by decide)]; exact hz)
    have HGB := hid (show okB 4 B = false from by simp [okB, hzb])
    go_enter Tryz.func161, Tryz.ntmps161
    go_wp2_with (first | (go_at_call 162; refine HBS.out.mono ?_; rintro r w1 ⟨rfl, hb1⟩; have c0 := HC.out _ hb1; have hx1 := HX.out _ hb1; have B1 := hid (HA.out.trans (hb1.mono HA.out.size)); have HB1 := hid hb1; obtain ⟨y0, y1, y2, y3⟩ := c0; have HX1 := hid hx1; clear hb1 hx1) | (go_at_call 170; refine (HCA.out _).mono ?_; rintro r w2 ⟨rfl, hb2⟩; have c2 := HC.out _ (HB1.out.trans (hb2.mono HB1.out.size)); have hx2 := HX.out _ (HB1.out.trans (hb2.mono HB1.out.size)); have B2 := hid (B1.out.trans (hb2.mono B1.out.size)); obtain ⟨z0, z1, z2, z3⟩ := c2; have HX2 := hid hx2; clear hb2 hx2) | (go_at_call 169; with_reducible refine (HIA.out _).mono ?_; rintro r w3 ⟨rfl, rfl⟩))
    go_loop [79, 7] (fun i gg => ∃ (j : Nat) (G : Bool), j ≤ n ∧ i = .int .i64 j ∧ gg = .bool G ∧ Hid (G = !(true && (xs.take j).all isIx))) (fun i _ => n - (RowKit.intOf i).toNat)
    case atStart => exact ⟨0, !true, Nat.zero_le _, rfl, rfl, hid (by simp)⟩
    case round =>
     obtain ⟨j, G, hj, rfl, rfl, hG⟩ := hrel
     by_cases hlt0 : j < n
     ·exfalso; omega
     ·obtain rfl : j = n := by omega
      have hfin := hG.out
      rw [← HN.out, List.take_length, HOT.out] at hfin
      have hres := hid (chk_end 4 A B xs (by decide) H16.out false false (!G) HGA.out HGB.out (by rw [hfin, Bool.not_not]))
      clear hfin hG
      cases G
      ·go_wp2_with fail
       go_ret
       exact ⟨ret1 (by first | (rw [hres.out]; done) | (rw [hres.out]; rfl)), B2.out⟩
      ·go_wp2_with fail
       go_ret
       exact ⟨ret1 (by first | (rw [hres.out]; done) | (rw [hres.out]; rfl)), B2.out⟩
 ·have HIA := hid (fun w' => wide_any A w')
  rw [hz] at HIA
  by_cases hzb : B = 0
  ·subst hzb
   by_cases hl : 0 < n
   ·have gl : (0 : Int) < n := by omega
    have HOT := hid (show (true && xs.all isIx) = okT 4 xs from by simp [okT])
    have HGA := hid (show okA 4 A = true from by unfold okA; rw [if_neg (by decide), if_neg (by decide), if_neg (by decide), if_neg (by decide)]; exact hz)
    have HGB := hid (show okB 4 0 = true from by rfl)
    go_enter Tryz.func161, Tryz.ntmps161
    go_wp2_with (first | (go_at_call 162; refine HBS.out.mono ?_; rintro r w1 ⟨rfl, hb1⟩; have c0 := HC.out _ hb1; have hx1 := HX.out _ hb1; have B1 := hid (HA.out.trans (hb1.mono HA.out.size)); have HB1 := hid hb1; obtain ⟨y0, y1, y2, y3⟩ := c0; have HX1 := hid hx1; clear hb1 hx1) | (go_at_call 170; refine (HCA.out _).mono ?_; rintro r w2 ⟨rfl, hb2⟩; have c2 := HC.out _ (HB1.out.trans (hb2.mono HB1.out.size)); have hx2 := HX.out _ (HB1.out.trans (hb2.mono HB1.out.size)); have B2 := hid (B1.out.trans (hb2.mono B1.out.size)); obtain ⟨z0, z1, z2, z3⟩ := c2; have HX2 := hid hx2; clear hb2 hx2) | (go_at_call 169; with_reducible refine (HIA.out _).mono ?_; rintro r w3 ⟨rfl, rfl⟩))
    go_loop [79, 7] (fun i gg => ∃ (j : Nat) (G : Bool), j ≤ n ∧ i = .int .i64 j ∧ gg = .bool G ∧ Hid (G = !(true && (xs.take j).all isIx))) (fun i _ => n - (RowKit.intOf i).toNat)
    case atStart => exact ⟨0, !true, Nat.zero_le _, rfl, rfl, hid (by simp)⟩
    case round =>
     obtain ⟨j, G, hj, rfl, rfl, hG⟩ := hrel
     by_cases hlt0 : j < n
     ·have hlt : j < xs.length := by rw [HN.out]; exact hlt0
      have hltI : (j : Int) < n := by omega
      have hnx := all_take_next xs j hlt
      rcases L1.open HX2.out with ⟨_, _, _, e, _⟩ | ⟨lb, lo, cap', hv, _, _, _, hc⟩
      ·rw [e] at hlt; simp at hlt
      simp only [Value.slice.injEq] at hv
      obtain ⟨rfl, hnn, rfl⟩ := hv
      clear hnn
      have ha := hc j hlt
      generalize xs[j] = m at *
      have HNX := hid hnx
      clear hc hnx hlt
      cases hGb : G
      ·have HG2 := hid (show (!isIx m) = !(true && (xs.take (j + 1)).all isIx) by
        have h9 := hG.out; rw [hGb] at h9; rw [HNX.out]; revert h9; cases (xs.take j).all isIx <;> cases isIx m <;> simp)
       clear hGb hG
       go_wp2_with (go_at_call 169; refine (HI.out _ _).mono ?_; rintro r w2 ⟨rfl, rfl⟩)
       go_round
       case rel => exact ⟨j + 1, !isIx m, by omega, by go_num, rfl, HG2⟩
       case measure => simp [RowKit.intOf]; omega
      ·have HG2 := hid (show true = !(true && (xs.take (j + 1)).all isIx) by
        have h9 := hG.out; rw [hGb] at h9; rw [HNX.out]; revert h9; cases (xs.take j).all isIx <;> cases isIx m <;> simp)
       clear hGb hG
       go_wp2_with (go_at_call 169; refine (HI.out _ _).mono ?_; rintro r w2 ⟨rfl, rfl⟩)
       go_round
       case rel => exact ⟨j + 1, true, by omega, by go_num, rfl, HG2⟩
       case measure => simp [RowKit.intOf]; omega
     ·obtain rfl : j = n := by omega
      have hfin := hG.out
      rw [← HN.out, List.take_length, HOT.out] at hfin
      have hres := hid (chk_end 4 A 0 xs (by decide) H16.out true true (!G) HGA.out HGB.out (by rw [hfin, Bool.not_not]))
      clear hfin hG
      cases G
      ·go_wp2_with fail
       go_ret
       exact ⟨ret1 (by first | (rw [hres.out]; done) | (rw [hres.out]; rfl)), B2.out⟩
      ·go_wp2_with fail
       go_ret
       exact ⟨ret1 (by first | (rw [hres.out]; done) | (rw [hres.out]; rfl)), B2.out⟩
   ·have gl : ¬ (0 : Int) < n := by omega
    have HOT := hid (show (true && xs.all isIx) = okT 4 xs from by simp [okT])
    have HGA := hid (show okA 4 A = true from by unfold okA; rw [if_neg (by decide), if_neg (by decide), if_neg (by decide), if_neg (by decide)]; exact hz)
    have HGB := hid (show okB 4 0 = true from by rfl)
    go_enter Tryz.func161, Tryz.ntmps161
    go_wp2_with (first | (go_at_call 162; refine HBS.out.mono ?_; rintro r w1 ⟨rfl, hb1⟩; have c0 := HC.out _ hb1; have hx1 := HX.out _ hb1; have B1 := hid (HA.out.trans (hb1.mono HA.out.size)); have HB1 := hid hb1; obtain ⟨y0, y1, y2, y3⟩ := c0; have HX1 := hid hx1; clear hb1 hx1) | (go_at_call 170; refine (HCA.out _).mono ?_; rintro r w2 ⟨rfl, hb2⟩; have c2 := HC.out _ (HB1.out.trans (hb2.mono HB1.out.size)); have hx2 := HX.out _ (HB1.out.trans (hb2.mono HB1.out.size)); have B2 := hid (B1.out.trans (hb2.mono B1.out.size)); obtain ⟨z0, z1, z2, z3⟩ := c2; have HX2 := hid hx2; clear hb2 hx2) | (go_at_call 169; with_reducible refine (HIA.out _).mono ?_; rintro r w3 ⟨rfl, rfl⟩))
    go_loop [79, 7] (fun i gg => ∃ (j : Nat) (G : Bool), j ≤ n ∧ i = .int .i64 j ∧ gg = .bool G ∧ Hid (G = !(true && (xs.take j).all isIx))) (fun i _ => n - (RowKit.intOf i).toNat)
    case atStart => exact ⟨0, !true, Nat.zero_le _, rfl, rfl, hid (by simp)⟩
    case round =>
     obtain ⟨j, G, hj, rfl, rfl, hG⟩ := hrel
     by_cases hlt0 : j < n
     ·exfalso; omega
     ·obtain rfl : j = n := by omega
      have hfin := hG.out
      rw [← HN.out, List.take_length, HOT.out] at hfin
      have hres := hid (chk_end 4 A 0 xs (by decide) H16.out true true (!G) HGA.out HGB.out (by rw [hfin, Bool.not_not]))
      clear hfin hG
      cases G
      ·go_wp2_with fail
       go_ret
       exact ⟨ret1 (by first | (rw [hres.out]; done) | (rw [hres.out]; rfl)), B2.out⟩
      ·go_wp2_with fail
       go_ret
       exact ⟨ret1 (by first | (rw [hres.out]; done) | (rw [hres.out]; rfl)), B2.out⟩
  ·have hzb2 : (B != 0) = true := by simpa using hzb
   by_cases hl : 0 < n
   ·have gl : (0 : Int) < n := by omega
    have HOT := hid (show (true && xs.all isIx) = okT 4 xs from by simp [okT])
    have HGA := hid (show okA 4 A = true from by unfold okA; rw [if_neg (by decide), if_neg (by decide), if_neg (by decide), if_neg (by decide)]; exact hz)
    have HGB := hid (show okB 4 B = false from by simp [okB, hzb])
    go_enter Tryz.func161, Tryz.ntmps161
    go_wp2_with (first | (go_at_call 162; refine HBS.out.mono ?_; rintro r w1 ⟨rfl, hb1⟩; have c0 := HC.out _ hb1; have hx1 := HX.out _ hb1; have B1 := hid (HA.out.trans (hb1.mono HA.out.size)); have HB1 := hid hb1; obtain ⟨y0, y1, y2, y3⟩ := c0; have HX1 := hid hx1; clear hb1 hx1) | (go_at_call 170; refine (HCA.out _).mono ?_; rintro r w2 ⟨rfl, hb2⟩; have c2 := HC.out _ (HB1.out.trans (hb2.mono HB1.out.size)); have hx2 := HX.out _ (HB1.out.trans (hb2.mono HB1.out.size)); have B2 := hid (B1.out.trans (hb2.mono B1.out.size)); obtain ⟨z0, z1, z2, z3⟩ := c2; have HX2 := hid hx2; clear hb2 hx2) | (go_at_call 169; with_reducible refine (HIA.out _).mono ?_; rintro r w3 ⟨rfl, rfl⟩))
    go_loop [79, 7] (fun i gg => ∃ (j : Nat) (G : Bool), j ≤ n ∧ i = .int .i64 j ∧ gg = .bool G ∧ Hid (G = !(true && (xs.take j).all isIx))) (fun i _ => n - (RowKit.intOf i).toNat)
    case atStart => exact ⟨0, !true, Nat.zero_le _, rfl, rfl, hid (by simp)⟩
    case round =>
     obtain ⟨j, G, hj, rfl, rfl, hG⟩ := hrel
     by_cases hlt0 : j < n
     ·have hlt : j < xs.length := by rw [HN.out]; exact hlt0
      have hltI : (j : Int) < n := by omega
      have hnx := all_take_next xs j hlt
      rcases L1.open HX2.out with ⟨_, _, _, e, _⟩ | ⟨lb, lo, cap', hv, _, _, _, hc⟩
      ·rw [e] at hlt; simp at hlt
      simp only [Value.slice.injEq] at hv
      obtain ⟨rfl, hnn, rfl⟩ := hv
      clear hnn
      have ha := hc j hlt
      generalize xs[j] = m at *
      have HNX := hid hnx
      clear hc hnx hlt
      cases hGb : G
      ·have HG2 := hid (show (!isIx m) = !(true && (xs.take (j + 1)).all isIx) by
        have h9 := hG.out; rw [hGb] at h9; rw [HNX.out]; revert h9; cases (xs.take j).all isIx <;> cases isIx m <;> simp)
       clear hGb hG
       go_wp2_with (go_at_call 169; refine (HI.out _ _).mono ?_; rintro r w2 ⟨rfl, rfl⟩)
       go_round
       case rel => exact ⟨j + 1, !isIx m, by omega, by go_num, rfl, HG2⟩
       case measure => simp [RowKit.intOf]; omega
      ·have HG2 := hid (show true = !(true && (xs.take (j + 1)).all isIx) by
        have h9 := hG.out; rw [hGb] at h9; rw [HNX.out]; revert h9; cases (xs.take j).all isIx <;> cases isIx m <;> simp)
       clear hGb hG
       go_wp2_with (go_at_call 169; refine (HI.out _ _).mono ?_; rintro r w2 ⟨rfl, rfl⟩)
       go_round
       case rel => exact ⟨j + 1, true, by omega, by go_num, rfl, HG2⟩
       case measure => simp [RowKit.intOf]; omega
     ·obtain rfl : j = n := by omega
      have hfin := hG.out
      rw [← HN.out, List.take_length, HOT.out] at hfin
      have hres := hid (chk_end 4 A B xs (by decide) H16.out true false (!G) HGA.out HGB.out (by rw [hfin, Bool.not_not]))
      clear hfin hG
      cases G
      ·go_wp2_with fail
       go_ret
       exact ⟨ret1 (by first | (rw [hres.out]; done) | (rw [hres.out]; rfl)), B2.out⟩
      ·go_wp2_with fail
       go_ret
       exact ⟨ret1 (by first | (rw [hres.out]; done) | (rw [hres.out]; rfl)), B2.out⟩
   ·have gl : ¬ (0 : Int) < n := by omega
    have HOT := hid (show (true && xs.all isIx) = okT 4 xs from by simp [okT])
    have HGA := hid (show okA 4 A = true from by unfold okA; rw [if_neg (by decide), if_neg (by decide), if_neg (by decide), if_neg (by decide)]; exact hz)
    have HGB := hid (show okB 4 B = false from by simp [okB, hzb])
    go_enter Tryz.func161, Tryz.ntmps161
    go_wp2_with (first | (go_at_call 162; refine HBS.out.mono ?_; rintro r w1 ⟨rfl, hb1⟩; have c0 := HC.out _ hb1; have hx1 := HX.out _ hb1; have B1 := hid (HA.out.trans (hb1.mono HA.out.size)); have HB1 := hid hb1; obtain ⟨y0, y1, y2, y3⟩ := c0; have HX1 := hid hx1; clear hb1 hx1) | (go_at_call 170; refine (HCA.out _).mono ?_; rintro r w2 ⟨rfl, hb2⟩; have c2 := HC.out _ (HB1.out.trans (hb2.mono HB1.out.size)); have hx2 := HX.out _ (HB1.out.trans (hb2.mono HB1.out.size)); have B2 := hid (B1.out.trans (hb2.mono B1.out.size)); obtain ⟨z0, z1, z2, z3⟩ := c2; have HX2 := hid hx2; clear hb2 hx2) | (go_at_call 169; with_reducible refine (HIA.out _).mono ?_; rintro r w3 ⟨rfl, rfl⟩))
    go_loop [79, 7] (fun i gg => ∃ (j : Nat) (G : Bool), j ≤ n ∧ i = .int .i64 j ∧ gg = .bool G ∧ Hid (G = !(true && (xs.take j).all isIx))) (fun i _ => n - (RowKit.intOf i).toNat)
    case atStart => exact ⟨0, !true, Nat.zero_le _, rfl, rfl, hid (by simp)⟩
    case round =>
     obtain ⟨j, G, hj, rfl, rfl, hG⟩ := hrel
     by_cases hlt0 : j < n
     ·exfalso; omega
     ·obtain rfl : j = n := by omega
      have hfin := hG.out
      rw [← HN.out, List.take_length, HOT.out] at hfin
      have hres := hid (chk_end 4 A B xs (by decide) H16.out true false (!G) HGA.out HGB.out (by rw [hfin, Bool.not_not]))
      clear hfin hG
      cases G
      ·go_wp2_with fail
       go_ret
       exact ⟨ret1 (by first | (rw [hres.out]; done) | (rw [hres.out]; rfl)), B2.out⟩
      ·go_wp2_with fail
       go_ret
       exact ⟨ret1 (by first | (rw [hres.out]; done) | (rw [hres.out]; rfl)), B2.out⟩

end Go.Proofs.YthoalneknadheaaGreatDoor
