/-
  INSTRUCTIONS: the program's Check. Condition: the number is a byte.
-/
import Derived.Test.YthoalneknadheaaGreatDoorGBinWrites8
import Derived.Test.YthoalneknadheaaGreatDoorGBinWrites13
import Derived.Deep.CutBlock
import Derived.Deep.DrawnRows
namespace Go.Proofs.YthoalneknadheaaGreatDoor
open Go.RowKit Go.Lib
attribute [local go_sem ↓] Go.wp_at_zero Go.wp_at_succ

def isIx (n : Int) : Bool := decide (0 ≤ n ∧ n ≤ 4294967295)
def okA (k : Nat) (A : Int) : Bool := if k = 1 ∨ k = 7 then decide (A = 0) else if k = 2 then decide (A = 64 ∨ A = 126 ∨ A = 127) else if k = 8 then decide (-2147483648 ≤ A ∧ A ≤ 2147483647) else if k = 9 then true else isIx A
def okB (k : Nat) (B : Int) : Bool := if k = 6 then isIx B else decide (B = 0)
def okT (k : Nat) (xs : List Int) : Bool := if k = 4 then xs.all isIx else decide (xs.length = 0)
def chkI (k : Nat) (A B : Int) (xs : List Int) : Int := if k = 0 then 6 else if 16 < xs.length then 2 else if (okA k A && okB k B && okT k xs) = true then 0 else 1
theorem chk_large {k : Nat} {A B : Int} {xs : List Int} (h0 : k ≠ 0) (h : 16 < xs.length) : chkI k A B xs = 2 := by unfold chkI; rw [if_neg h0, if_pos h]
theorem chk_rest {k : Nat} {A B : Int} {xs : List Int} (h0 : k ≠ 0) (h : ¬ 16 < xs.length) : chkI k A B xs = if (okA k A && okB k B && okT k xs) = true then 0 else 1 := by unfold chkI; rw [if_neg h0, if_neg h]
theorem chk_to {k : Nat} {A B : Int} {xs : List Int} (h0 : k ≠ 0) (h4 : k ≠ 4) (h : ¬ 16 < xs.length) (hl : 0 < xs.length) : chkI k A B xs = 1 := by
 have e : okT k xs = false := by unfold okT; rw [if_neg h4]; exact decide_eq_false (by omega)
 rw [chk_rest h0 h, e, Bool.and_false, if_neg (by decide)]
theorem all_take_next (xs : List Int) (j : Nat) (h : j < xs.length) : (xs.take (j + 1)).all isIx = ((xs.take j).all isIx && isIx xs[j]) := by
 rw [List.take_succ_eq_append_getElem h, List.all_append]; simp
theorem isIndex_any (n : Int) (w : World) : Calls Tryz.prog 156 #[.int .i64 n] w fun e w' => e = .returned (.bool (isIx n)) ∧ w = w' := by
 unfold isIx
 by_cases h1 : 0 ≤ n
 ·by_cases h2 : n ≤ 4294967295
  ·rw [decide_eq_true (show 0 ≤ n ∧ n ≤ 4294967295 from ⟨h1, h2⟩)]
   go_enter Tryz.func156, Tryz.ntmps156
   go_wp2_with fail
   go_ret
   exact ⟨rfl, rfl⟩
  ·rw [decide_eq_false (show ¬ (0 ≤ n ∧ n ≤ 4294967295) from fun h => h2 h.2)]
   go_enter Tryz.func156, Tryz.ntmps156
   go_wp2_with fail
   go_ret
   exact ⟨rfl, rfl⟩
 ·rw [decide_eq_false (show ¬ (0 ≤ n ∧ n ≤ 4294967295) from fun h => h1 h.1)]
  go_enter Tryz.func156, Tryz.ntmps156
  go_wp2_with fail
  go_ret
  exact ⟨rfl, rfl⟩
abbrev insV (op : Nat) (A B : Int) (v : Value) : Value := .agg #[.int .u8 op, .int .i64 A, .int .i64 B, v]

set_option maxRecDepth 100000 in
set_option maxHeartbeats 8000000 in
theorem pchk_1 (op : Nat) (hop : op < 256) (hk : tB op = 1) (A B : Int) (hA : -9223372036854775808 ≤ A ∧ A ≤ 9223372036854775807) (xs : List Int) (v : Value) (w : World) (hx : Ints w .i64 v xs) :
  Calls Tryz.prog 144 #[insV op A B v] w fun e w' => e = .returned (.int .i64 (chkI 1 A B xs)) ∧ Below w.heap.size w w' := by
 have HBS := hid (fun w' => besides_any op hop w')
 rw [hk] at HBS
 have HI := hid (fun n w' => isIndex_any n w')
 have hA0 : Below w.heap.size w (w.alloc (.cells #[.int .u8 op, .int .i64 A, .int .i64 B, v] 162)) := (Below.refl _ _).alloc (Nat.le_refl _) _
 have hblk := Blk.new w #[.int .u8 op, .int .i64 A, .int .i64 B, v] 162 _ rfl
 have HA := hid hA0
 have HX := hid (qHX hx op A B v 162)
 have HC := hid (qHC hblk)
 obtain ⟨ao, cap, rfl, _⟩ := id hx
 clear hx hA0 hblk hk
 generalize hn : xs.length = n at *
 have HN := hid hn
 clear hn
 by_cases h16 : 16 < n
 ·have g16 : (16 : Int) < n := by omega
  have hres := hid (show chkI 1 A B xs = 2 from chk_large (by decide) (by rw [HN.out]; exact h16))
  go_enter Tryz.func144, Tryz.ntmps144
  go_wp2_with (first | (go_at_call 147; refine (HBS.out _).mono ?_; rintro r w1 ⟨rfl, hb1⟩; have c0 := HC.out _ hb1; have hx1 := HX.out _ hb1; have B1 := hid (HA.out.trans (hb1.mono HA.out.size)); obtain ⟨y0, y1, y2, y3⟩ := c0; have HX1 := hid hx1; clear hb1 hx1) | (go_at_call 156; refine (HI.out _ _).mono ?_; rintro r w2 ⟨rfl, rfl⟩))
  go_ret
  exact ⟨ret1 (by first | (rw [hres.out]; done) | (rw [hres.out]; rfl)), B1.out⟩
 have g16 : ¬ (16 : Int) < n := by omega
 have H16 := hid (show ¬ 16 < xs.length by rw [HN.out]; exact h16)
 by_cases hl : 0 < n
 ·have gl : (0 : Int) < n := by omega
  have hres := hid (show chkI 1 A B xs = 1 from chk_to (by decide) (by decide) H16.out (by rw [HN.out]; exact hl))
  go_enter Tryz.func144, Tryz.ntmps144
  go_wp2_with (first | (go_at_call 147; refine (HBS.out _).mono ?_; rintro r w1 ⟨rfl, hb1⟩; have c0 := HC.out _ hb1; have hx1 := HX.out _ hb1; have B1 := hid (HA.out.trans (hb1.mono HA.out.size)); obtain ⟨y0, y1, y2, y3⟩ := c0; have HX1 := hid hx1; clear hb1 hx1) | (go_at_call 156; refine (HI.out _ _).mono ?_; rintro r w2 ⟨rfl, rfl⟩))
  go_ret
  exact ⟨ret1 (by first | (rw [hres.out]; done) | (rw [hres.out]; rfl)), B1.out⟩
 have gl : ¬ (0 : Int) < n := by omega
 have HL0 := hid (show xs = [] from List.eq_nil_of_length_eq_zero (by rw [HN.out]; omega))
 by_cases hB : B = 0
 ·subst hB
  by_cases hz : A = 0
  ·subst hz
   have HG := hid (show true = (okA 1 0 && okB 1 0) from rfl)
   have HOT := hid (show xs.all isIx = okT 1 xs from by rw [HL0.out]; rfl)
   go_enter Tryz.func144, Tryz.ntmps144
   go_wp2_with (first | (go_at_call 147; refine (HBS.out _).mono ?_; rintro r w1 ⟨rfl, hb1⟩; have c0 := HC.out _ hb1; have hx1 := HX.out _ hb1; have B1 := hid (HA.out.trans (hb1.mono HA.out.size)); obtain ⟨y0, y1, y2, y3⟩ := c0; have HX1 := hid hx1; clear hb1 hx1) | (go_at_call 156; refine (HI.out _ _).mono ?_; rintro r w2 ⟨rfl, rfl⟩))
   go_loop [85, 4] (fun i gg => ∃ (j : Nat) (G : Bool), j ≤ n ∧ i = .int .i64 j ∧ gg = .bool G ∧ Hid (G = (true && (xs.take j).all isIx))) (fun i _ => n - (RowKit.intOf i).toNat)
   case atStart => exact ⟨0, true, Nat.zero_le _, rfl, rfl, hid (by simp)⟩
   case round =>
    obtain ⟨j, G, hj, rfl, rfl, hG⟩ := hrel
    by_cases hlt0 : j < n
    ·exfalso; omega
    ·obtain rfl : j = n := by omega
     have hfin := hG.out
     rw [← HN.out, List.take_length, HOT.out, HG.out] at hfin
     have hres := hid (chk_rest (k := 1) (A := 0) (B := 0) (xs := xs) (by decide) H16.out)
     rw [← hfin] at hres
     clear hfin hG
     cases G
     ·go_wp2_with fail
      go_ret
      exact ⟨ret1 (by first | (rw [hres.out]; done) | (rw [hres.out]; rfl)), B1.out⟩
     ·go_wp2_with fail
      go_ret
      exact ⟨ret1 (by first | (rw [hres.out]; done) | (rw [hres.out]; rfl)), B1.out⟩
  ·have hz2 : (A == 0) = false := by simpa using hz
   have HG := hid (show false = (okA 1 A && okB 1 0) from by simp [okA, hz])
   have HOT := hid (show xs.all isIx = okT 1 xs from by rw [HL0.out]; rfl)
   go_enter Tryz.func144, Tryz.ntmps144
   go_wp2_with (first | (go_at_call 147; refine (HBS.out _).mono ?_; rintro r w1 ⟨rfl, hb1⟩; have c0 := HC.out _ hb1; have hx1 := HX.out _ hb1; have B1 := hid (HA.out.trans (hb1.mono HA.out.size)); obtain ⟨y0, y1, y2, y3⟩ := c0; have HX1 := hid hx1; clear hb1 hx1) | (go_at_call 156; refine (HI.out _ _).mono ?_; rintro r w2 ⟨rfl, rfl⟩))
   go_loop [85, 4] (fun i gg => ∃ (j : Nat) (G : Bool), j ≤ n ∧ i = .int .i64 j ∧ gg = .bool G ∧ Hid (G = (false && (xs.take j).all isIx))) (fun i _ => n - (RowKit.intOf i).toNat)
   case atStart => exact ⟨0, false, Nat.zero_le _, rfl, rfl, hid (by simp)⟩
   case round =>
    obtain ⟨j, G, hj, rfl, rfl, hG⟩ := hrel
    by_cases hlt0 : j < n
    ·exfalso; omega
    ·obtain rfl : j = n := by omega
     have hfin := hG.out
     rw [← HN.out, List.take_length, HOT.out, HG.out] at hfin
     have hres := hid (chk_rest (k := 1) (A := A) (B := 0) (xs := xs) (by decide) H16.out)
     rw [← hfin] at hres
     clear hfin hG
     cases G
     ·go_wp2_with fail
      go_ret
      exact ⟨ret1 (by first | (rw [hres.out]; done) | (rw [hres.out]; rfl)), B1.out⟩
     ·go_wp2_with fail
      go_ret
      exact ⟨ret1 (by first | (rw [hres.out]; done) | (rw [hres.out]; rfl)), B1.out⟩
 ·have hB2 : (B != 0) = true := by simpa using hB
  have hres := hid (show chkI 1 A B xs = 1 from by rw [chk_rest (by decide) H16.out, if_neg (by simp [okB, hB])])
  go_enter Tryz.func144, Tryz.ntmps144
  go_wp2_with (first | (go_at_call 147; refine (HBS.out _).mono ?_; rintro r w1 ⟨rfl, hb1⟩; have c0 := HC.out _ hb1; have hx1 := HX.out _ hb1; have B1 := hid (HA.out.trans (hb1.mono HA.out.size)); obtain ⟨y0, y1, y2, y3⟩ := c0; have HX1 := hid hx1; clear hb1 hx1) | (go_at_call 156; refine (HI.out _ _).mono ?_; rintro r w2 ⟨rfl, rfl⟩))
  go_ret
  exact ⟨ret1 (by first | (rw [hres.out]; done) | (rw [hres.out]; rfl)), B1.out⟩

set_option maxRecDepth 100000 in
set_option maxHeartbeats 8000000 in
theorem pchk_2 (op : Nat) (hop : op < 256) (hk : tB op = 2) (A B : Int) (hA : -9223372036854775808 ≤ A ∧ A ≤ 9223372036854775807) (xs : List Int) (v : Value) (w : World) (hx : Ints w .i64 v xs) :
  Calls Tryz.prog 144 #[insV op A B v] w fun e w' => e = .returned (.int .i64 (chkI 2 A B xs)) ∧ Below w.heap.size w w' := by
 have HBS := hid (fun w' => besides_any op hop w')
 rw [hk] at HBS
 have HI := hid (fun n w' => isIndex_any n w')
 have hA0 : Below w.heap.size w (w.alloc (.cells #[.int .u8 op, .int .i64 A, .int .i64 B, v] 162)) := (Below.refl _ _).alloc (Nat.le_refl _) _
 have hblk := Blk.new w #[.int .u8 op, .int .i64 A, .int .i64 B, v] 162 _ rfl
 have HA := hid hA0
 have HX := hid (qHX hx op A B v 162)
 have HC := hid (qHC hblk)
 obtain ⟨ao, cap, rfl, _⟩ := id hx
 clear hx hA0 hblk hk
 generalize hn : xs.length = n at *
 have HN := hid hn
 clear hn
 by_cases h16 : 16 < n
 ·have g16 : (16 : Int) < n := by omega
  have hres := hid (show chkI 2 A B xs = 2 from chk_large (by decide) (by rw [HN.out]; exact h16))
  go_enter Tryz.func144, Tryz.ntmps144
  go_wp2_with (first | (go_at_call 147; refine (HBS.out _).mono ?_; rintro r w1 ⟨rfl, hb1⟩; have c0 := HC.out _ hb1; have hx1 := HX.out _ hb1; have B1 := hid (HA.out.trans (hb1.mono HA.out.size)); obtain ⟨y0, y1, y2, y3⟩ := c0; have HX1 := hid hx1; clear hb1 hx1) | (go_at_call 156; refine (HI.out _ _).mono ?_; rintro r w2 ⟨rfl, rfl⟩))
  go_ret
  exact ⟨ret1 (by first | (rw [hres.out]; done) | (rw [hres.out]; rfl)), B1.out⟩
 have g16 : ¬ (16 : Int) < n := by omega
 have H16 := hid (show ¬ 16 < xs.length by rw [HN.out]; exact h16)
 by_cases hl : 0 < n
 ·have gl : (0 : Int) < n := by omega
  have hres := hid (show chkI 2 A B xs = 1 from chk_to (by decide) (by decide) H16.out (by rw [HN.out]; exact hl))
  go_enter Tryz.func144, Tryz.ntmps144
  go_wp2_with (first | (go_at_call 147; refine (HBS.out _).mono ?_; rintro r w1 ⟨rfl, hb1⟩; have c0 := HC.out _ hb1; have hx1 := HX.out _ hb1; have B1 := hid (HA.out.trans (hb1.mono HA.out.size)); obtain ⟨y0, y1, y2, y3⟩ := c0; have HX1 := hid hx1; clear hb1 hx1) | (go_at_call 156; refine (HI.out _ _).mono ?_; rintro r w2 ⟨rfl, rfl⟩))
  go_ret
  exact ⟨ret1 (by first | (rw [hres.out]; done) | (rw [hres.out]; rfl)), B1.out⟩
 have gl : ¬ (0 : Int) < n := by omega
 have HL0 := hid (show xs = [] from List.eq_nil_of_length_eq_zero (by rw [HN.out]; omega))
 by_cases hB : B = 0
 ·subst hB
  by_cases hz64 : A = 64
  ·subst hz64
   have HG := hid (show true = (okA 2 64 && okB 2 0) from rfl)
   have HOT := hid (show xs.all isIx = okT 2 xs from by rw [HL0.out]; rfl)
   go_enter Tryz.func144, Tryz.ntmps144
   go_wp2_with (first | (go_at_call 147; refine (HBS.out _).mono ?_; rintro r w1 ⟨rfl, hb1⟩; have c0 := HC.out _ hb1; have hx1 := HX.out _ hb1; have B1 := hid (HA.out.trans (hb1.mono HA.out.size)); obtain ⟨y0, y1, y2, y3⟩ := c0; have HX1 := hid hx1; clear hb1 hx1) | (go_at_call 156; refine (HI.out _ _).mono ?_; rintro r w2 ⟨rfl, rfl⟩))
   go_loop [85, 4] (fun i gg => ∃ (j : Nat) (G : Bool), j ≤ n ∧ i = .int .i64 j ∧ gg = .bool G ∧ Hid (G = (true && (xs.take j).all isIx))) (fun i _ => n - (RowKit.intOf i).toNat)
   case atStart => exact ⟨0, true, Nat.zero_le _, rfl, rfl, hid (by simp)⟩
   case round =>
    obtain ⟨j, G, hj, rfl, rfl, hG⟩ := hrel
    by_cases hlt0 : j < n
    ·exfalso; omega
    ·obtain rfl : j = n := by omega
     have hfin := hG.out
     rw [← HN.out, List.take_length, HOT.out, HG.out] at hfin
     have hres := hid (chk_rest (k := 2) (A := 64) (B := 0) (xs := xs) (by decide) H16.out)
     rw [← hfin] at hres
     clear hfin hG
     cases G
     ·go_wp2_with fail
      go_ret
      exact ⟨ret1 (by first | (rw [hres.out]; done) | (rw [hres.out]; rfl)), B1.out⟩
     ·go_wp2_with fail
      go_ret
      exact ⟨ret1 (by first | (rw [hres.out]; done) | (rw [hres.out]; rfl)), B1.out⟩
  by_cases hz127 : A = 127
  ·subst hz127
   have HG := hid (show true = (okA 2 127 && okB 2 0) from rfl)
   have HOT := hid (show xs.all isIx = okT 2 xs from by rw [HL0.out]; rfl)
   go_enter Tryz.func144, Tryz.ntmps144
   go_wp2_with (first | (go_at_call 147; refine (HBS.out _).mono ?_; rintro r w1 ⟨rfl, hb1⟩; have c0 := HC.out _ hb1; have hx1 := HX.out _ hb1; have B1 := hid (HA.out.trans (hb1.mono HA.out.size)); obtain ⟨y0, y1, y2, y3⟩ := c0; have HX1 := hid hx1; clear hb1 hx1) | (go_at_call 156; refine (HI.out _ _).mono ?_; rintro r w2 ⟨rfl, rfl⟩))
   go_loop [85, 4] (fun i gg => ∃ (j : Nat) (G : Bool), j ≤ n ∧ i = .int .i64 j ∧ gg = .bool G ∧ Hid (G = (true && (xs.take j).all isIx))) (fun i _ => n - (RowKit.intOf i).toNat)
   case atStart => exact ⟨0, true, Nat.zero_le _, rfl, rfl, hid (by simp)⟩
   case round =>
    obtain ⟨j, G, hj, rfl, rfl, hG⟩ := hrel
    by_cases hlt0 : j < n
    ·exfalso; omega
    ·obtain rfl : j = n := by omega
     have hfin := hG.out
     rw [← HN.out, List.take_length, HOT.out, HG.out] at hfin
     have hres := hid (chk_rest (k := 2) (A := 127) (B := 0) (xs := xs) (by decide) H16.out)
     rw [← hfin] at hres
     clear hfin hG
     cases G
     ·go_wp2_with fail
      go_ret
      exact ⟨ret1 (by first | (rw [hres.out]; done) | (rw [hres.out]; rfl)), B1.out⟩
     ·go_wp2_with fail
      go_ret
      exact ⟨ret1 (by first | (rw [hres.out]; done) | (rw [hres.out]; rfl)), B1.out⟩
  by_cases hz126 : A = 126
  ·subst hz126
   have HG := hid (show true = (okA 2 126 && okB 2 0) from rfl)
   have HOT := hid (show xs.all isIx = okT 2 xs from by rw [HL0.out]; rfl)
   go_enter Tryz.func144, Tryz.ntmps144
   go_wp2_with (first | (go_at_call 147; refine (HBS.out _).mono ?_; rintro r w1 ⟨rfl, hb1⟩; have c0 := HC.out _ hb1; have hx1 := HX.out _ hb1; have B1 := hid (HA.out.trans (hb1.mono HA.out.size)); obtain ⟨y0, y1, y2, y3⟩ := c0; have HX1 := hid hx1; clear hb1 hx1) | (go_at_call 156; refine (HI.out _ _).mono ?_; rintro r w2 ⟨rfl, rfl⟩))
   go_loop [85, 4] (fun i gg => ∃ (j : Nat) (G : Bool), j ≤ n ∧ i = .int .i64 j ∧ gg = .bool G ∧ Hid (G = (true && (xs.take j).all isIx))) (fun i _ => n - (RowKit.intOf i).toNat)
   case atStart => exact ⟨0, true, Nat.zero_le _, rfl, rfl, hid (by simp)⟩
   case round =>
    obtain ⟨j, G, hj, rfl, rfl, hG⟩ := hrel
    by_cases hlt0 : j < n
    ·exfalso; omega
    ·obtain rfl : j = n := by omega
     have hfin := hG.out
     rw [← HN.out, List.take_length, HOT.out, HG.out] at hfin
     have hres := hid (chk_rest (k := 2) (A := 126) (B := 0) (xs := xs) (by decide) H16.out)
     rw [← hfin] at hres
     clear hfin hG
     cases G
     ·go_wp2_with fail
      go_ret
      exact ⟨ret1 (by first | (rw [hres.out]; done) | (rw [hres.out]; rfl)), B1.out⟩
     ·go_wp2_with fail
      go_ret
      exact ⟨ret1 (by first | (rw [hres.out]; done) | (rw [hres.out]; rfl)), B1.out⟩
  have hy64 : (A == 64) = false := by simpa using hz64
  have hy127 : (A == 127) = false := by simpa using hz127
  have hy126 : (A == 126) = false := by simpa using hz126
  have HG := hid (show false = (okA 2 A && okB 2 0) from by simp [okA, hz64, hz126, hz127])
  have HOT := hid (show xs.all isIx = okT 2 xs from by rw [HL0.out]; rfl)
  go_enter Tryz.func144, Tryz.ntmps144
  go_wp2_with (first | (go_at_call 147; refine (HBS.out _).mono ?_; rintro r w1 ⟨rfl, hb1⟩; have c0 := HC.out _ hb1; have hx1 := HX.out _ hb1; have B1 := hid (HA.out.trans (hb1.mono HA.out.size)); obtain ⟨y0, y1, y2, y3⟩ := c0; have HX1 := hid hx1; clear hb1 hx1) | (go_at_call 156; refine (HI.out _ _).mono ?_; rintro r w2 ⟨rfl, rfl⟩))
  go_loop [85, 4] (fun i gg => ∃ (j : Nat) (G : Bool), j ≤ n ∧ i = .int .i64 j ∧ gg = .bool G ∧ Hid (G = (false && (xs.take j).all isIx))) (fun i _ => n - (RowKit.intOf i).toNat)
  case atStart => exact ⟨0, false, Nat.zero_le _, rfl, rfl, hid (by simp)⟩
  case round =>
   obtain ⟨j, G, hj, rfl, rfl, hG⟩ := hrel
   by_cases hlt0 : j < n
   ·exfalso; omega
   ·obtain rfl : j = n := by omega
    have hfin := hG.out
    rw [← HN.out, List.take_length, HOT.out, HG.out] at hfin
    have hres := hid (chk_rest (k := 2) (A := A) (B := 0) (xs := xs) (by decide) H16.out)
    rw [← hfin] at hres
    clear hfin hG
    cases G
    ·go_wp2_with fail
     go_ret
     exact ⟨ret1 (by first | (rw [hres.out]; done) | (rw [hres.out]; rfl)), B1.out⟩
    ·go_wp2_with fail
     go_ret
     exact ⟨ret1 (by first | (rw [hres.out]; done) | (rw [hres.out]; rfl)), B1.out⟩
 ·have hB2 : (B != 0) = true := by simpa using hB
  have hres := hid (show chkI 2 A B xs = 1 from by rw [chk_rest (by decide) H16.out, if_neg (by simp [okB, hB])])
  go_enter Tryz.func144, Tryz.ntmps144
  go_wp2_with (first | (go_at_call 147; refine (HBS.out _).mono ?_; rintro r w1 ⟨rfl, hb1⟩; have c0 := HC.out _ hb1; have hx1 := HX.out _ hb1; have B1 := hid (HA.out.trans (hb1.mono HA.out.size)); obtain ⟨y0, y1, y2, y3⟩ := c0; have HX1 := hid hx1; clear hb1 hx1) | (go_at_call 156; refine (HI.out _ _).mono ?_; rintro r w2 ⟨rfl, rfl⟩))
  go_ret
  exact ⟨ret1 (by first | (rw [hres.out]; done) | (rw [hres.out]; rfl)), B1.out⟩

set_option maxRecDepth 100000 in
set_option maxHeartbeats 8000000 in
theorem pchk_3 (op : Nat) (hop : op < 256) (hk : tB op = 3) (A B : Int) (_hA : -9223372036854775808 ≤ A ∧ A ≤ 9223372036854775807) (xs : List Int) (v : Value) (w : World) (hx : Ints w .i64 v xs) :
  Calls Tryz.prog 144 #[insV op A B v] w fun e w' => e = .returned (.int .i64 (chkI 3 A B xs)) ∧ Below w.heap.size w w' := by
 have HBS := hid (fun w' => besides_any op hop w')
 rw [hk] at HBS
 have HI := hid (fun n w' => isIndex_any n w')
 have hA0 : Below w.heap.size w (w.alloc (.cells #[.int .u8 op, .int .i64 A, .int .i64 B, v] 162)) := (Below.refl _ _).alloc (Nat.le_refl _) _
 have hblk := Blk.new w #[.int .u8 op, .int .i64 A, .int .i64 B, v] 162 _ rfl
 have HA := hid hA0
 have HX := hid (qHX hx op A B v 162)
 have HC := hid (qHC hblk)
 obtain ⟨ao, cap, rfl, _⟩ := id hx
 clear hx hA0 hblk hk
 generalize hn : xs.length = n at *
 have HN := hid hn
 clear hn
 by_cases h16 : 16 < n
 ·have g16 : (16 : Int) < n := by omega
  have hres := hid (show chkI 3 A B xs = 2 from chk_large (by decide) (by rw [HN.out]; exact h16))
  go_enter Tryz.func144, Tryz.ntmps144
  go_wp2_with (first | (go_at_call 147; refine (HBS.out _).mono ?_; rintro r w1 ⟨rfl, hb1⟩; have c0 := HC.out _ hb1; have hx1 := HX.out _ hb1; have B1 := hid (HA.out.trans (hb1.mono HA.out.size)); obtain ⟨y0, y1, y2, y3⟩ := c0; have HX1 := hid hx1; clear hb1 hx1) | (go_at_call 156; refine (HI.out _ _).mono ?_; rintro r w2 ⟨rfl, rfl⟩))
  go_ret
  exact ⟨ret1 (by first | (rw [hres.out]; done) | (rw [hres.out]; rfl)), B1.out⟩
 have g16 : ¬ (16 : Int) < n := by omega
 have H16 := hid (show ¬ 16 < xs.length by rw [HN.out]; exact h16)
 by_cases hl : 0 < n
 ·have gl : (0 : Int) < n := by omega
  have hres := hid (show chkI 3 A B xs = 1 from chk_to (by decide) (by decide) H16.out (by rw [HN.out]; exact hl))
  go_enter Tryz.func144, Tryz.ntmps144
  go_wp2_with (first | (go_at_call 147; refine (HBS.out _).mono ?_; rintro r w1 ⟨rfl, hb1⟩; have c0 := HC.out _ hb1; have hx1 := HX.out _ hb1; have B1 := hid (HA.out.trans (hb1.mono HA.out.size)); obtain ⟨y0, y1, y2, y3⟩ := c0; have HX1 := hid hx1; clear hb1 hx1) | (go_at_call 156; refine (HI.out _ _).mono ?_; rintro r w2 ⟨rfl, rfl⟩))
  go_ret
  exact ⟨ret1 (by first | (rw [hres.out]; done) | (rw [hres.out]; rfl)), B1.out⟩
 have gl : ¬ (0 : Int) < n := by omega
 have HL0 := hid (show xs = [] from List.eq_nil_of_length_eq_zero (by rw [HN.out]; omega))
 by_cases hB : B = 0
 ·subst hB
  obtain ⟨g, hg⟩ : ∃ g, isIx A = g := ⟨_, rfl⟩
  have HIA := hid (fun w' => isIndex_any A w')
  rw [hg] at HIA
  have HG := hid (show g = (okA 3 A && okB 3 0) from by simp [okA, okB, hg])
  have HOT := hid (show xs.all isIx = okT 3 xs from by rw [HL0.out]; rfl)
  go_enter Tryz.func144, Tryz.ntmps144
  go_wp2_with (first | (go_at_call 147; refine (HBS.out _).mono ?_; rintro r w1 ⟨rfl, hb1⟩; have c0 := HC.out _ hb1; have hx1 := HX.out _ hb1; have B1 := hid (HA.out.trans (hb1.mono HA.out.size)); obtain ⟨y0, y1, y2, y3⟩ := c0; have HX1 := hid hx1; clear hb1 hx1) | (go_at_call 156; refine (HIA.out _).mono ?_; rintro r w2 ⟨rfl, rfl⟩))
  go_loop [85, 4] (fun i gg => ∃ (j : Nat) (G : Bool), j ≤ n ∧ i = .int .i64 j ∧ gg = .bool G ∧ Hid (G = (g && (xs.take j).all isIx))) (fun i _ => n - (RowKit.intOf i).toNat)
  case atStart => exact ⟨0, g, Nat.zero_le _, rfl, rfl, hid (by simp)⟩
  case round =>
   obtain ⟨j, G, hj, rfl, rfl, hG⟩ := hrel
   by_cases hlt0 : j < n
   ·exfalso; omega
   ·obtain rfl : j = n := by omega
    have hfin := hG.out
    rw [← HN.out, List.take_length, HOT.out, HG.out] at hfin
    have hres := hid (chk_rest (k := 3) (A := A) (B := 0) (xs := xs) (by decide) H16.out)
    rw [← hfin] at hres
    clear hfin hG
    cases G
    ·go_wp2_with fail
     go_ret
     exact ⟨ret1 (by first | (rw [hres.out]; done) | (rw [hres.out]; rfl)), B1.out⟩
    ·go_wp2_with fail
     go_ret
     exact ⟨ret1 (by first | (rw [hres.out]; done) | (rw [hres.out]; rfl)), B1.out⟩
 ·have hB2 : (B != 0) = true := by simpa using hB
  have hres := hid (show chkI 3 A B xs = 1 from by rw [chk_rest (by decide) H16.out, if_neg (by simp [okB, hB])])
  go_enter Tryz.func144, Tryz.ntmps144
  go_wp2_with (first | (go_at_call 147; refine (HBS.out _).mono ?_; rintro r w1 ⟨rfl, hb1⟩; have c0 := HC.out _ hb1; have hx1 := HX.out _ hb1; have B1 := hid (HA.out.trans (hb1.mono HA.out.size)); obtain ⟨y0, y1, y2, y3⟩ := c0; have HX1 := hid hx1; clear hb1 hx1) | (go_at_call 156; refine (HI.out _ _).mono ?_; rintro r w2 ⟨rfl, rfl⟩))
  go_ret
  exact ⟨ret1 (by first | (rw [hres.out]; done) | (rw [hres.out]; rfl)), B1.out⟩

set_option maxRecDepth 100000 in
set_option maxHeartbeats 8000000 in
theorem pchk_4 (op : Nat) (hop : op < 256) (hk : tB op = 4) (A B : Int) (_hA : -9223372036854775808 ≤ A ∧ A ≤ 9223372036854775807) (xs : List Int) (v : Value) (w : World) (hx : Ints w .i64 v xs) :
  Calls Tryz.prog 144 #[insV op A B v] w fun e w' => e = .returned (.int .i64 (chkI 4 A B xs)) ∧ Below w.heap.size w w' := by
 have HBS := hid (fun w' => besides_any op hop w')
 rw [hk] at HBS
 have HI := hid (fun n w' => isIndex_any n w')
 have hA0 : Below w.heap.size w (w.alloc (.cells #[.int .u8 op, .int .i64 A, .int .i64 B, v] 162)) := (Below.refl _ _).alloc (Nat.le_refl _) _
 have hblk := Blk.new w #[.int .u8 op, .int .i64 A, .int .i64 B, v] 162 _ rfl
 have HA := hid hA0
 have HX := hid (qHX hx op A B v 162)
 have HC := hid (qHC hblk)
 obtain ⟨ao, cap, rfl, _⟩ := id hx
 clear hx hA0 hblk hk
 generalize hn : xs.length = n at *
 have HN := hid hn
 clear hn
 by_cases h16 : 16 < n
 ·have g16 : (16 : Int) < n := by omega
  have hres := hid (show chkI 4 A B xs = 2 from chk_large (by decide) (by rw [HN.out]; exact h16))
  go_enter Tryz.func144, Tryz.ntmps144
  go_wp2_with (first | (go_at_call 147; refine (HBS.out _).mono ?_; rintro r w1 ⟨rfl, hb1⟩; have c0 := HC.out _ hb1; have hx1 := HX.out _ hb1; have B1 := hid (HA.out.trans (hb1.mono HA.out.size)); obtain ⟨y0, y1, y2, y3⟩ := c0; have HX1 := hid hx1; clear hb1 hx1) | (go_at_call 156; refine (HI.out _ _).mono ?_; rintro r w2 ⟨rfl, rfl⟩))
  go_ret
  exact ⟨ret1 (by first | (rw [hres.out]; done) | (rw [hres.out]; rfl)), B1.out⟩
 have g16 : ¬ (16 : Int) < n := by omega
 have H16 := hid (show ¬ 16 < xs.length by rw [HN.out]; exact h16)
 by_cases hB : B = 0
 ·subst hB
  obtain ⟨g, hg⟩ : ∃ g, isIx A = g := ⟨_, rfl⟩
  have HIA := hid (fun w' => isIndex_any A w')
  rw [hg] at HIA
  have HG := hid (show g = (okA 4 A && okB 4 0) from by simp [okA, okB, hg])
  have HOT := hid (show xs.all isIx = okT 4 xs from rfl)
  go_enter Tryz.func144, Tryz.ntmps144
  go_wp2_with (first | (go_at_call 147; refine (HBS.out _).mono ?_; rintro r w1 ⟨rfl, hb1⟩; have c0 := HC.out _ hb1; have hx1 := HX.out _ hb1; have B1 := hid (HA.out.trans (hb1.mono HA.out.size)); obtain ⟨y0, y1, y2, y3⟩ := c0; have HX1 := hid hx1; clear hb1 hx1) | (go_at_call 156; refine (HIA.out _).mono ?_; rintro r w2 ⟨rfl, rfl⟩))
  go_loop [85, 4] (fun i gg => ∃ (j : Nat) (G : Bool), j ≤ n ∧ i = .int .i64 j ∧ gg = .bool G ∧ Hid (G = (g && (xs.take j).all isIx))) (fun i _ => n - (RowKit.intOf i).toNat)
  case atStart => exact ⟨0, g, Nat.zero_le _, rfl, rfl, hid (by simp)⟩
  case round =>
   obtain ⟨j, G, hj, rfl, rfl, hG⟩ := hrel
   by_cases hlt0 : j < n
   ·have hlt : j < xs.length := by rw [HN.out]; exact hlt0
    have hltI : (j : Int) < n := by omega
    have hnx := all_take_next xs j hlt
    rcases L1.open HX1.out with ⟨_, _, _, e, _⟩ | ⟨lb, lo, cap', hv, _, _, _, hc⟩
    ·rw [e] at hlt; simp at hlt
    simp only [Value.slice.injEq] at hv
    obtain ⟨rfl, hnn, rfl⟩ := hv
    clear hnn
    have ha := hc j hlt
    generalize xs[j] = m at *
    have HNX := hid hnx
    clear hc hnx hlt
    cases hGb : G
    ·have HG2 := hid (show false = (g && (xs.take (j + 1)).all isIx) by rw [HNX.out, ← Bool.and_assoc, ← hG.out, hGb] <;> rfl)
     clear hGb hG
     go_wp2_with (go_at_call 156; refine (HI.out _ _).mono ?_; rintro r w2 ⟨rfl, rfl⟩)
     go_round
     case rel => exact ⟨j + 1, false, by omega, by go_num, rfl, HG2⟩
     case measure => simp [RowKit.intOf]; omega
    ·have HG2 := hid (show isIx m = (g && (xs.take (j + 1)).all isIx) by rw [HNX.out, ← Bool.and_assoc, ← hG.out, hGb] <;> rfl)
     clear hGb hG
     go_wp2_with (go_at_call 156; refine (HI.out _ _).mono ?_; rintro r w2 ⟨rfl, rfl⟩)
     go_round
     case rel => exact ⟨j + 1, isIx m, by omega, by go_num, rfl, HG2⟩
     case measure => simp [RowKit.intOf]; omega
   ·obtain rfl : j = n := by omega
    have hfin := hG.out
    rw [← HN.out, List.take_length, HOT.out, HG.out] at hfin
    have hres := hid (chk_rest (k := 4) (A := A) (B := 0) (xs := xs) (by decide) H16.out)
    rw [← hfin] at hres
    clear hfin hG
    cases G
    ·go_wp2_with fail
     go_ret
     exact ⟨ret1 (by first | (rw [hres.out]; done) | (rw [hres.out]; rfl)), B1.out⟩
    ·go_wp2_with fail
     go_ret
     exact ⟨ret1 (by first | (rw [hres.out]; done) | (rw [hres.out]; rfl)), B1.out⟩
 ·have hB2 : (B != 0) = true := by simpa using hB
  have hres := hid (show chkI 4 A B xs = 1 from by rw [chk_rest (by decide) H16.out, if_neg (by simp [okB, hB])])
  go_enter Tryz.func144, Tryz.ntmps144
  go_wp2_with (first | (go_at_call 147; refine (HBS.out _).mono ?_; rintro r w1 ⟨rfl, hb1⟩; have c0 := HC.out _ hb1; have hx1 := HX.out _ hb1; have B1 := hid (HA.out.trans (hb1.mono HA.out.size)); obtain ⟨y0, y1, y2, y3⟩ := c0; have HX1 := hid hx1; clear hb1 hx1) | (go_at_call 156; refine (HI.out _ _).mono ?_; rintro r w2 ⟨rfl, rfl⟩))
  go_ret
  exact ⟨ret1 (by first | (rw [hres.out]; done) | (rw [hres.out]; rfl)), B1.out⟩

set_option maxRecDepth 100000 in
set_option maxHeartbeats 8000000 in
theorem pchk_5 (op : Nat) (hop : op < 256) (hk : tB op = 5) (A B : Int) (_hA : -9223372036854775808 ≤ A ∧ A ≤ 9223372036854775807) (xs : List Int) (v : Value) (w : World) (hx : Ints w .i64 v xs) :
  Calls Tryz.prog 144 #[insV op A B v] w fun e w' => e = .returned (.int .i64 (chkI 5 A B xs)) ∧ Below w.heap.size w w' := by
 have HBS := hid (fun w' => besides_any op hop w')
 rw [hk] at HBS
 have HI := hid (fun n w' => isIndex_any n w')
 have hA0 : Below w.heap.size w (w.alloc (.cells #[.int .u8 op, .int .i64 A, .int .i64 B, v] 162)) := (Below.refl _ _).alloc (Nat.le_refl _) _
 have hblk := Blk.new w #[.int .u8 op, .int .i64 A, .int .i64 B, v] 162 _ rfl
 have HA := hid hA0
 have HX := hid (qHX hx op A B v 162)
 have HC := hid (qHC hblk)
 obtain ⟨ao, cap, rfl, _⟩ := id hx
 clear hx hA0 hblk hk
 generalize hn : xs.length = n at *
 have HN := hid hn
 clear hn
 by_cases h16 : 16 < n
 ·have g16 : (16 : Int) < n := by omega
  have hres := hid (show chkI 5 A B xs = 2 from chk_large (by decide) (by rw [HN.out]; exact h16))
  go_enter Tryz.func144, Tryz.ntmps144
  go_wp2_with (first | (go_at_call 147; refine (HBS.out _).mono ?_; rintro r w1 ⟨rfl, hb1⟩; have c0 := HC.out _ hb1; have hx1 := HX.out _ hb1; have B1 := hid (HA.out.trans (hb1.mono HA.out.size)); obtain ⟨y0, y1, y2, y3⟩ := c0; have HX1 := hid hx1; clear hb1 hx1) | (go_at_call 156; refine (HI.out _ _).mono ?_; rintro r w2 ⟨rfl, rfl⟩))
  go_ret
  exact ⟨ret1 (by first | (rw [hres.out]; done) | (rw [hres.out]; rfl)), B1.out⟩
 have g16 : ¬ (16 : Int) < n := by omega
 have H16 := hid (show ¬ 16 < xs.length by rw [HN.out]; exact h16)
 by_cases hl : 0 < n
 ·have gl : (0 : Int) < n := by omega
  have hres := hid (show chkI 5 A B xs = 1 from chk_to (by decide) (by decide) H16.out (by rw [HN.out]; exact hl))
  go_enter Tryz.func144, Tryz.ntmps144
  go_wp2_with (first | (go_at_call 147; refine (HBS.out _).mono ?_; rintro r w1 ⟨rfl, hb1⟩; have c0 := HC.out _ hb1; have hx1 := HX.out _ hb1; have B1 := hid (HA.out.trans (hb1.mono HA.out.size)); obtain ⟨y0, y1, y2, y3⟩ := c0; have HX1 := hid hx1; clear hb1 hx1) | (go_at_call 156; refine (HI.out _ _).mono ?_; rintro r w2 ⟨rfl, rfl⟩))
  go_ret
  exact ⟨ret1 (by first | (rw [hres.out]; done) | (rw [hres.out]; rfl)), B1.out⟩
 have gl : ¬ (0 : Int) < n := by omega
 have HL0 := hid (show xs = [] from List.eq_nil_of_length_eq_zero (by rw [HN.out]; omega))
 by_cases hB : B = 0
 ·subst hB
  obtain ⟨g, hg⟩ : ∃ g, isIx A = g := ⟨_, rfl⟩
  have HIA := hid (fun w' => isIndex_any A w')
  rw [hg] at HIA
  have HG := hid (show g = (okA 5 A && okB 5 0) from by simp [okA, okB, hg])
  have HOT := hid (show xs.all isIx = okT 5 xs from by rw [HL0.out]; rfl)
  go_enter Tryz.func144, Tryz.ntmps144
  go_wp2_with (first | (go_at_call 147; refine (HBS.out _).mono ?_; rintro r w1 ⟨rfl, hb1⟩; have c0 := HC.out _ hb1; have hx1 := HX.out _ hb1; have B1 := hid (HA.out.trans (hb1.mono HA.out.size)); obtain ⟨y0, y1, y2, y3⟩ := c0; have HX1 := hid hx1; clear hb1 hx1) | (go_at_call 156; refine (HIA.out _).mono ?_; rintro r w2 ⟨rfl, rfl⟩))
  go_loop [85, 4] (fun i gg => ∃ (j : Nat) (G : Bool), j ≤ n ∧ i = .int .i64 j ∧ gg = .bool G ∧ Hid (G = (g && (xs.take j).all isIx))) (fun i _ => n - (RowKit.intOf i).toNat)
  case atStart => exact ⟨0, g, Nat.zero_le _, rfl, rfl, hid (by simp)⟩
  case round =>
   obtain ⟨j, G, hj, rfl, rfl, hG⟩ := hrel
   by_cases hlt0 : j < n
   ·exfalso; omega
   ·obtain rfl : j = n := by omega
    have hfin := hG.out
    rw [← HN.out, List.take_length, HOT.out, HG.out] at hfin
    have hres := hid (chk_rest (k := 5) (A := A) (B := 0) (xs := xs) (by decide) H16.out)
    rw [← hfin] at hres
    clear hfin hG
    cases G
    ·go_wp2_with fail
     go_ret
     exact ⟨ret1 (by first | (rw [hres.out]; done) | (rw [hres.out]; rfl)), B1.out⟩
    ·go_wp2_with fail
     go_ret
     exact ⟨ret1 (by first | (rw [hres.out]; done) | (rw [hres.out]; rfl)), B1.out⟩
 ·have hB2 : (B != 0) = true := by simpa using hB
  have hres := hid (show chkI 5 A B xs = 1 from by rw [chk_rest (by decide) H16.out, if_neg (by simp [okB, hB])])
  go_enter Tryz.func144, Tryz.ntmps144
  go_wp2_with (first | (go_at_call 147; refine (HBS.out _).mono ?_; rintro r w1 ⟨rfl, hb1⟩; have c0 := HC.out _ hb1; have hx1 := HX.out _ hb1; have B1 := hid (HA.out.trans (hb1.mono HA.out.size)); obtain ⟨y0, y1, y2, y3⟩ := c0; have HX1 := hid hx1; clear hb1 hx1) | (go_at_call 156; refine (HI.out _ _).mono ?_; rintro r w2 ⟨rfl, rfl⟩))
  go_ret
  exact ⟨ret1 (by first | (rw [hres.out]; done) | (rw [hres.out]; rfl)), B1.out⟩

set_option maxRecDepth 100000 in
set_option maxHeartbeats 8000000 in
theorem pchk_6 (op : Nat) (hop : op < 256) (hk : tB op = 6) (A B : Int) (_hA : -9223372036854775808 ≤ A ∧ A ≤ 9223372036854775807) (xs : List Int) (v : Value) (w : World) (hx : Ints w .i64 v xs) :
  Calls Tryz.prog 144 #[insV op A B v] w fun e w' => e = .returned (.int .i64 (chkI 6 A B xs)) ∧ Below w.heap.size w w' := by
 have HBS := hid (fun w' => besides_any op hop w')
 rw [hk] at HBS
 have HI := hid (fun n w' => isIndex_any n w')
 have hA0 : Below w.heap.size w (w.alloc (.cells #[.int .u8 op, .int .i64 A, .int .i64 B, v] 162)) := (Below.refl _ _).alloc (Nat.le_refl _) _
 have hblk := Blk.new w #[.int .u8 op, .int .i64 A, .int .i64 B, v] 162 _ rfl
 have HA := hid hA0
 have HX := hid (qHX hx op A B v 162)
 have HC := hid (qHC hblk)
 obtain ⟨ao, cap, rfl, _⟩ := id hx
 clear hx hA0 hblk hk
 generalize hn : xs.length = n at *
 have HN := hid hn
 clear hn
 by_cases h16 : 16 < n
 ·have g16 : (16 : Int) < n := by omega
  have hres := hid (show chkI 6 A B xs = 2 from chk_large (by decide) (by rw [HN.out]; exact h16))
  go_enter Tryz.func144, Tryz.ntmps144
  go_wp2_with (first | (go_at_call 147; refine (HBS.out _).mono ?_; rintro r w1 ⟨rfl, hb1⟩; have c0 := HC.out _ hb1; have hx1 := HX.out _ hb1; have B1 := hid (HA.out.trans (hb1.mono HA.out.size)); obtain ⟨y0, y1, y2, y3⟩ := c0; have HX1 := hid hx1; clear hb1 hx1) | (go_at_call 156; refine (HI.out _ _).mono ?_; rintro r w2 ⟨rfl, rfl⟩))
  go_ret
  exact ⟨ret1 (by first | (rw [hres.out]; done) | (rw [hres.out]; rfl)), B1.out⟩
 have g16 : ¬ (16 : Int) < n := by omega
 have H16 := hid (show ¬ 16 < xs.length by rw [HN.out]; exact h16)
 by_cases hl : 0 < n
 ·have gl : (0 : Int) < n := by omega
  have hres := hid (show chkI 6 A B xs = 1 from chk_to (by decide) (by decide) H16.out (by rw [HN.out]; exact hl))
  go_enter Tryz.func144, Tryz.ntmps144
  go_wp2_with (first | (go_at_call 147; refine (HBS.out _).mono ?_; rintro r w1 ⟨rfl, hb1⟩; have c0 := HC.out _ hb1; have hx1 := HX.out _ hb1; have B1 := hid (HA.out.trans (hb1.mono HA.out.size)); obtain ⟨y0, y1, y2, y3⟩ := c0; have HX1 := hid hx1; clear hb1 hx1) | (go_at_call 156; refine (HI.out _ _).mono ?_; rintro r w2 ⟨rfl, rfl⟩))
  go_ret
  exact ⟨ret1 (by first | (rw [hres.out]; done) | (rw [hres.out]; rfl)), B1.out⟩
 have gl : ¬ (0 : Int) < n := by omega
 have HL0 := hid (show xs = [] from List.eq_nil_of_length_eq_zero (by rw [HN.out]; omega))
 cases hz : isIx A
 ·have HIA := hid (fun w' => isIndex_any A w')
  rw [hz] at HIA
  have HG := hid (show false = (okA 6 A && okB 6 B) from by simp [okA, hz])
  have HOT := hid (show xs.all isIx = okT 6 xs from by rw [HL0.out]; rfl)
  go_enter Tryz.func144, Tryz.ntmps144
  go_wp2_with (first | (go_at_call 147; refine (HBS.out _).mono ?_; rintro r w1 ⟨rfl, hb1⟩; have c0 := HC.out _ hb1; have hx1 := HX.out _ hb1; have B1 := hid (HA.out.trans (hb1.mono HA.out.size)); obtain ⟨y0, y1, y2, y3⟩ := c0; have HX1 := hid hx1; clear hb1 hx1) | (go_at_call 156; refine (HIA.out _).mono ?_; rintro r w2 ⟨rfl, rfl⟩))
  go_loop [85, 4] (fun i gg => ∃ (j : Nat) (G : Bool), j ≤ n ∧ i = .int .i64 j ∧ gg = .bool G ∧ Hid (G = (false && (xs.take j).all isIx))) (fun i _ => n - (RowKit.intOf i).toNat)
  case atStart => exact ⟨0, false, Nat.zero_le _, rfl, rfl, hid (by simp)⟩
  case round =>
   obtain ⟨j, G, hj, rfl, rfl, hG⟩ := hrel
   by_cases hlt0 : j < n
   ·exfalso; omega
   ·obtain rfl : j = n := by omega
    have hfin := hG.out
    rw [← HN.out, List.take_length, HOT.out, HG.out] at hfin
    have hres := hid (chk_rest (k := 6) (A := A) (B := B) (xs := xs) (by decide) H16.out)
    rw [← hfin] at hres
    clear hfin hG
    cases G
    ·go_wp2_with fail
     go_ret
     exact ⟨ret1 (by first | (rw [hres.out]; done) | (rw [hres.out]; rfl)), B1.out⟩
    ·go_wp2_with fail
     go_ret
     exact ⟨ret1 (by first | (rw [hres.out]; done) | (rw [hres.out]; rfl)), B1.out⟩
 ·obtain ⟨g, hg⟩ : ∃ g, isIx B = g := ⟨_, rfl⟩
  have HIA := hid (fun w' => isIndex_any A w')
  have HIB := hid (fun w' => isIndex_any B w')
  rw [hz] at HIA
  rw [hg] at HIB
  have HG := hid (show g = (okA 6 A && okB 6 B) from by simp [okA, okB, hz, hg])
  have HOT := hid (show xs.all isIx = okT 6 xs from by rw [HL0.out]; rfl)
  go_enter Tryz.func144, Tryz.ntmps144
  go_wp2_with (first | (go_at_call 147; refine (HBS.out _).mono ?_; rintro r w1 ⟨rfl, hb1⟩; have c0 := HC.out _ hb1; have hx1 := HX.out _ hb1; have B1 := hid (HA.out.trans (hb1.mono HA.out.size)); obtain ⟨y0, y1, y2, y3⟩ := c0; have HX1 := hid hx1; clear hb1 hx1) | (go_at_call 156; with_reducible refine (HIA.out _).mono ?_; rintro r w2 ⟨rfl, rfl⟩) | (go_at_call 156; with_reducible refine (HIB.out _).mono ?_; rintro r w3 ⟨rfl, rfl⟩))
  go_loop [85, 4] (fun i gg => ∃ (j : Nat) (G : Bool), j ≤ n ∧ i = .int .i64 j ∧ gg = .bool G ∧ Hid (G = (g && (xs.take j).all isIx))) (fun i _ => n - (RowKit.intOf i).toNat)
  case atStart => exact ⟨0, g, Nat.zero_le _, rfl, rfl, hid (by simp)⟩
  case round =>
   obtain ⟨j, G, hj, rfl, rfl, hG⟩ := hrel
   by_cases hlt0 : j < n
   ·exfalso; omega
   ·obtain rfl : j = n := by omega
    have hfin := hG.out
    rw [← HN.out, List.take_length, HOT.out, HG.out] at hfin
    have hres := hid (chk_rest (k := 6) (A := A) (B := B) (xs := xs) (by decide) H16.out)
    rw [← hfin] at hres
    clear hfin hG
    cases G
    ·go_wp2_with fail
     go_ret
     exact ⟨ret1 (by first | (rw [hres.out]; done) | (rw [hres.out]; rfl)), B1.out⟩
    ·go_wp2_with fail
     go_ret
     exact ⟨ret1 (by first | (rw [hres.out]; done) | (rw [hres.out]; rfl)), B1.out⟩

set_option maxRecDepth 100000 in
set_option maxHeartbeats 8000000 in
theorem pchk_7 (op : Nat) (hop : op < 256) (hk : tB op = 7) (A B : Int) (hA : -9223372036854775808 ≤ A ∧ A ≤ 9223372036854775807) (xs : List Int) (v : Value) (w : World) (hx : Ints w .i64 v xs) :
  Calls Tryz.prog 144 #[insV op A B v] w fun e w' => e = .returned (.int .i64 (chkI 7 A B xs)) ∧ Below w.heap.size w w' := by
 have HBS := hid (fun w' => besides_any op hop w')
 rw [hk] at HBS
 have HI := hid (fun n w' => isIndex_any n w')
 have hA0 : Below w.heap.size w (w.alloc (.cells #[.int .u8 op, .int .i64 A, .int .i64 B, v] 162)) := (Below.refl _ _).alloc (Nat.le_refl _) _
 have hblk := Blk.new w #[.int .u8 op, .int .i64 A, .int .i64 B, v] 162 _ rfl
 have HA := hid hA0
 have HX := hid (qHX hx op A B v 162)
 have HC := hid (qHC hblk)
 obtain ⟨ao, cap, rfl, _⟩ := id hx
 clear hx hA0 hblk hk
 generalize hn : xs.length = n at *
 have HN := hid hn
 clear hn
 by_cases h16 : 16 < n
 ·have g16 : (16 : Int) < n := by omega
  have hres := hid (show chkI 7 A B xs = 2 from chk_large (by decide) (by rw [HN.out]; exact h16))
  go_enter Tryz.func144, Tryz.ntmps144
  go_wp2_with (first | (go_at_call 147; refine (HBS.out _).mono ?_; rintro r w1 ⟨rfl, hb1⟩; have c0 := HC.out _ hb1; have hx1 := HX.out _ hb1; have B1 := hid (HA.out.trans (hb1.mono HA.out.size)); obtain ⟨y0, y1, y2, y3⟩ := c0; have HX1 := hid hx1; clear hb1 hx1) | (go_at_call 156; refine (HI.out _ _).mono ?_; rintro r w2 ⟨rfl, rfl⟩))
  go_ret
  exact ⟨ret1 (by first | (rw [hres.out]; done) | (rw [hres.out]; rfl)), B1.out⟩
 have g16 : ¬ (16 : Int) < n := by omega
 have H16 := hid (show ¬ 16 < xs.length by rw [HN.out]; exact h16)
 by_cases hl : 0 < n
 ·have gl : (0 : Int) < n := by omega
  have hres := hid (show chkI 7 A B xs = 1 from chk_to (by decide) (by decide) H16.out (by rw [HN.out]; exact hl))
  go_enter Tryz.func144, Tryz.ntmps144
  go_wp2_with (first | (go_at_call 147; refine (HBS.out _).mono ?_; rintro r w1 ⟨rfl, hb1⟩; have c0 := HC.out _ hb1; have hx1 := HX.out _ hb1; have B1 := hid (HA.out.trans (hb1.mono HA.out.size)); obtain ⟨y0, y1, y2, y3⟩ := c0; have HX1 := hid hx1; clear hb1 hx1) | (go_at_call 156; refine (HI.out _ _).mono ?_; rintro r w2 ⟨rfl, rfl⟩))
  go_ret
  exact ⟨ret1 (by first | (rw [hres.out]; done) | (rw [hres.out]; rfl)), B1.out⟩
 have gl : ¬ (0 : Int) < n := by omega
 have HL0 := hid (show xs = [] from List.eq_nil_of_length_eq_zero (by rw [HN.out]; omega))
 by_cases hB : B = 0
 ·subst hB
  by_cases hz : A = 0
  ·subst hz
   have HG := hid (show true = (okA 7 0 && okB 7 0) from rfl)
   have HOT := hid (show xs.all isIx = okT 7 xs from by rw [HL0.out]; rfl)
   go_enter Tryz.func144, Tryz.ntmps144
   go_wp2_with (first | (go_at_call 147; refine (HBS.out _).mono ?_; rintro r w1 ⟨rfl, hb1⟩; have c0 := HC.out _ hb1; have hx1 := HX.out _ hb1; have B1 := hid (HA.out.trans (hb1.mono HA.out.size)); obtain ⟨y0, y1, y2, y3⟩ := c0; have HX1 := hid hx1; clear hb1 hx1) | (go_at_call 156; refine (HI.out _ _).mono ?_; rintro r w2 ⟨rfl, rfl⟩))
   go_loop [85, 4] (fun i gg => ∃ (j : Nat) (G : Bool), j ≤ n ∧ i = .int .i64 j ∧ gg = .bool G ∧ Hid (G = (true && (xs.take j).all isIx))) (fun i _ => n - (RowKit.intOf i).toNat)
   case atStart => exact ⟨0, true, Nat.zero_le _, rfl, rfl, hid (by simp)⟩
   case round =>
    obtain ⟨j, G, hj, rfl, rfl, hG⟩ := hrel
    by_cases hlt0 : j < n
    ·exfalso; omega
    ·obtain rfl : j = n := by omega
     have hfin := hG.out
     rw [← HN.out, List.take_length, HOT.out, HG.out] at hfin
     have hres := hid (chk_rest (k := 7) (A := 0) (B := 0) (xs := xs) (by decide) H16.out)
     rw [← hfin] at hres
     clear hfin hG
     cases G
     ·go_wp2_with fail
      go_ret
      exact ⟨ret1 (by first | (rw [hres.out]; done) | (rw [hres.out]; rfl)), B1.out⟩
     ·go_wp2_with fail
      go_ret
      exact ⟨ret1 (by first | (rw [hres.out]; done) | (rw [hres.out]; rfl)), B1.out⟩
  ·have hz2 : (A == 0) = false := by simpa using hz
   have HG := hid (show false = (okA 7 A && okB 7 0) from by simp [okA, hz])
   have HOT := hid (show xs.all isIx = okT 7 xs from by rw [HL0.out]; rfl)
   go_enter Tryz.func144, Tryz.ntmps144
   go_wp2_with (first | (go_at_call 147; refine (HBS.out _).mono ?_; rintro r w1 ⟨rfl, hb1⟩; have c0 := HC.out _ hb1; have hx1 := HX.out _ hb1; have B1 := hid (HA.out.trans (hb1.mono HA.out.size)); obtain ⟨y0, y1, y2, y3⟩ := c0; have HX1 := hid hx1; clear hb1 hx1) | (go_at_call 156; refine (HI.out _ _).mono ?_; rintro r w2 ⟨rfl, rfl⟩))
   go_loop [85, 4] (fun i gg => ∃ (j : Nat) (G : Bool), j ≤ n ∧ i = .int .i64 j ∧ gg = .bool G ∧ Hid (G = (false && (xs.take j).all isIx))) (fun i _ => n - (RowKit.intOf i).toNat)
   case atStart => exact ⟨0, false, Nat.zero_le _, rfl, rfl, hid (by simp)⟩
   case round =>
    obtain ⟨j, G, hj, rfl, rfl, hG⟩ := hrel
    by_cases hlt0 : j < n
    ·exfalso; omega
    ·obtain rfl : j = n := by omega
     have hfin := hG.out
     rw [← HN.out, List.take_length, HOT.out, HG.out] at hfin
     have hres := hid (chk_rest (k := 7) (A := A) (B := 0) (xs := xs) (by decide) H16.out)
     rw [← hfin] at hres
     clear hfin hG
     cases G
     ·go_wp2_with fail
      go_ret
      exact ⟨ret1 (by first | (rw [hres.out]; done) | (rw [hres.out]; rfl)), B1.out⟩
     ·go_wp2_with fail
      go_ret
      exact ⟨ret1 (by first | (rw [hres.out]; done) | (rw [hres.out]; rfl)), B1.out⟩
 ·have hB2 : (B != 0) = true := by simpa using hB
  have hres := hid (show chkI 7 A B xs = 1 from by rw [chk_rest (by decide) H16.out, if_neg (by simp [okB, hB])])
  go_enter Tryz.func144, Tryz.ntmps144
  go_wp2_with (first | (go_at_call 147; refine (HBS.out _).mono ?_; rintro r w1 ⟨rfl, hb1⟩; have c0 := HC.out _ hb1; have hx1 := HX.out _ hb1; have B1 := hid (HA.out.trans (hb1.mono HA.out.size)); obtain ⟨y0, y1, y2, y3⟩ := c0; have HX1 := hid hx1; clear hb1 hx1) | (go_at_call 156; refine (HI.out _ _).mono ?_; rintro r w2 ⟨rfl, rfl⟩))
  go_ret
  exact ⟨ret1 (by first | (rw [hres.out]; done) | (rw [hres.out]; rfl)), B1.out⟩

set_option maxRecDepth 100000 in
set_option maxHeartbeats 8000000 in
theorem pchk_8 (op : Nat) (hop : op < 256) (hk : tB op = 8) (A B : Int) (hA : -9223372036854775808 ≤ A ∧ A ≤ 9223372036854775807) (xs : List Int) (v : Value) (w : World) (hx : Ints w .i64 v xs) :
  Calls Tryz.prog 144 #[insV op A B v] w fun e w' => e = .returned (.int .i64 (chkI 8 A B xs)) ∧ Below w.heap.size w w' := by
 have HBS := hid (fun w' => besides_any op hop w')
 rw [hk] at HBS
 have HI := hid (fun n w' => isIndex_any n w')
 have hA0 : Below w.heap.size w (w.alloc (.cells #[.int .u8 op, .int .i64 A, .int .i64 B, v] 162)) := (Below.refl _ _).alloc (Nat.le_refl _) _
 have hblk := Blk.new w #[.int .u8 op, .int .i64 A, .int .i64 B, v] 162 _ rfl
 have HA := hid hA0
 have HX := hid (qHX hx op A B v 162)
 have HC := hid (qHC hblk)
 obtain ⟨ao, cap, rfl, _⟩ := id hx
 clear hx hA0 hblk hk
 generalize hn : xs.length = n at *
 have HN := hid hn
 clear hn
 by_cases h16 : 16 < n
 ·have g16 : (16 : Int) < n := by omega
  have hres := hid (show chkI 8 A B xs = 2 from chk_large (by decide) (by rw [HN.out]; exact h16))
  go_enter Tryz.func144, Tryz.ntmps144
  go_wp2_with (first | (go_at_call 147; refine (HBS.out _).mono ?_; rintro r w1 ⟨rfl, hb1⟩; have c0 := HC.out _ hb1; have hx1 := HX.out _ hb1; have B1 := hid (HA.out.trans (hb1.mono HA.out.size)); obtain ⟨y0, y1, y2, y3⟩ := c0; have HX1 := hid hx1; clear hb1 hx1) | (go_at_call 156; refine (HI.out _ _).mono ?_; rintro r w2 ⟨rfl, rfl⟩))
  go_ret
  exact ⟨ret1 (by first | (rw [hres.out]; done) | (rw [hres.out]; rfl)), B1.out⟩
 have g16 : ¬ (16 : Int) < n := by omega
 have H16 := hid (show ¬ 16 < xs.length by rw [HN.out]; exact h16)
 by_cases hl : 0 < n
 ·have gl : (0 : Int) < n := by omega
  have hres := hid (show chkI 8 A B xs = 1 from chk_to (by decide) (by decide) H16.out (by rw [HN.out]; exact hl))
  go_enter Tryz.func144, Tryz.ntmps144
  go_wp2_with (first | (go_at_call 147; refine (HBS.out _).mono ?_; rintro r w1 ⟨rfl, hb1⟩; have c0 := HC.out _ hb1; have hx1 := HX.out _ hb1; have B1 := hid (HA.out.trans (hb1.mono HA.out.size)); obtain ⟨y0, y1, y2, y3⟩ := c0; have HX1 := hid hx1; clear hb1 hx1) | (go_at_call 156; refine (HI.out _ _).mono ?_; rintro r w2 ⟨rfl, rfl⟩))
  go_ret
  exact ⟨ret1 (by first | (rw [hres.out]; done) | (rw [hres.out]; rfl)), B1.out⟩
 have gl : ¬ (0 : Int) < n := by omega
 have HL0 := hid (show xs = [] from List.eq_nil_of_length_eq_zero (by rw [HN.out]; omega))
 by_cases hB : B = 0
 ·subst hB
  by_cases hz : -2147483648 ≤ A ∧ A ≤ 2147483647
  ·have hz2 : wrap32 A = A := by unfold wrap32; omega
   have hz3 : wrap64 A = A := by unfold wrap64; omega
   have HG := hid (show true = (okA 8 A && okB 8 0) from by simp [okA, okB, hz])
   have HOT := hid (show xs.all isIx = okT 8 xs from by rw [HL0.out]; rfl)
   go_enter Tryz.func144, Tryz.ntmps144
   go_wp2_with (first | (go_at_call 147; refine (HBS.out _).mono ?_; rintro r w1 ⟨rfl, hb1⟩; have c0 := HC.out _ hb1; have hx1 := HX.out _ hb1; have B1 := hid (HA.out.trans (hb1.mono HA.out.size)); obtain ⟨y0, y1, y2, y3⟩ := c0; have HX1 := hid hx1; clear hb1 hx1) | (go_at_call 156; refine (HI.out _ _).mono ?_; rintro r w2 ⟨rfl, rfl⟩))
   go_loop [85, 4] (fun i gg => ∃ (j : Nat) (G : Bool), j ≤ n ∧ i = .int .i64 j ∧ gg = .bool G ∧ Hid (G = (true && (xs.take j).all isIx))) (fun i _ => n - (RowKit.intOf i).toNat)
   case atStart => exact ⟨0, true, Nat.zero_le _, rfl, rfl, hid (by simp)⟩
   case round =>
    obtain ⟨j, G, hj, rfl, rfl, hG⟩ := hrel
    by_cases hlt0 : j < n
    ·exfalso; omega
    ·obtain rfl : j = n := by omega
     have hfin := hG.out
     rw [← HN.out, List.take_length, HOT.out, HG.out] at hfin
     have hres := hid (chk_rest (k := 8) (A := A) (B := 0) (xs := xs) (by decide) H16.out)
     rw [← hfin] at hres
     clear hfin hG
     cases G
     ·go_wp2_with fail
      go_ret
      exact ⟨ret1 (by first | (rw [hres.out]; done) | (rw [hres.out]; rfl)), B1.out⟩
     ·go_wp2_with fail
      go_ret
      exact ⟨ret1 (by first | (rw [hres.out]; done) | (rw [hres.out]; rfl)), B1.out⟩
  ·have hz2 : (A == wrap64 (wrap32 A)) = false := by
    rw [beq_eq_false_iff_ne]; unfold wrap64 wrap32; omega
   have HG := hid (show false = (okA 8 A && okB 8 0) from by simp [okA]; omega)
   have HOT := hid (show xs.all isIx = okT 8 xs from by rw [HL0.out]; rfl)
   go_enter Tryz.func144, Tryz.ntmps144
   go_wp2_with (first | (go_at_call 147; refine (HBS.out _).mono ?_; rintro r w1 ⟨rfl, hb1⟩; have c0 := HC.out _ hb1; have hx1 := HX.out _ hb1; have B1 := hid (HA.out.trans (hb1.mono HA.out.size)); obtain ⟨y0, y1, y2, y3⟩ := c0; have HX1 := hid hx1; clear hb1 hx1) | (go_at_call 156; refine (HI.out _ _).mono ?_; rintro r w2 ⟨rfl, rfl⟩))
   go_loop [85, 4] (fun i gg => ∃ (j : Nat) (G : Bool), j ≤ n ∧ i = .int .i64 j ∧ gg = .bool G ∧ Hid (G = (false && (xs.take j).all isIx))) (fun i _ => n - (RowKit.intOf i).toNat)
   case atStart => exact ⟨0, false, Nat.zero_le _, rfl, rfl, hid (by simp)⟩
   case round =>
    obtain ⟨j, G, hj, rfl, rfl, hG⟩ := hrel
    by_cases hlt0 : j < n
    ·exfalso; omega
    ·obtain rfl : j = n := by omega
     have hfin := hG.out
     rw [← HN.out, List.take_length, HOT.out, HG.out] at hfin
     have hres := hid (chk_rest (k := 8) (A := A) (B := 0) (xs := xs) (by decide) H16.out)
     rw [← hfin] at hres
     clear hfin hG
     cases G
     ·go_wp2_with fail
      go_ret
      exact ⟨ret1 (by first | (rw [hres.out]; done) | (rw [hres.out]; rfl)), B1.out⟩
     ·go_wp2_with fail
      go_ret
      exact ⟨ret1 (by first | (rw [hres.out]; done) | (rw [hres.out]; rfl)), B1.out⟩
 ·have hB2 : (B != 0) = true := by simpa using hB
  have hres := hid (show chkI 8 A B xs = 1 from by rw [chk_rest (by decide) H16.out, if_neg (by simp [okB, hB])])
  go_enter Tryz.func144, Tryz.ntmps144
  go_wp2_with (first | (go_at_call 147; refine (HBS.out _).mono ?_; rintro r w1 ⟨rfl, hb1⟩; have c0 := HC.out _ hb1; have hx1 := HX.out _ hb1; have B1 := hid (HA.out.trans (hb1.mono HA.out.size)); obtain ⟨y0, y1, y2, y3⟩ := c0; have HX1 := hid hx1; clear hb1 hx1) | (go_at_call 156; refine (HI.out _ _).mono ?_; rintro r w2 ⟨rfl, rfl⟩))
  go_ret
  exact ⟨ret1 (by first | (rw [hres.out]; done) | (rw [hres.out]; rfl)), B1.out⟩

set_option maxRecDepth 100000 in
set_option maxHeartbeats 8000000 in
theorem pchk_9 (op : Nat) (hop : op < 256) (hk : tB op = 9) (A B : Int) (_hA : -9223372036854775808 ≤ A ∧ A ≤ 9223372036854775807) (xs : List Int) (v : Value) (w : World) (hx : Ints w .i64 v xs) :
  Calls Tryz.prog 144 #[insV op A B v] w fun e w' => e = .returned (.int .i64 (chkI 9 A B xs)) ∧ Below w.heap.size w w' := by
 have HBS := hid (fun w' => besides_any op hop w')
 rw [hk] at HBS
 have HI := hid (fun n w' => isIndex_any n w')
 have hA0 : Below w.heap.size w (w.alloc (.cells #[.int .u8 op, .int .i64 A, .int .i64 B, v] 162)) := (Below.refl _ _).alloc (Nat.le_refl _) _
 have hblk := Blk.new w #[.int .u8 op, .int .i64 A, .int .i64 B, v] 162 _ rfl
 have HA := hid hA0
 have HX := hid (qHX hx op A B v 162)
 have HC := hid (qHC hblk)
 obtain ⟨ao, cap, rfl, _⟩ := id hx
 clear hx hA0 hblk hk
 generalize hn : xs.length = n at *
 have HN := hid hn
 clear hn
 by_cases h16 : 16 < n
 ·have g16 : (16 : Int) < n := by omega
  have hres := hid (show chkI 9 A B xs = 2 from chk_large (by decide) (by rw [HN.out]; exact h16))
  go_enter Tryz.func144, Tryz.ntmps144
  go_wp2_with (first | (go_at_call 147; refine (HBS.out _).mono ?_; rintro r w1 ⟨rfl, hb1⟩; have c0 := HC.out _ hb1; have hx1 := HX.out _ hb1; have B1 := hid (HA.out.trans (hb1.mono HA.out.size)); obtain ⟨y0, y1, y2, y3⟩ := c0; have HX1 := hid hx1; clear hb1 hx1) | (go_at_call 156; refine (HI.out _ _).mono ?_; rintro r w2 ⟨rfl, rfl⟩))
  go_ret
  exact ⟨ret1 (by first | (rw [hres.out]; done) | (rw [hres.out]; rfl)), B1.out⟩
 have g16 : ¬ (16 : Int) < n := by omega
 have H16 := hid (show ¬ 16 < xs.length by rw [HN.out]; exact h16)
 by_cases hl : 0 < n
 ·have gl : (0 : Int) < n := by omega
  have hres := hid (show chkI 9 A B xs = 1 from chk_to (by decide) (by decide) H16.out (by rw [HN.out]; exact hl))
  go_enter Tryz.func144, Tryz.ntmps144
  go_wp2_with (first | (go_at_call 147; refine (HBS.out _).mono ?_; rintro r w1 ⟨rfl, hb1⟩; have c0 := HC.out _ hb1; have hx1 := HX.out _ hb1; have B1 := hid (HA.out.trans (hb1.mono HA.out.size)); obtain ⟨y0, y1, y2, y3⟩ := c0; have HX1 := hid hx1; clear hb1 hx1) | (go_at_call 156; refine (HI.out _ _).mono ?_; rintro r w2 ⟨rfl, rfl⟩))
  go_ret
  exact ⟨ret1 (by first | (rw [hres.out]; done) | (rw [hres.out]; rfl)), B1.out⟩
 have gl : ¬ (0 : Int) < n := by omega
 have HL0 := hid (show xs = [] from List.eq_nil_of_length_eq_zero (by rw [HN.out]; omega))
 by_cases hB : B = 0
 ·subst hB
  have HG := hid (show true = (okA 9 A && okB 9 0) from rfl)
  have HOT := hid (show xs.all isIx = okT 9 xs from by rw [HL0.out]; rfl)
  go_enter Tryz.func144, Tryz.ntmps144
  go_wp2_with (first | (go_at_call 147; refine (HBS.out _).mono ?_; rintro r w1 ⟨rfl, hb1⟩; have c0 := HC.out _ hb1; have hx1 := HX.out _ hb1; have B1 := hid (HA.out.trans (hb1.mono HA.out.size)); obtain ⟨y0, y1, y2, y3⟩ := c0; have HX1 := hid hx1; clear hb1 hx1) | (go_at_call 156; refine (HI.out _ _).mono ?_; rintro r w2 ⟨rfl, rfl⟩))
  go_loop [85, 4] (fun i gg => ∃ (j : Nat) (G : Bool), j ≤ n ∧ i = .int .i64 j ∧ gg = .bool G ∧ Hid (G = (true && (xs.take j).all isIx))) (fun i _ => n - (RowKit.intOf i).toNat)
  case atStart => exact ⟨0, true, Nat.zero_le _, rfl, rfl, hid (by simp)⟩
  case round =>
   obtain ⟨j, G, hj, rfl, rfl, hG⟩ := hrel
   by_cases hlt0 : j < n
   ·exfalso; omega
   ·obtain rfl : j = n := by omega
    have hfin := hG.out
    rw [← HN.out, List.take_length, HOT.out, HG.out] at hfin
    have hres := hid (chk_rest (k := 9) (A := A) (B := 0) (xs := xs) (by decide) H16.out)
    rw [← hfin] at hres
    clear hfin hG
    cases G
    ·go_wp2_with fail
     go_ret
     exact ⟨ret1 (by first | (rw [hres.out]; done) | (rw [hres.out]; rfl)), B1.out⟩
    ·go_wp2_with fail
     go_ret
     exact ⟨ret1 (by first | (rw [hres.out]; done) | (rw [hres.out]; rfl)), B1.out⟩
 ·have hB2 : (B != 0) = true := by simpa using hB
  have hres := hid (show chkI 9 A B xs = 1 from by rw [chk_rest (by decide) H16.out, if_neg (by simp [okB, hB])])
  go_enter Tryz.func144, Tryz.ntmps144
  go_wp2_with (first | (go_at_call 147; refine (HBS.out _).mono ?_; rintro r w1 ⟨rfl, hb1⟩; have c0 := HC.out _ hb1; have hx1 := HX.out _ hb1; have B1 := hid (HA.out.trans (hb1.mono HA.out.size)); obtain ⟨y0, y1, y2, y3⟩ := c0; have HX1 := hid hx1; clear hb1 hx1) | (go_at_call 156; refine (HI.out _ _).mono ?_; rintro r w2 ⟨rfl, rfl⟩))
  go_ret
  exact ⟨ret1 (by first | (rw [hres.out]; done) | (rw [hres.out]; rfl)), B1.out⟩

set_option maxRecDepth 100000 in
set_option maxHeartbeats 4000000 in
theorem pchk_0 (op : Nat) (hop : op < 256) (hk : tB op = 0) (A B : Int) (xs : List Int) (v : Value) (w : World) :
  Calls Tryz.prog 144 #[insV op A B v] w fun e w' => e = .returned (.int .i64 (chkI 0 A B xs)) ∧ Below w.heap.size w w' := by
 have HBS := hid (fun w' => besides_any op hop w')
 rw [hk] at HBS
 have hA0 : Below w.heap.size w (w.alloc (.cells #[.int .u8 op, .int .i64 A, .int .i64 B, v] 162)) := (Below.refl _ _).alloc (Nat.le_refl _) _
 have HA := hid hA0
 clear hA0 hk
 go_enter Tryz.func144, Tryz.ntmps144
 go_wp2_with (go_at_call 147; refine (HBS.out _).mono ?_; rintro r w1 ⟨rfl, hb1⟩; have B1 := hid (HA.out.trans (hb1.mono HA.out.size)); clear hb1)
 go_ret
 exact ⟨rfl, B1.out⟩
theorem tB_le : ∀ op : Fin 256, tB op.val ≤ 9 := by decide +kernel
theorem pchk_any (op : Nat) (hop : op < 256) (A B : Int) (hA : -9223372036854775808 ≤ A ∧ A ≤ 9223372036854775807) (xs : List Int) (v : Value) (w : World) (hx : Ints w .i64 v xs) :
  Calls Tryz.prog 144 #[insV op A B v] w fun e w' => e = .returned (.int .i64 (chkI (tB op) A B xs)) ∧ Below w.heap.size w w' := by
 have hle := tB_le ⟨op, hop⟩
 simp only at hle
 rcases (by omega : tB op = 0 ∨ tB op = 1 ∨ tB op = 2 ∨ tB op = 3 ∨ tB op = 4 ∨ tB op = 5 ∨ tB op = 6 ∨ tB op = 7 ∨ tB op = 8 ∨ tB op = 9) with hk | hk | hk | hk | hk | hk | hk | hk | hk | hk
 ·rw [hk]; exact pchk_0 op hop hk A B xs v w
 ·rw [hk]; exact pchk_1 op hop hk A B hA xs v w hx
 ·rw [hk]; exact pchk_2 op hop hk A B hA xs v w hx
 ·rw [hk]; exact pchk_3 op hop hk A B hA xs v w hx
 ·rw [hk]; exact pchk_4 op hop hk A B hA xs v w hx
 ·rw [hk]; exact pchk_5 op hop hk A B hA xs v w hx
 ·rw [hk]; exact pchk_6 op hop hk A B hA xs v w hx
 ·rw [hk]; exact pchk_7 op hop hk A B hA xs v w hx
 ·rw [hk]; exact pchk_8 op hop hk A B hA xs v w hx
 ·rw [hk]; exact pchk_9 op hop hk A B hA xs v w hx
end Go.Proofs.YthoalneknadheaaGreatDoor
