/-
  INSTRUCTIONS: the program's Check. Condition: the number is a byte.
-/
import Derived.Test.YtakfineljffoaaaGreatDoorGFoldSays5
import Derived.Test.YtakfineljffoaaaGreatDoorGFoldSays7
import Derived.Deep.CutBlock
import Derived.Deep.DrawnRows
namespace Go.Proofs.YtakfineljffoaaaGreatDoor
open Go.RowKit Go.Lib
attribute [local go_sem ↓] Go.wp_at_zero Go.wp_at_succ

def isIx (n : Int) : Bool := decide (0 ≤ n ∧ n ≤ 4294967295)
def okA (k : Nat) (A : Int) : Bool := if k = 1 ∨ k = 7 then decide (A = 0) else if k = 2 then decide (A = 64 ∨ A = 126 ∨ A = 127) else if k = 8 then decide (-2147483648 ≤ A ∧ A ≤ 2147483647) else if k = 9 then true else isIx A
def okB (k : Nat) (B : Int) : Bool := if k = 6 then isIx B else decide (B = 0)
def okT (k : Nat) (xs : List Int) : Bool := if k = 4 then xs.all isIx else decide (xs.length = 0)
def chkI (k : Nat) (A B : Int) (xs : List Int) : Int := if k = 0 then 6 else if 16 < xs.length then 2 else if (okA k A && okB k B && okT k xs) = true then 0 else 1
theorem chk_large {k : Nat} {A B : Int} {xs : List Int} (h0 : k ≠ 0) (h : 16 < xs.length) : chkI k A B xs = 2 := by unfold chkI; rw [if_neg h0, if_pos h]
theorem chk_rest {k : Nat} {A B : Int} {xs : List Int} (h0 : k ≠ 0) (h : ¬ 16 < xs.length) : chkI k A B xs = if (okA k A && okB k B && okT k xs) = true then 0 else 1 := by unfold chkI; rw [if_neg h0, if_neg h]
theorem chk_to {k : Nat} {A B : Int} {xs : List Int} (h0 : k ≠ 0) (h4 : k ≠ 4) (h : ¬ 16 < xs.length) (hl : 0 < xs.length) : chkI k A B xs = 1 := by
  have e : okT k xs = false := by unfold okT; rw [if_neg h4]; exact decide_eq_false (by omega)
  rw [chk_rest h0 h, e, Bool.and_false, if_neg (by decide)]
theorem all_take_next (xs : List Int) (j : Nat) (h : j < xs.length) : (xs.take (j + 1)).all isIx = ((xs.take j).all isIx && isIx xs[j]) := by
  rw [List.take_succ_eq_append_getElem h, List.all_append]; simp
theorem isIndex_any (n : Int) (w : World) : Calls Tryz.prog 96 #[.int .i64 n] w fun e w' => e = .returned (.bool (isIx n)) ∧ w = w' := by
  unfold isIx
  by_cases h1 : 0 ≤ n
  · by_cases h2 : n ≤ 4294967295
    · rw [decide_eq_true (show 0 ≤ n ∧ n ≤ 4294967295 from ⟨h1, h2⟩)]
      go_enter Tryz.func96, Tryz.ntmps96
      go_wp2_with fail
      go_ret
      exact ⟨rfl, rfl⟩
    · rw [decide_eq_false (show ¬ (0 ≤ n ∧ n ≤ 4294967295) from fun h => h2 h.2)]
      go_enter Tryz.func96, Tryz.ntmps96
      go_wp2_with fail
      go_ret
      exact ⟨rfl, rfl⟩
  · rw [decide_eq_false (show ¬ (0 ≤ n ∧ n ≤ 4294967295) from fun h => h1 h.1)]
    go_enter Tryz.func96, Tryz.ntmps96
    go_wp2_with fail
    go_ret
    exact ⟨rfl, rfl⟩
abbrev insV (op : Nat) (A B : Int) (v : Value) : Value := .agg #[.int .u8 op, .int .i64 A, .int .i64 B, v]

set_option maxRecDepth 100000 in
set_option maxHeartbeats 8000000 in
theorem pchk_4 (op : Nat) (hop : op < 256) (hk : tB op = 4) (A B : Int) (xs : List Int) (v : Value) (w : World) (hx : Ints w .i64 v xs) :
    Calls Tryz.prog 63 #[insV op A B v] w fun e w' => e = .returned (.int .i64 (chkI 4 A B xs)) ∧ Below w.heap.size w w' := by
  have HBS := hid (fun w' => besides_any op hop w')
  rw [hk] at HBS
  have HI := hid (fun n w' => isIndex_any n w')
  have hA0 : Below w.heap.size w (w.alloc (.cells #[.int .u8 op, .int .i64 A, .int .i64 B, v] 97)) := (Below.refl _ _).alloc (Nat.le_refl _) _
  have hblk := Blk.new w #[.int .u8 op, .int .i64 A, .int .i64 B, v] 97 _ rfl
  have HA := hid hA0
  have HX := hid (qHX hx op A B v 97)
  have HC := hid (qHC hblk)
  obtain ⟨ao, cap, rfl, _⟩ := id hx
  clear hx hA0 hblk hk
  generalize hn : xs.length = n at *
  have HN := hid hn
  clear hn
  by_cases h16 : 16 < n
  · have g16 : (16 : Int) < n := by omega
    have hres := hid (show chkI 4 A B xs = 2 from chk_large (by decide) (by rw [HN.out]; exact h16))
    go_enter Tryz.func63, Tryz.ntmps63
    go_wp2_with (first | (go_at_call 95; refine (HBS.out _).mono ?_; rintro r w1 ⟨rfl, hb1⟩; have c0 := HC.out _ hb1; have hx1 := HX.out _ hb1; have B1 := hid (HA.out.trans (hb1.mono HA.out.size)); obtain ⟨y0, y1, y2, y3⟩ := c0; have HX1 := hid hx1; clear hb1 hx1) | (go_at_call 96; refine (HI.out _ _).mono ?_; rintro r w2 ⟨rfl, rfl⟩))
    go_ret
    exact ⟨ret1 (by first | (rw [hres.out]; done) | (rw [hres.out]; rfl)), B1.out⟩
  have g16 : ¬ (16 : Int) < n := by omega
  have H16 := hid (show ¬ 16 < xs.length by rw [HN.out]; exact h16)
  by_cases hB : B = 0
  · subst hB
    obtain ⟨g, hg⟩ : ∃ g, isIx A = g := ⟨_, rfl⟩
    have HIA := hid (fun w' => isIndex_any A w')
    rw [hg] at HIA
    have HG := hid (show g = (okA 4 A && okB 4 0) from by simp [okA, okB, hg])
    have HOT := hid (show xs.all isIx = okT 4 xs from rfl)
    go_enter Tryz.func63, Tryz.ntmps63
    go_wp2_with (first | (go_at_call 95; refine (HBS.out _).mono ?_; rintro r w1 ⟨rfl, hb1⟩; have c0 := HC.out _ hb1; have hx1 := HX.out _ hb1; have B1 := hid (HA.out.trans (hb1.mono HA.out.size)); obtain ⟨y0, y1, y2, y3⟩ := c0; have HX1 := hid hx1; clear hb1 hx1) | (go_at_call 96; refine (HIA.out _).mono ?_; rintro r w2 ⟨rfl, rfl⟩))
    go_loop [85, 4] (fun i gg => ∃ (j : Nat) (G : Bool), j ≤ n ∧ i = .int .i64 j ∧ gg = .bool G ∧ Hid (G = (g && (xs.take j).all isIx))) (fun i _ => n - (RowKit.intOf i).toNat)
    case atStart => exact ⟨0, g, Nat.zero_le _, rfl, rfl, hid (by simp)⟩
    case round =>
      obtain ⟨j, G, hj, rfl, rfl, hG⟩ := hrel
      by_cases hlt0 : j < n
      · have hlt : j < xs.length := by rw [HN.out]; exact hlt0
        have hltI : (j : Int) < n := by omega
        have hnx := all_take_next xs j hlt
        rcases L1.open HX1.out with ⟨_, _, _, e, _⟩ | ⟨lb, lo, cap', hv, _, _, _, hc⟩
        · rw [e] at hlt; simp at hlt
        simp only [Value.slice.injEq] at hv
        obtain ⟨rfl, hnn, rfl⟩ := hv
        clear hnn
        have ha := hc j hlt
        generalize xs[j] = m at *
        have HNX := hid hnx
        clear hc hnx hlt
        cases hGb : G
        · have HG2 := hid (show false = (g && (xs.take (j + 1)).all isIx) by rw [HNX.out, ← Bool.and_assoc, ← hG.out, hGb] <;> rfl)
          clear hGb hG
          go_wp2_with (go_at_call 96; refine (HI.out _ _).mono ?_; rintro r w2 ⟨rfl, rfl⟩)
          go_round
          case rel => exact ⟨j + 1, false, by omega, by go_num, rfl, HG2⟩
          case measure => simp [RowKit.intOf]; omega
        · have HG2 := hid (show isIx m = (g && (xs.take (j + 1)).all isIx) by rw [HNX.out, ← Bool.and_assoc, ← hG.out, hGb] <;> rfl)
          clear hGb hG
          go_wp2_with (go_at_call 96; refine (HI.out _ _).mono ?_; rintro r w2 ⟨rfl, rfl⟩)
          go_round
          case rel => exact ⟨j + 1, isIx m, by omega, by go_num, rfl, HG2⟩
          case measure => simp [RowKit.intOf]; omega
      · obtain rfl : j = n := by omega
        have hfin := hG.out
        rw [← HN.out, List.take_length, HOT.out, HG.out] at hfin
        have hres := hid (chk_rest (k := 4) (A := A) (B := 0) (xs := xs) (by decide) H16.out)
        rw [← hfin] at hres
        clear hfin hG
        cases G
        · go_wp2_with fail
          go_ret
          exact ⟨ret1 (by first | (rw [hres.out]; done) | (rw [hres.out]; rfl)), B1.out⟩
        · go_wp2_with fail
          go_ret
          exact ⟨ret1 (by first | (rw [hres.out]; done) | (rw [hres.out]; rfl)), B1.out⟩
  · have hB2 : (B != 0) = true := by simpa using hB
    have hres := hid (show chkI 4 A B xs = 1 from by rw [chk_rest (by decide) H16.out, if_neg (by simp [okB, hB])])
    go_enter Tryz.func63, Tryz.ntmps63
    go_wp2_with (first | (go_at_call 95; refine (HBS.out _).mono ?_; rintro r w1 ⟨rfl, hb1⟩; have c0 := HC.out _ hb1; have hx1 := HX.out _ hb1; have B1 := hid (HA.out.trans (hb1.mono HA.out.size)); obtain ⟨y0, y1, y2, y3⟩ := c0; have HX1 := hid hx1; clear hb1 hx1) | (go_at_call 96; refine (HI.out _ _).mono ?_; rintro r w2 ⟨rfl, rfl⟩))
    go_ret
    exact ⟨ret1 (by first | (rw [hres.out]; done) | (rw [hres.out]; rfl)), B1.out⟩
theorem oA (A : Int) : okA 1 A = (A == 0) ∧ okA 3 A = isIx A ∧ okA 5 A = isIx A ∧ okA 6 A = isIx A ∧ okA 7 A = (A == 0) ∧ okA 8 A = (A == wrap64 (wrap32 A)) ∧ okA 9 A = true := by
  refine ⟨rfl, rfl, rfl, rfl, rfl, ?_, rfl⟩
  unfold okA wrap64 wrap32
  rw [if_neg (by decide), if_neg (by decide), if_pos rfl, Bool.eq_iff_iff]
  simp only [decide_eq_true_eq, beq_iff_eq]
  omega
theorem oA2 (A : Int) : ∃ a b c : Bool, (A == 64) = a ∧ (A == 127) = b ∧ (A == 126) = c ∧ okA 2 A = (a || b || c) := by
  refine ⟨_, _, _, rfl, rfl, rfl, ?_⟩
  unfold okA
  rw [if_neg (by decide), if_pos rfl, Bool.eq_iff_iff]
  simp only [decide_eq_true_eq, Bool.or_eq_true, beq_iff_eq]
  omega
set_option maxRecDepth 100000 in
set_option maxHeartbeats 16000000 in
theorem pchk_x (op : Nat) (hop : op < 256) (hk9 : tB op ≤ 9) (hk0 : tB op ≠ 0) (hk4 : tB op ≠ 4) (A B : Int) (xs : List Int) (v : Value) (w : World) (hx : Ints w .i64 v xs) :
    Calls Tryz.prog 63 #[insV op A B v] w fun e w' => e = .returned (.int .i64 (chkI (tB op) A B xs)) ∧ Below w.heap.size w w' := by
  have HBS := hid (fun w' => besides_any op hop w')
  obtain ⟨g, hg⟩ : ∃ g, isIx A = g := ⟨_, rfl⟩
  have HIA := hid (fun w' => isIndex_any A w')
  rw [hg] at HIA
  have HIB := hid (fun w' => isIndex_any B w')
  have hA0 : Below w.heap.size w (w.alloc (.cells #[.int .u8 op, .int .i64 A, .int .i64 B, v] 97)) := (Below.refl _ _).alloc (Nat.le_refl _) _
  have hblk := Blk.new w #[.int .u8 op, .int .i64 A, .int .i64 B, v] 97 _ rfl
  have HA := hid hA0
  have HC := hid (qHC hblk)
  obtain ⟨ao, cap, rfl, _⟩ := id hx
  clear hx hA0 hblk
  generalize hn : xs.length = n at *
  have HN := hid hn
  clear hn
  rcases (by omega : tB op = 1 ∨ tB op = 2 ∨ tB op = 3 ∨ tB op = 5 ∨ tB op = 6 ∨ tB op = 7 ∨ tB op = 8 ∨ tB op = 9) with hk | hk | hk | hk | hk | hk | hk | hk
  all_goals
    have HK := hid hk
    rw [hk] at HBS
    by_cases h16 : 16 < n
    · have g16 : (16 : Int) < n := by omega
      clear hk hk9 hk0 hk4
      have hres := hid (show chkI (tB op) A B xs = 2 from chk_large (by rw [HK.out]; decide) (by rw [HN.out]; exact h16))
      go_enter Tryz.func63, Tryz.ntmps63
      go_wp2_with (first | (go_at_call 95; refine (HBS.out _).mono ?_; rintro r w1 ⟨rfl, hb1⟩; have c0 := HC.out _ hb1; have B1 := hid (HA.out.trans (hb1.mono HA.out.size)); obtain ⟨y0, y1, y2, y3⟩ := c0; clear hb1) | (go_at_call 96; with_reducible refine (HIA.out _).mono ?_; rintro r w2 ⟨rfl, rfl⟩) | (go_at_call 96; with_reducible refine (HIB.out _).mono ?_; rintro r w3 ⟨rfl, rfl⟩))
      go_ret
      exact ⟨ret1 (by rw [hres.out]), B1.out⟩
    have g16 : ¬ (16 : Int) < n := by omega
    have H16 := hid (show ¬ 16 < xs.length by rw [HN.out]; exact h16)
    by_cases hl : 0 < n
    · have gl : (0 : Int) < n := by omega
      clear hk hk9 hk0 hk4
      have hres := hid (show chkI (tB op) A B xs = 1 from chk_to (by rw [HK.out]; decide) (by rw [HK.out]; decide) H16.out (by rw [HN.out]; exact hl))
      go_enter Tryz.func63, Tryz.ntmps63
      go_wp2_with (first | (go_at_call 95; refine (HBS.out _).mono ?_; rintro r w1 ⟨rfl, hb1⟩; have c0 := HC.out _ hb1; have B1 := hid (HA.out.trans (hb1.mono HA.out.size)); obtain ⟨y0, y1, y2, y3⟩ := c0; clear hb1) | (go_at_call 96; with_reducible refine (HIA.out _).mono ?_; rintro r w2 ⟨rfl, rfl⟩) | (go_at_call 96; with_reducible refine (HIB.out _).mono ?_; rintro r w3 ⟨rfl, rfl⟩))
      go_ret
      exact ⟨ret1 (by rw [hres.out]), B1.out⟩
    have gl : ¬ (0 : Int) < n := by omega
    have HL0 := hid (show xs = [] from List.eq_nil_of_length_eq_zero (by rw [HN.out]; omega))
    by_cases hB : B = 0 ∨ tB op = 6
    rotate_left
    · first
      | (have hB2 : (B != 0) = true := bne_iff_ne.2 (fun h => hB (.inl h))
         have HB9 := hid hB
         clear hk hk9 hk0 hk4 hB
         have hres := hid (show chkI (tB op) A B xs = 1 from by rw [chk_rest (by rw [HK.out]; decide) H16.out, if_neg (by unfold okB; rw [if_neg (fun h => HB9.out (.inr h)), decide_eq_false (fun h => HB9.out (.inl h))]; simp)])
         go_enter Tryz.func63, Tryz.ntmps63
         go_wp2_with (first | (go_at_call 95; refine (HBS.out _).mono ?_; rintro r w1 ⟨rfl, hb1⟩; have c0 := HC.out _ hb1; have B1 := hid (HA.out.trans (hb1.mono HA.out.size)); obtain ⟨y0, y1, y2, y3⟩ := c0; clear hb1) | (go_at_call 96; with_reducible refine (HIA.out _).mono ?_; rintro r w2 ⟨rfl, rfl⟩) | (go_at_call 96; with_reducible refine (HIB.out _).mono ?_; rintro r w3 ⟨rfl, rfl⟩))
         go_ret
         exact ⟨ret1 (by rw [hres.out]), B1.out⟩)
      | exact absurd (.inr hk) hB
    first
    | (have hb0 : B = 0 := by omega
       have hB2 : (B != 0) = false := bne_eq_false_iff_eq.2 hb0
       have HOB := hid (show okB (tB op) B = true from by unfold okB; rw [if_neg (by omega)]; exact decide_eq_true hb0)
       clear hb0)
    | skip
    have HOA := hid (oA A)
    have HG := hid hg
    clear hk9 hk0 hk4 hB hg
    first
    | (have h2 : tB op = 2 := by omega
       obtain ⟨a, b, c, x1, x2, x3, h4⟩ := oA2 A
       have HO2 := hid h4
       clear hk h4 h2
       cases a <;> cases b <;> cases c)
    | (have h6 : tB op = 6 := by omega
       clear hk h6
       cases g)
    | clear hk
    all_goals
      go_enter Tryz.func63, Tryz.ntmps63
      go_wp2_with (first | (go_at_call 95; refine (HBS.out _).mono ?_; rintro r w1 ⟨rfl, hb1⟩; have c0 := HC.out _ hb1; have B1 := hid (HA.out.trans (hb1.mono HA.out.size)); obtain ⟨y0, y1, y2, y3⟩ := c0; clear hb1) | (go_at_call 96; with_reducible refine (HIA.out _).mono ?_; rintro r w2 ⟨rfl, rfl⟩) | (go_at_call 96; with_reducible refine (HIB.out _).mono ?_; rintro r w3 ⟨rfl, rfl⟩))
      go_loop [85, 4] (fun i gg => i = .int .i64 0 ∧ gg = .bool (okA (tB op) A && okB (tB op) B)) (fun _ _ => 0)
      case atStart =>
        refine ⟨rfl, congrArg Value.bool ?_⟩
        first
        | rw [HOB.out, Bool.and_true, HK.out]
        | rw [HK.out]
        first
        | exact HOA.out.1.symm
        | (rw [HOA.out.2.1, HG.out]; done)
        | (rw [HOA.out.2.2.1, HG.out]; done)
        | (rw [HOA.out.2.2.2.1, HG.out]; rfl)
        | exact HOA.out.2.2.2.2.1.symm
        | exact HOA.out.2.2.2.2.2.1.symm
        | (rw [HO2.out]; done)
        | (rw [HO2.out]; rfl)
        | rfl
      case round =>
        obtain ⟨rfl, rfl⟩ := hrel
        have hres := chk_rest (k := tB op) (A := A) (B := B) (xs := xs) (by rw [HK.out]; decide) H16.out
        rw [show okT (tB op) xs = true from by rw [HL0.out]; unfold okT; split <;> rfl, Bool.and_true] at hres
        have HR := hid hres
        clear hres
        generalize (okA (tB op) A && okB (tB op) B) = G at *
        cases G
        all_goals
          go_wp2_with fail
          go_ret
          exact ⟨ret1 (by rw [HR.out]; rfl), B1.out⟩

set_option maxRecDepth 100000 in
set_option maxHeartbeats 4000000 in
theorem pchk_0 (op : Nat) (hop : op < 256) (hk : tB op = 0) (A B : Int) (xs : List Int) (v : Value) (w : World) :
    Calls Tryz.prog 63 #[insV op A B v] w fun e w' => e = .returned (.int .i64 (chkI 0 A B xs)) ∧ Below w.heap.size w w' := by
  have HBS := hid (fun w' => besides_any op hop w')
  rw [hk] at HBS
  have hA0 : Below w.heap.size w (w.alloc (.cells #[.int .u8 op, .int .i64 A, .int .i64 B, v] 97)) := (Below.refl _ _).alloc (Nat.le_refl _) _
  have HA := hid hA0
  clear hA0 hk
  go_enter Tryz.func63, Tryz.ntmps63
  go_wp2_with (go_at_call 95; refine (HBS.out _).mono ?_; rintro r w1 ⟨rfl, hb1⟩; have B1 := hid (HA.out.trans (hb1.mono HA.out.size)); clear hb1)
  go_ret
  exact ⟨rfl, B1.out⟩
theorem tB_le : ∀ op : Fin 256, tB op.val ≤ 9 := by decide +kernel
theorem pchk_any (op : Nat) (hop : op < 256) (A B : Int) (_hA : -9223372036854775808 ≤ A ∧ A ≤ 9223372036854775807) (xs : List Int) (v : Value) (w : World) (hx : Ints w .i64 v xs) :
    Calls Tryz.prog 63 #[insV op A B v] w fun e w' => e = .returned (.int .i64 (chkI (tB op) A B xs)) ∧ Below w.heap.size w w' := by
  have hle := tB_le ⟨op, hop⟩
  simp only at hle
  by_cases h0 : tB op = 0
  · rw [h0]; exact pchk_0 op hop h0 A B xs v w
  by_cases h4 : tB op = 4
  · rw [h4]; exact pchk_4 op hop h4 A B xs v w hx
  exact pchk_x op hop hle h0 h4 A B xs v w hx
end Go.Proofs.YtakfineljffoaaaGreatDoor
