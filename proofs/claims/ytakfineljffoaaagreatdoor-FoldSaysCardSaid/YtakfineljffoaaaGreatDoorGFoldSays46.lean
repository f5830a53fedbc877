/-
  INSTRUCTIONS: the reference's InsCheck. Conditions: the number is a byte; the variable of the library that strings.Contains reads holds some number.
-/
import Derived.Test.YtakfineljffoaaaGreatDoorGFoldSays8
import Derived.Test.YtakfineljffoaaaGreatDoorGFoldSays25
namespace Go.Proofs.YtakfineljffoaaaGreatDoor
open Go.RowKit Go.Lib
attribute [local go_sem ↓] Go.wp_at_zero Go.wp_at_succ

theorem wide_any (n : Int) (w : World) : Calls Tryz.prog 160 #[.int .i64 n] w fun e w' => e = .returned (.bool (!isIx n)) ∧ w = w' := by
  unfold isIx
  by_cases h1 : n < 0
  · rw [decide_eq_false (show ¬ (0 ≤ n ∧ n ≤ 4294967295) from fun h => by omega)]
    go_enter Tryz.func160, Tryz.ntmps160
    go_wp2_with fail
    go_ret
    exact ⟨rfl, rfl⟩
  · by_cases h2 : 4294967295 < n
    · rw [decide_eq_false (show ¬ (0 ≤ n ∧ n ≤ 4294967295) from fun h => by omega)]
      go_enter Tryz.func160, Tryz.ntmps160
      go_wp2_with fail
      go_ret
      exact ⟨rfl, rfl⟩
    · rw [decide_eq_true (show 0 ≤ n ∧ n ≤ 4294967295 from by omega)]
      go_enter Tryz.func160, Tryz.ntmps160
      go_wp2_with fail
      go_ret
      exact ⟨rfl, rfl⟩
theorem ascii_of (s : ByteArray) (h : s.data.toList.all (fun b => decide (b.toNat < 128)) = true) : ∀ (j : Nat) b, s.data.toList[j]? = some b → b.toNat < 128 := by
  intro j b hb
  exact of_decide_eq_true (List.all_eq_true.1 h b (List.mem_of_getElem? hb))
def caB (k : Nat) : Bool := decide (3 ≤ k ∧ k ≤ 6)
theorem ca_any (k : Fin 10) (w : World) : Calls Tryz.prog 161 #[.string (S (sdL k.val)), .string ⟨#[97, 116]⟩] w fun e w' => e = .returned (.bool (caB k.val)) ∧ Below w.heap.size w w' := by
  have h := Tryz.strings_ContainsAny_laid (S (sdL k.val)) ⟨#[97, 116]⟩ w ((by decide +kernel : ∀ k : Fin 10, (S (sdL k.val)).size < 4294967281) k) (by decide) (ascii_of _ ((by decide +kernel : ∀ k : Fin 10, (S (sdL k.val)).data.toList.all (fun b => decide (b.toNat < 128)) = true) k)) (ascii_of _ (by decide))
  rw [(by decide +kernel : ∀ k : Fin 10, Lib.containsAny (S (sdL k.val)).data.toList (ByteArray.data ⟨#[97, 116]⟩).toList = caB k.val) k] at h
  exact h
def sd_l : List (Nat × ByteArray × Bool) := [(1, ⟨#[]⟩, false), (2, ⟨#[107]⟩, false), (3, ⟨#[97]⟩, true), (4, ⟨#[116]⟩, true), (5, ⟨#[97, 122]⟩, true), (6, ⟨#[97, 98]⟩, true), (7, ⟨#[122]⟩, false), (8, ⟨#[99]⟩, false), (9, ⟨#[100]⟩, false)]
theorem sd_c : ∀ k : Fin 10, k.val ≠ 0 → sd_l.any (fun c => decide (k.val = c.1 ∧ S (sdL k.val) = c.2.1 ∧ caB k.val = c.2.2)) = true := by decide +kernel
theorem rA2 (A : Int) : ∃ a b c : Bool, (A != 64) = a ∧ (A != 126) = b ∧ (A != 127) = c ∧ okA 2 A = !(a && b && c) := by
  refine ⟨_, _, _, rfl, rfl, rfl, ?_⟩
  unfold okA
  rw [if_neg (by decide), if_pos rfl, Bool.eq_iff_iff]
  simp only [decide_eq_true_eq, Bool.not_eq_true', Bool.and_eq_false_iff, bne_eq_false_iff_eq]
  omega
theorem okT_eq (k : Nat) (xs : List Int) : (decide (k = 4 ∨ xs.length = 0) && xs.all isIx) = okT k xs := by
  unfold okT
  by_cases h4 : k = 4
  · rw [if_pos h4, decide_eq_true (.inl h4), Bool.true_and]
  · rw [if_neg h4]
    cases xs with
    | nil => simp
    | cons x l => rw [decide_eq_false (by simp [h4]), decide_eq_false (by simp)]; rfl
theorem okA_z (k : Nat) (A : Int) : (k = 1 ∨ k = 7) → okA k A = !(A != 0) := by
  rintro (rfl | rfl)
  all_goals
    unfold bne
    rw [Bool.not_not]
    rfl
theorem okA_i (k : Nat) (A : Int) : (3 ≤ k ∧ k ≤ 6) → okA k A = !!isIx A := by
  intro h
  unfold okA
  rw [if_neg (by omega), if_neg (by omega), if_neg (by omega), if_neg (by omega), Bool.not_not]
theorem okB_z (k : Nat) (B : Int) : k ≠ 6 → okB k B = !(B != 0) := by
  intro h
  unfold okB bne
  rw [if_neg h, Bool.not_not]
  rfl
set_option maxRecDepth 100000 in
set_option maxHeartbeats 32000000 in
theorem rchk_x (op : Nat) (hop : op < 256) (hk9 : tB op ≤ 9) (hk0 : tB op ≠ 0) (A B : Int) (xs : List Int) (v : Value) (w : World) (hM : MaxL w) (hx : Ints w .i64 v xs) :
    Calls Tryz.prog 140 #[insV op A B v] w fun e w' => e = .returned (.int .i64 (chkI (tB op) A B xs)) ∧ Below w.heap.size w w' := by
  have hA0 : Below w.heap.size w (w.alloc (.cells #[.int .u8 op, .int .i64 A, .int .i64 B, v] 97)) := (Below.refl _ _).alloc (Nat.le_refl _) _
  have hblk := Blk.new w #[.int .u8 op, .int .i64 A, .int .i64 B, v] 97 _ rfl
  have HBS := hid (rbeside_any op hop (w.alloc (.cells #[.int .u8 op, .int .i64 A, .int .i64 B, v] 97)) (hM.below hA0))
  have HI := hid (fun n w' => wide_any n w')
  have HCA := hid (fun w' => ca_any ⟨tB op, by omega⟩ w')
  dsimp only at HCA
  have HA := hid hA0
  have HX := hid (qHX hx op A B v 97)
  have HC := hid (qHC hblk)
  obtain ⟨ao, cap, rfl, _⟩ := id hx
  clear hx hA0 hblk hM
  have HOT := hid (okT_eq (tB op) xs)
  generalize hn : xs.length = n at *
  have HN := hid hn
  clear hn
  have g := sd_c ⟨tB op, by omega⟩ hk0
  simp only [List.any_eq_true, decide_eq_true_eq] at g
  obtain ⟨c, hc, hk, hs, hca⟩ := g
  simp only [sd_l, List.mem_cons, List.not_mem_nil, or_false] at hc
  rcases hc with rfl | rfl | rfl | rfl | rfl | rfl | rfl | rfl | rfl
  all_goals
    dsimp only at hk hs hca
    rw [hs] at HBS
    rw [hs, hca] at HCA
    have HK := hid hk
    by_cases h16 : 16 < n
    · have g16 : (16 : Int) < n := by omega
      have hres := hid (show chkI (tB op) A B xs = 2 from chk_large (by rw [HK.out]; decide) (by rw [HN.out]; exact h16))
      clear hk hs hca hk9 hk0
      go_enter Tryz.func140, Tryz.ntmps140
      go_wp2_with (first | (go_at_call 155; refine HBS.out.mono ?_; rintro r w1 ⟨rfl, hb1⟩; have c0 := HC.out _ hb1; have hx1 := HX.out _ hb1; have B1 := hid (HA.out.trans (hb1.mono HA.out.size)); have HB1 := hid hb1; obtain ⟨y0, y1, y2, y3⟩ := c0; have HX1 := hid hx1; clear hb1 hx1) | (go_at_call 161; refine (HCA.out _).mono ?_; rintro r w2 ⟨rfl, hb2⟩; have c2 := HC.out _ (HB1.out.trans (hb2.mono HB1.out.size)); have hx2 := HX.out _ (HB1.out.trans (hb2.mono HB1.out.size)); have B2 := hid (B1.out.trans (hb2.mono B1.out.size)); obtain ⟨z0, z1, z2, z3⟩ := c2; have HX2 := hid hx2; clear hb2 hx2) | (go_at_call 160; with_reducible refine (HIA.out _).mono ?_; rintro r w3 ⟨rfl, rfl⟩) | (go_at_call 160; with_reducible refine (HIB.out _).mono ?_; rintro r w3 ⟨rfl, rfl⟩))
      go_ret
      exact ⟨ret1 (by rw [hres.out]), B1.out⟩
    have g16 : ¬ (16 : Int) < n := by omega
    have HR := hid (chk_rest (k := tB op) (A := A) (B := B) (xs := xs) hk0 (by rw [HN.out]; exact h16))
    first
    | (have h6 : tB op = 6 := by omega
       obtain ⟨bB, hB⟩ : ∃ b, (!isIx B) = b := ⟨_, rfl⟩
       have HIB := hid (fun w' => wide_any B w')
       have HOB := hid (show okB (tB op) B = !bB from by rw [← hB, h6, Bool.not_not]; rfl)
       rw [hB] at HIB
       clear hB h6)
    | (obtain ⟨bB, hB⟩ : ∃ b, (B != 0) = b := ⟨_, rfl⟩
       have HOB := hid (show okB (tB op) B = !bB from by rw [← hB]; exact okB_z _ _ (by omega)))
    first
    | (have h2 : tB op = 2 := by omega
       obtain ⟨a, b, c, x1, x2, x3, h4⟩ := rA2 A
       have HZ := hid (show okA (tB op) A = !(a && b && c) from by rw [h2]; exact h4)
       clear h2 h4
       cases a <;> cases b <;> cases c)
    | (have h8 : tB op = 8 := by omega
       by_cases h1 : A < -2147483648
       rotate_left
       by_cases h2 : 2147483647 < A
       all_goals
         first
         | have HZ := hid (show okA (tB op) A = !false from by rw [h8]; exact decide_eq_true (by omega))
         | have HZ := hid (show okA (tB op) A = !true from by rw [h8]; exact decide_eq_false (by omega))
         clear h8)
    | (have h9 : tB op = 9 := by omega
       have HZ := hid (show okA (tB op) A = !false from by rw [h9]; rfl)
       clear h9)
    | (obtain ⟨z, hz⟩ : ∃ z, (A != 0) = z := ⟨_, rfl⟩
       have HZ := hid (show okA (tB op) A = !z from by rw [← hz]; exact okA_z _ _ (by omega)))
    | (obtain ⟨z, hz⟩ : ∃ z, (!isIx A) = z := ⟨_, rfl⟩
       have HZ := hid (show okA (tB op) A = !z from by rw [← hz]; exact okA_i _ _ (by omega))
       have HIA := hid (fun w' => wide_any A w')
       rw [hz] at HIA
       clear hz)
    all_goals
      by_cases hl : 0 < n
      · have gl : (0 : Int) < n := by omega
        first
        | have HT := hid (show decide (tB op = 4 ∨ n = 0) = true from decide_eq_true (by omega))
        | have HT := hid (show decide (tB op = 4 ∨ n = 0) = false from decide_eq_false (by omega))
        clear hk hs hca hk9 hk0
        go_enter Tryz.func140, Tryz.ntmps140
        go_wp2_with (first | (go_at_call 155; refine HBS.out.mono ?_; rintro r w1 ⟨rfl, hb1⟩; have c0 := HC.out _ hb1; have hx1 := HX.out _ hb1; have B1 := hid (HA.out.trans (hb1.mono HA.out.size)); have HB1 := hid hb1; obtain ⟨y0, y1, y2, y3⟩ := c0; have HX1 := hid hx1; clear hb1 hx1) | (go_at_call 161; refine (HCA.out _).mono ?_; rintro r w2 ⟨rfl, hb2⟩; have c2 := HC.out _ (HB1.out.trans (hb2.mono HB1.out.size)); have hx2 := HX.out _ (HB1.out.trans (hb2.mono HB1.out.size)); have B2 := hid (B1.out.trans (hb2.mono B1.out.size)); obtain ⟨z0, z1, z2, z3⟩ := c2; have HX2 := hid hx2; clear hb2 hx2) | (go_at_call 160; with_reducible refine (HIA.out _).mono ?_; rintro r w3 ⟨rfl, rfl⟩) | (go_at_call 160; with_reducible refine (HIB.out _).mono ?_; rintro r w3 ⟨rfl, rfl⟩))
        go_loop [79, 7] (fun i gg => ∃ (j : Nat) (G : Bool), j ≤ n ∧ i = .int .i64 j ∧ gg = .bool G ∧ Hid (G = !(decide (tB op = 4 ∨ n = 0) && (xs.take j).all isIx))) (fun i _ => n - (RowKit.intOf i).toNat)
        case atStart => exact ⟨0, _, Nat.zero_le _, rfl, rfl, hid (by rw [HT.out]; rfl)⟩
        case round =>
          obtain ⟨j, G, hj, rfl, rfl, hG⟩ := hrel
          by_cases hlt0 : j < n
          · have hlt : j < xs.length := by rw [HN.out]; exact hlt0
            have hltI : (j : Int) < n := by omega
            have HNX := hid (all_take_next xs j hlt)
            have HXX := HX1
            first
            | have HXX := HX2
            | skip
            rcases L1.open HXX.out with ⟨_, _, _, e, _⟩ | ⟨lb, lo, cap', hv, _, _, _, hc⟩
            · rw [e] at hlt; simp at hlt
            simp only [Value.slice.injEq] at hv
            obtain ⟨rfl, hnn, rfl⟩ := hv
            clear hnn HXX
            have ha := hc j hlt
            generalize xs[j] = m at *
            clear hc hlt
            cases hGb : G
            · have HG2 := hid (show (!isIx m) = !(decide (tB op = 4 ∨ n = 0) && (xs.take (j + 1)).all isIx) by
                have h9 := hG.out; rw [hGb] at h9; rw [HNX.out, ← Bool.and_assoc, ← Bool.not_not (_ && (xs.take j).all isIx), ← h9]; rfl)
              clear hGb hG
              go_wp2_with (go_at_call 160; refine (HI.out _ _).mono ?_; rintro r w2 ⟨rfl, rfl⟩)
              go_round
              case rel => exact ⟨j + 1, !isIx m, by omega, by go_num, rfl, HG2⟩
              case measure => simp [RowKit.intOf]; omega
            · have HG2 := hid (show true = !(decide (tB op = 4 ∨ n = 0) && (xs.take (j + 1)).all isIx) by
                have h9 := hG.out; rw [hGb] at h9; rw [HNX.out, ← Bool.and_assoc, ← Bool.not_not (_ && (xs.take j).all isIx), ← h9]; rfl)
              clear hGb hG
              go_wp2_with (go_at_call 160; refine (HI.out _ _).mono ?_; rintro r w2 ⟨rfl, rfl⟩)
              go_round
              case rel => exact ⟨j + 1, true, by omega, by go_num, rfl, HG2⟩
              case measure => simp [RowKit.intOf]; omega
          · obtain rfl : j = n := by omega
            have hfin := hG.out
            rw [← HN.out, List.take_length, HN.out, HOT.out] at hfin
            have HF := hid hfin
            clear hfin hG
            first
            | cases z
            | skip
            all_goals
              cases bB <;> cases G
              all_goals
                go_wp2_with fail
                go_ret
                first
                | exact ⟨ret1 (by rw [HR.out, HZ.out, HOB.out, ← Bool.not_not (okT _ _), ← HF.out]; rfl), B2.out⟩
                | exact ⟨ret1 (by rw [HR.out, HZ.out, HOB.out, ← Bool.not_not (okT _ _), ← HF.out]; rfl), B1.out⟩
      · obtain rfl : n = 0 := by omega
        have HF := hid (show okT (tB op) xs = true from by rw [← HOT.out, decide_eq_true (.inr rfl), List.eq_nil_of_length_eq_zero HN.out]; rfl)
        clear hk hs hca hk9 hk0
        go_enter Tryz.func140, Tryz.ntmps140
        go_wp2_with (first | (go_at_call 155; refine HBS.out.mono ?_; rintro r w1 ⟨rfl, hb1⟩; have c0 := HC.out _ hb1; have hx1 := HX.out _ hb1; have B1 := hid (HA.out.trans (hb1.mono HA.out.size)); have HB1 := hid hb1; obtain ⟨y0, y1, y2, y3⟩ := c0; have HX1 := hid hx1; clear hb1 hx1) | (go_at_call 161; refine (HCA.out _).mono ?_; rintro r w2 ⟨rfl, hb2⟩; have c2 := HC.out _ (HB1.out.trans (hb2.mono HB1.out.size)); have hx2 := HX.out _ (HB1.out.trans (hb2.mono HB1.out.size)); have B2 := hid (B1.out.trans (hb2.mono B1.out.size)); obtain ⟨z0, z1, z2, z3⟩ := c2; have HX2 := hid hx2; clear hb2 hx2) | (go_at_call 160; with_reducible refine (HIA.out _).mono ?_; rintro r w3 ⟨rfl, rfl⟩) | (go_at_call 160; with_reducible refine (HIB.out _).mono ?_; rintro r w3 ⟨rfl, rfl⟩))
        go_loop [79, 7] (fun i gg => i = .int .i64 0 ∧ gg = .bool false) (fun _ _ => 0)
        case atStart => exact ⟨rfl, rfl⟩
        case round =>
          obtain ⟨rfl, rfl⟩ := hrel
          first
          | cases z
          | skip
          all_goals
            cases bB
            all_goals
              go_wp2_with fail
              go_ret
              first
              | exact ⟨ret1 (by rw [HR.out, HZ.out, HOB.out, HF.out]; rfl), B2.out⟩
              | exact ⟨ret1 (by rw [HR.out, HZ.out, HOB.out, HF.out]; rfl), B1.out⟩

end Go.Proofs.YtakfineljffoaaaGreatDoor
