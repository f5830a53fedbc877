/-
  MEMORIES, the reference's: Load. Conditions: the object's own invariant; the variable of the library that strings.Contains reads holds some number.
-/
import Derived.Test.YtdiiefhklcchmaaMrL
namespace Go.Proofs.Ytdiiefhklcchmaa
open Go.RowKit Go.Lib
attribute [local go_sem ↓] Go.wp_at_zero Go.wp_at_succ

theorem u8_bit (x t : Nat) (hx : x < 256) : (bits .and .u8 ((x : Int) / 2 ^ t) 1 == 1) = x.testBit t := by
  have e4 : ((x : Int) / 2 ^ t) = ((x / 2 ^ t : Nat) : Int) := by push_cast; rfl
  have hlt : x / 2 ^ t < 256 := Nat.lt_of_le_of_lt (Nat.div_le_self _ _) hx
  have h := bits_mask .u8 8 (by decide) wraps_u8 1 (by decide) ((x / 2 ^ t : Nat) : Int) (Int.natCast_nonneg _) (by exact_mod_cast hlt)
  have e5 : ((2 : Int) ^ 1 - 1) = 1 := by decide
  rw [e5] at h
  rw [e4, h, Nat.testBit_eq_decide_div_mod_eq]
  by_cases h1 : x / 2 ^ t % 2 = 1
  · rw [decide_eq_true h1]
    have : ((x / 2 ^ t : Nat) : Int) % 2 ^ 1 = 1 := by exact_mod_cast h1
    rw [this]; rfl
  · rw [decide_eq_false h1]
    have h2 : x / 2 ^ t % 2 = 0 := by omega
    have : ((x / 2 ^ t : Nat) : Int) % 2 ^ 1 = 0 := by exact_mod_cast h2
    rw [this]; rfl
/-- bit i of what w bytes make -/
theorem leB_bit (m : List Int) (hm : ∀ x ∈ m, 0 ≤ x ∧ x ≤ 255) : ∀ (w a i : Nat), i < 8 * w → (leB m a w).toNat.testBit i = (m.getD (a + i / 8) 0).toNat.testBit (i % 8) := by
  intro w
  induction w with
  | zero => intro a i h; omega
  | succ w ih =>
    intro a i h
    have hb := leB_bounds m hm w (a + 1)
    have h2 : 0 ≤ m.getD a 0 ∧ m.getD a 0 ≤ 255 := by
      rcases Nat.lt_or_ge a m.length with g | g
      · have : m.getD a 0 = m[a] := by simp [List.getD, g]
        rw [this]
        exact hm _ (List.getElem_mem g)
      · have : m.getD a 0 = 0 := by simp [List.getD, List.getElem?_eq_none g]
        rw [this]; omega
    have ih2 := ih (a + 1)
    rw [leB]
    generalize leB m (a + 1) w = y at *
    obtain ⟨x, hx⟩ := Int.eq_ofNat_of_zero_le h2.1
    obtain ⟨z, hz⟩ := Int.eq_ofNat_of_zero_le hb.1
    have e : (m.getD a 0 + 256 * y).toNat = 2 ^ 8 * z + x := by rw [hx, hz]; omega
    rw [e, Nat.testBit_two_pow_mul_add z (by omega)]
    by_cases h8 : i < 8
    · rw [if_pos h8, show i / 8 = 0 by omega, show i % 8 = i by omega, Nat.add_zero, hx]
      rfl
    · rw [if_neg h8]
      have := ih2 (i - 8) (by omega)
      rw [hz] at this
      rw [Int.toNat_natCast] at this
      rw [this, show a + 1 + (i - 8) / 8 = a + i / 8 by omega, show (i - 8) % 8 = i % 8 by omega]
theorem leB_bv (m : List Int) (hm : ∀ x ∈ m, 0 ≤ x ∧ x ≤ 255) (wd a i x : Nat) (hi : i < 8 * wd) (hx : m.getD (a + i / 8) 0 = (x : Int)) (hx8 : x < 256) : (bits .and .u8 ((x : Int) / 2 ^ (i % 8)) 1 == 1) = (BitVec.ofInt (8 * wd) (leB m a wd)).getLsbD i := by
  rw [u8_bit x (i % 8) hx8, ← BitVec.testBit_toNat, BitVec.toNat_ofInt]
  have hb := leB_bounds m hm wd a
  have e : (leB m a wd % ((2 ^ (8 * wd) : Nat) : Int)).toNat = (leB m a wd).toNat := by
    rw [Int.emod_eq_of_lt hb.1]
    have : ((2 ^ (8 * wd) : Nat) : Int) = (256 : Int) ^ wd := by
      rw [Nat.pow_mul, Int.natCast_pow]; rfl
    rw [this]; exact hb.2
  rw [e, leB_bit m hm wd a i hi, hx]
  rfl
theorem isSg_not (op : Nat) (h : op < 54) (hw : tW op ≠ 0) (hs : isSg op = false) : op = 45 ∨ op = 47 ∨ op = 49 ∨ op = 51 ∨ op = 53 := by
  have := (by decide +kernel : ∀ x, x < 54 → tW x ≠ 0 → isSg (x : Nat) = false → x = 45 ∨ x = 47 ∨ x = 49 ∨ x = 51 ∨ x = 53) op h hw hs
  exact this
set_option maxRecDepth 100000 in
set_option maxHeartbeats 8000000 in
theorem rload_good (w : World) (base B g cap : Nat) (most : Int) (m : List Int) (op : Nat) (bs off : Int) (a wd : Nat) (hop : op < 54) (hw : tW op = wd) (hwd : 1 ≤ wd ∧ wd ≤ 8) (hlen : m.length ≤ 2048) (hoff : 0 ≤ off ∧ off ≤ 4294967295) (ha : bs % 4294967296 + off = a) (hin : a + wd ≤ m.length) (hm : ∀ x ∈ m, 0 ≤ x ∧ x ≤ 255) (hM : MaxL w) (h : MR w base B g cap most m) :
    Calls Try.prog 14 #[.pointer (some ⟨B, 0, none⟩), .int .u8 op, .int .i64 bs, .int .i64 off] w fun e w' => e = .returned (.tuple #[.int .i64 (if isSg op = true then (leB m a wd).bmod (2 ^ (8 * wd)) else (leB m a wd).bmod (2 ^ 64)), .int .i64 0]) ∧ Below w.heap.size w w' := by
  obtain ⟨R, hR⟩ : ∃ R, (if isSg op = true then (leB m a wd).bmod (2 ^ (8 * wd)) else (leB m a wd).bmod (2 ^ 64)) = R := ⟨_, rfl⟩
  rw [hR]
  have HRR := hid hR
  clear hR
  have HPL := hid (rplace_good w base B g cap most m op false bs off a wd (by omega) (by rw [decide_eq_false (by omega)]) hw hwd hlen hoff ha hin hM h)
  have H := hid h
  have HW8 := hid (show wd = 1 ∨ wd = 2 ∨ wd = 4 ∨ wd = 8 from by
    have := tW_four op (by omega)
    omega)
  obtain ⟨hw1, hw8⟩ := hwd
  have HSN := hid (fun hs => isSg_not op hop (by omega) hs)
  have HSY := hid (fun (hs : isSg op = true) => show ((op : Int) == 45) = false ∧ ((op : Int) == 47) = false ∧ ((op : Int) == 49) = false ∧ ((op : Int) == 51) = false ∧ ((op : Int) == 53) = false from by
    unfold isSg at hs
    have := of_decide_eq_true hs
    refine ⟨?_, ?_, ?_, ?_, ?_⟩ <;> exact beq_eq_false_iff_ne.2 (by omega))
  have HBI := hid (fun i x (hi : i < 8 * wd) hx hx8 => leB_bv m hm wd a i x hi hx hx8)
  have HBN := hid (leB_bounds m hm wd a)
  have HMM := hid hm
  have HL := hid (And.intro hlen hin)
  have HTI := hid (BitVec.toInt_ofInt (n := 8 * wd) (leB m a wd))
  have HTN := hid (show ((BitVec.ofInt (8 * wd) (leB m a wd)).toNat : Int) = leB m a wd from by
    have hb := leB_bounds m hm wd a
    rw [BitVec.toNat_ofInt, Int.emod_eq_of_lt hb.1 (by rw [Nat.pow_mul, Int.natCast_pow]; exact hb.2)]
    omega)
  obtain ⟨N, hN⟩ : ∃ N, 8 * wd = N := ⟨_, rfl⟩
  have hNi : (8 : Int) * (wd : Int) = (N : Int) := by omega
  have hN64 : N ≤ 64 := by omega
  have HN := hid hN
  rw [hN] at HBI HTI HTN HRR
  generalize BitVec.ofInt N (leB m a wd) = bv at *
  have HBV0 := hid (show 0 < N from by omega)
  have HBVN := hid (show N ≤ 62 ∨ N = 64 from by have := HW8.out; omega)
  obtain ⟨L, hL⟩ : ∃ L, m.length = L := ⟨_, rfl⟩
  rw [hL] at HL
  have HLE := hid hL
  have ha8 : a ≤ 2048 := by omega
  clear h hw hlen ha hin hm hM hL hN hoff hop
  go_enter Try.func14, Try.ntmps14
  go_wp2_with fail
  refine HPL.out.mono ?_
  rintro e w1 ⟨rfl, hb1⟩
  have B1 := hid hb1
  have H1 := hid (H.out.below hb1)
  clear hb1
  go_wp2_with fail
  go_loopw [29, 13] (fun i v wr => ∃ (k : Nat) (vv : Value), k ≤ N ∧ i = .int .i64 k ∧ v = vv ∧ OwnB wr w1.heap.size vv ((bl bv).take k) ∧ Hid (Below w1.heap.size w1 wr) ∧ w1.heap.size ≤ wr.heap.size) (fun i _ _ => N - (RowKit.intOf i).toNat)
  case atStart => exact ⟨0, _, Nat.zero_le _, rfl, rfl, O1.nil _ _ _ _, hid (Below.refl _ _), Nat.le_refl _⟩
  case round =>
    obtain ⟨k, vv, hk, rfl, hvv, hown, HB, hsz⟩ := hrel
    have hvv2 := hvv.symm
    subst hvv2
    clear hvv
    by_cases hlt : k < N
    · have hln := bl_take_len bv k hk
      have hst := hid (bl_take bv k hlt)
      have H2 := hid (H1.out.below HB.out)
      have hle2 : L ≤ cap := by have := H2.out.own.le; rw [HLE.out] at this; exact this
      have c0 : wr.cell? ⟨B, 0, none⟩ = some (.slice (some ⟨g, 0, none⟩) L cap) := (H2.out.blk.cell (i := 0) rfl).trans (by rw [HLE.out])
      have hcm : cap ≤ 9223372036854775807 := by have := H2.out.own.cap; unfold maxLen at this; omega
      obtain ⟨q, hq⟩ : ∃ q, k / 8 = q := ⟨_, rfl⟩
      obtain ⟨t, ht⟩ : ∃ t, k % 8 = t := ⟨_, rfl⟩
      have hq1 : (k : Int).tdiv 8 = (q : Int) := by rw [Int.tdiv_eq_ediv_of_nonneg (by omega)]; omega
      have hr1 : (k : Int).tmod 8 = (t : Int) := by rw [Int.tmod_eq_emod_of_nonneg (by omega)]; omega
      obtain ⟨j, hj⟩ : ∃ j, a + q = j := ⟨_, rfl⟩
      have hj2 : (a : Int) + (q : Int) = (j : Int) := by omega
      have hjL : j < L := by have := HL.out; have := HN.out; omega
      have hjm : j < m.length := by rw [HLE.out]; exact hjL
      have hcj := H2.out.own.at j hjm
      have hbd := HMM.out m[j] (List.getElem_mem hjm)
      obtain ⟨x, hx⟩ := Int.eq_ofNat_of_zero_le hbd.1
      rw [hx] at hcj hbd
      have hbit := HBI.out k x hlt (by rw [hq, hj]; rw [List.getD_eq_getElem?_getD, List.getElem?_eq_getElem hjm]; exact hx) (by omega)
      rw [ht] at hbit
      have hx8 : x < 256 := by omega
      have ht8 : t < 8 := by omega
      have hjL2 : (j : Int) < (L : Int) := by omega
      have hL8 : (L : Int) ≤ 2048 := by have := HL.out.1; omega
      generalize (bl bv).take k = LL at *
      have hlen : LL.length + 1 ≤ 100 := by omega
      have hlt2 : (k : Int) < (N : Int) := by omega
      clear hln hq ht hj hbd hx hjm
      go_wp2_with (at_builtin; go_must (refine app_o1 one_bool elem_word (y := bv.getLsbD k) rfl _ _ rfl rfl rfl rfl hown (by omega) (by omega) hsz ?_); intro v' w' ho' hb' hg'; have HO := hid ho'; have HB2 := hid (HB.out.trans hb'); have hsz2 := HB2.out.size; clear ho' hb' hg')
      go_roundw
      case rel => exact ⟨k + 1, v', by omega, by go_num, rfl, by rw [hst.out]; exact HO.out, HB2, hsz2⟩
      case measure => simp [RowKit.intOf]; omega
    · obtain rfl : k = N := by omega
      rw [bl_full] at hown
      have HV := hid (O1.l1 hown)
      have HB2 := hid (B1.out.trans (HB.out.mono B1.out.size))
      clear hown
      cases hsg : isSg op with
      | true =>
        obtain ⟨e45, e47, e49, e51, e53⟩ := HSY.out hsg
        have HR2 := hid (show R = bv.toInt from by rw [HTI.out, ← HRR.out, if_pos hsg])
        clear hsg
        go_wp2_with fail
        refine (value_any bv HBV0.out HBVN.out _ _ HV.out).mono ?_
        rintro e w9 ⟨rfl, rfl⟩
        go_wp2_with fail
        go_ret2
        rw [HR2.out]
        exact ⟨rfl, HB2.out⟩
      | false =>
        have HR2 := hid (show R = wrap64 (bv.toNat : Int) from by rw [HTN.out, low8, ← HRR.out, if_neg (by rw [hsg]; decide)])
        have hbv : bv.toNat < 18446744073709551616 := Nat.lt_of_lt_of_le bv.isLt (by
          have h2 : 2 ^ k ≤ 2 ^ 64 := Nat.pow_le_pow_right (by decide) hN64
          rw [show (2 : Nat) ^ 64 = 18446744073709551616 from by decide] at h2
          exact h2)
        rcases HSN.out hsg with rfl | rfl | rfl | rfl | rfl
        all_goals
          clear hsg
          go_wp2_with fail
          refine (plain_any bv HBV0.out hN64 _ _ HV.out).mono ?_
          rintro e w9 ⟨rfl, rfl⟩
          go_wp2_with fail
          go_ret2
          rw [HR2.out]
          exact ⟨rfl, HB2.out⟩
end Go.Proofs.Ytdiiefhklcchmaa
