/-
  MEMORIES, the program's: Load. Conditions: the object's own invariant.
-/
import Derived.Test.YtdiiefhklcchmaaMeA
import Derived.Test.YtdiiefhklcchmaaMeW
import Derived.Test.YtdiiefhklcchmaaMeS
import Derived.Test.YtdiiefhklcchmaaBits
namespace Go.Proofs.Ytdiiefhklcchmaa
open Go.RowKit Go.Lib
attribute [local go_sem ↓] Go.wp_at_zero Go.wp_at_succ

/-- the number that w bytes make from a on, the lowest first -/
def leB (m : List Int) (a : Nat) : Nat → Int
  | 0 => 0
  | w + 1 => m.getD a 0 + 256 * leB m (a + 1) w
theorem pow_le7 {k : Nat} (h : k ≤ 7) : (256 : Int) ^ k ≤ 72057594037927936 := by
  have h1 : 256 ^ k ≤ 256 ^ 7 := Nat.pow_le_pow_right (by decide) h
  have h2 : ((256 ^ k : Nat) : Int) ≤ ((256 ^ 7 : Nat) : Int) := Int.ofNat_le.2 h1
  rw [Int.natCast_pow] at h2
  exact h2
theorem leB_bounds (m : List Int) (hm : ∀ x ∈ m, 0 ≤ x ∧ x ≤ 255) : ∀ (w a : Nat), 0 ≤ leB m a w ∧ leB m a w < 256 ^ w := by
  intro w
  induction w with
  | zero => intro a; exact ⟨Int.le_refl _, by show (0 : Int) < 1; decide⟩
  | succ w ih =>
    intro a
    have h1 := ih (a + 1)
    have h2 : 0 ≤ m.getD a 0 ∧ m.getD a 0 ≤ 255 := by
      rcases Nat.lt_or_ge a m.length with g | g
      · have : m.getD a 0 = m[a] := by simp [List.getD, g]
        rw [this]
        exact hm _ (List.getElem_mem g)
      · have : m.getD a 0 = 0 := by simp [List.getD, List.getElem?_eq_none g]
        rw [this]; omega
    rw [leB, Int.pow_succ]
    omega
theorem or_beM (a b : Nat) (hb : b < 256) (h : a * 256 + b < 18446744073709551616) : bits .or .u64 ((a : Int) * 256) (b : Int) = (a : Int) * 256 + b := by
  have e : ((a : Int) * 256) = ((a * 256 : Nat) : Int) := by omega
  have h0 := u64_or_nat (a * 256) b (Nat.lt_of_le_of_lt (Nat.le_add_right _ _) h) (Nat.lt_trans hb (by decide))
  rw [e, h0]
  have h1 := Nat.two_pow_add_eq_or_of_lt (i := 8) (b := b) (by omega) a
  have e2 : a * 256 = 2 ^ 8 * a := by rw [Nat.mul_comm]
  rw [e2, ← h1, ← e2]
  omega
set_option maxRecDepth 100000 in
set_option maxRecDepth 100000 in
theorem tW_four (op : Nat) (h : op < 256) : tW op = 0 ∨ tW op = 1 ∨ tW op = 2 ∨ tW op = 4 ∨ tW op = 8 := (by decide +kernel : ∀ x, x < 256 → tW x = 0 ∨ tW x = 1 ∨ tW x = 2 ∨ tW x = 4 ∨ tW x = 8) op h
set_option maxRecDepth 100000 in
set_option maxHeartbeats 4000000 in
theorem mload_good (w : World) (base B p : Nat) (v : Value) (most : Int) (m : List Int) (op : Nat) (bs off : Int) (a wd : Nat) (hop : op < 54) (hw : tW op = wd) (hwd : 1 ≤ wd ∧ wd ≤ 8) (hp : p ≤ 8) (hoff : 0 ≤ off ∧ off ≤ 4294967295) (ha : bs % 4294967296 + off = a) (hin : (a : Int) ≤ (p : Int) * 256 - wd) (hm : ∀ x ∈ m, 0 ≤ x ∧ x ≤ 255) (h : MP w base B v p most m) :
    Calls Try.prog 13 #[.pointer (some ⟨B, 0, none⟩), .int .u8 op, .int .i64 bs, .int .i64 off] w fun e w' => e = .returned (.tuple #[.int .i64 (if isSg op = true then (leB m a wd).bmod (2 ^ (8 * wd)) else (leB m a wd).bmod (2 ^ 64)), .int .i64 0]) ∧ Below w.heap.size w w' := by
  obtain ⟨R, hR⟩ : ∃ R, (if isSg op = true then (leB m a wd).bmod (2 ^ (8 * wd)) else (leB m a wd).bmod (2 ^ 64)) = R := ⟨_, rfl⟩
  rw [hR]
  have HRR := hid hR
  clear hR
  have H := hid h
  have HW := hid (width_any op (by omega) w)
  rw [hw] at HW
  have HH := hid (mhas_any w base B p v most m a wd hp (by omega) h)
  rw [decide_eq_true hin] at HH
  obtain ⟨g, cap, rfl, hc1, hc2, hc, hf, hne⟩ := h.at (by omega)
  have c0 := h.blk.cell (i := 0) rfl
  have HC := hid hc
  have HLEN := hid h.len
  have HM := hid hm
  obtain ⟨hw1, hw8⟩ := hwd
  obtain ⟨ho0, ho1⟩ := hoff
  have e0 : ((wd : Int) == 0) = false := beq_eq_false_iff_ne.2 (by omega)
  have hop2 : ¬ (54 : Int) ≤ (op : Int) := by omega
  clear h hc hm
  go_enter Try.func13, Try.ntmps13
  go_wp2_with fail
  refine HW.out.mono ?_
  rintro e w1 ⟨rfl, rfl⟩
  go_wp2_with fail
  refine HH.out.mono ?_
  rintro e w1 ⟨rfl, rfl⟩
  have hA := HLEN.out
  have ha8 : (a : Int) ≤ 2048 := by omega
  have ha0 : (0 : Int) ≤ (a : Int) := by omega
  go_wp2_with fail
  go_loopw [12, 13, 14] (fun nv iv _ wr => ∃ k : Nat, k ≤ wd ∧ iv = .int .i64 ((k : Int) - 1) ∧ nv = .int .u64 (leB m (a + k) (wd - k)) ∧ wr = w) (fun _ iv _ _ => (intOf iv + 1).toNat)
  case atStart => exact ⟨wd, Nat.le_refl _, rfl, by rw [Nat.sub_self]; rfl, rfl⟩
  case round =>
    obtain ⟨k, hk, rfl, rfl, rfl⟩ := hrel
    cases k with
    | zero =>
      have hn := leB_bounds m HM.out wd a
      have h4 : wd = 1 ∨ wd = 2 ∨ wd = 4 ∨ wd = 8 := by
        have := tW_four op (by omega)
        omega
      have hn8 : (256 : Int) ^ wd ≤ 18446744073709551616 := by rcases h4 with e | e | e | e <;> rw [e] <;> decide
      have e2 : leB m (a + 0) (wd - 0) = leB m a wd := rfl
      rw [e2]
      generalize leB m a wd = n at *
      have hn1 : 0 ≤ n ∧ n < 18446744073709551616 := ⟨hn.1, Int.lt_of_lt_of_le hn.2 hn8⟩
      have HSG := hid (msg_any op wr)
      have hn9 : n < 2 ^ (8 * wd) := by rcases h4 with e | e | e | e <;> (rw [e] at hn ⊢; exact hn.2)
      have HLW := hid (mlow_any n wd h4 hn1.1 hn9 wr)
      have HB8 := hid (show wrap64 n = n.bmod (2 ^ 64) from low8)
      clear hn hn8 h4 e2 hk hn9
      generalize n.bmod (2 ^ (8 * wd)) = nw at *
      generalize isSg op = sg at *
      cases sg with
      | true =>
        go_wp2_with fail
        refine HSG.out.mono ?_
        rintro e w2 ⟨rfl, rfl⟩
        go_wp2_with fail
        refine HLW.out.mono ?_
        rintro e w3 ⟨rfl, rfl⟩
        go_wp2_with fail
        go_ret2
        have : R = nw := by rw [← HRR.out]; first | exact if_pos rfl | rfl | simp
        rw [this]
        exact ⟨rfl, Below.refl _ _⟩
      | false =>
        go_wp2_with fail
        refine HSG.out.mono ?_
        rintro e w2 ⟨rfl, rfl⟩
        go_wp2_with fail
        go_ret2
        have : R = wrap64 n := by rw [HB8.out, ← HRR.out]; first | exact if_neg (by decide) | rfl | simp
        rw [this]
        exact ⟨rfl, Below.refl _ _⟩
    | succ i =>
      have hil : a + i < m.length := by omega
      have hc := HC.out (a + i) hil
      have hb := HM.out m[a + i] (List.getElem_mem hil)
      have HST := hid (show leB m (a + i) (wd - i) = m[a + i] + 256 * leB m (a + (i + 1)) (wd - (i + 1)) from by
        rw [show wd - i = (wd - (i + 1)) + 1 by omega, leB]
        have : m.getD (a + i) 0 = m[a + i] := by simp [List.getD, hil]
        rw [this]; rfl)
      generalize m[a + i] = x at *
      generalize hNN : leB m (a + (i + 1)) (wd - (i + 1)) = nn at *
      obtain ⟨k0, hk0⟩ : ∃ k0, a + i = k0 := ⟨_, rfl⟩
      have hki : (a : Int) + (i : Int) = (k0 : Int) := by omega
      have hq : (k0 : Int).tdiv 256 = ((k0 / 256 : Nat) : Int) := by rw [Int.tdiv_eq_ediv_of_nonneg (by omega)]; omega
      have hr : (k0 : Int).tmod 256 = ((k0 % 256 : Nat) : Int) := by rw [Int.tmod_eq_emod_of_nonneg (by omega)]; omega
      have hqr : k0 / 256 * 256 + k0 % 256 = k0 := by omega
      rw [hk0] at hc
      have hnb := leB_bounds m HM.out (wd - (i + 1)) (a + (i + 1))
      rw [hNN] at hnb
      have hp7 : (256 : Int) ^ (wd - (i + 1)) ≤ 72057594037927936 := pow_le7 (by omega)
      have hn7 : 0 ≤ nn ∧ nn < 72057594037927936 := ⟨hnb.1, Int.lt_of_lt_of_le hnb.2 hp7⟩
      obtain ⟨n9, hn9⟩ := Int.eq_ofNat_of_zero_le hn7.1
      obtain ⟨x9, hx9⟩ := Int.eq_ofNat_of_zero_le hb.1
      subst hn9 hx9
      have HOR := hid (show bits .or .u64 ((n9 : Int) * 256) (x9 : Int) = (x9 : Int) + 256 * n9 from by
        rw [or_beM n9 x9 (by omega) (by omega)]
        omega)
      clear hnb hp7
      go_wp2_with fail
      go_roundw
      case rel => exact ⟨i, by omega, rfl, by rw [HST.out, HOR.out], by first | rfl | trivial⟩
      case measure => simp [RowKit.intOf] <;> omega
end Go.Proofs.Ytdiiefhklcchmaa
