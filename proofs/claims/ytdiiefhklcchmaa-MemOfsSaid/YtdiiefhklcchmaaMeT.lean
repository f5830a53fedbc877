/-
  MEMORIES, the program's: Store. Conditions: the object's own invariant.
-/
import Derived.Test.YtdiiefhklcchmaaMeB
namespace Go.Proofs.Ytdiiefhklcchmaa
open Go.RowKit Go.Lib
attribute [local go_sem ↓] Go.wp_at_zero Go.wp_at_succ

/-- one cell of a row is turned -/
theorem own_setS {w : World} {base size : Nat} {e : TypeId} {g n cap : Nat} {xs : List Value} (h : w.ownsRow base e size (.slice (some ⟨g, 0, none⟩) n cap) n xs) (i : Nat) (a : Value) : (w.setCell ⟨g, i, none⟩ a).ownsRow base e size (.slice (some ⟨g, 0, none⟩) n cap) n (xs.set i a) := by
  obtain ⟨h1, h2⟩ := h
  refine ⟨by rw [List.length_set]; exact h1, ?_⟩
  rcases h2 with ⟨h2, _⟩ | ⟨g', cap', cur, hv, hg, hh, hn, hc, hs, ht⟩
  · simp at h2
  simp only [Value.slice.injEq, Option.some.injEq, Addr.mk.injEq, and_true, true_and] at hv
  obtain ⟨rfl, rfl⟩ := hv
  refine .inr ⟨g, cap, _, rfl, hg, heap_setCell_same w g i cur e a hh, hn, hc, by simpa using hs, ?_⟩
  rw [← ht]
  simp [List.take_set]
theorem MP.put {w : World} {base B p g cap : Nat} {most : Int} {m : List Int} (h : MP w base B (.slice (some ⟨g, 0, none⟩) p cap) p most m) (k : Nat) (x : Int) : MP (w.setCell ⟨g, k, none⟩ (.int .u8 x)) base B (.slice (some ⟨g, 0, none⟩) p cap) p most (m.set k x) := by
  have hne : g ≠ B := fun e => h.ne (by rw [e]; rfl)
  refine ⟨h.blk.other (a := ⟨g, k, none⟩) hne _, ?_, h.ne, h.le, by have := h.base; simp; omega⟩
  rw [List.map_set]
  exact own_setS h.own k (.int .u8 x)
/-- the bytes of a number are put, the lowest first -/
def stB : Nat → List Int → Nat → Int → List Int
  | 0, m, _, _ => m
  | w + 1, m, a, v => stB w (m.set a (v % 256)) (a + 1) (v / 256)
theorem stB_len (w : Nat) : ∀ (m : List Int) (a : Nat) (v : Int), (stB w m a v).length = m.length := by
  induction w with
  | zero => intro m a v; rfl
  | succ w ih => intro m a v; rw [stB, ih, List.length_set]
set_option maxRecDepth 100000 in
set_option maxHeartbeats 4000000 in
theorem mstore_good (w : World) (base B p : Nat) (v : Value) (most : Int) (m : List Int) (op : Nat) (bs off x : Int) (a wd : Nat) (hop : 54 ≤ op ∧ op < 256) (hw : tW op = wd) (hwd : 1 ≤ wd ∧ wd ≤ 8) (hp : p ≤ 8) (hoff : 0 ≤ off ∧ off ≤ 4294967295) (hx : -9223372036854775808 ≤ x ∧ x ≤ 9223372036854775807) (ha : bs % 4294967296 + off = a) (hin : (a : Int) ≤ (p : Int) * 256 - wd) (h : MP w base B v p most m) :
    Calls Try.prog 15 #[.pointer (some ⟨B, 0, none⟩), .int .u8 op, .int .i64 bs, .int .i64 off, .int .i64 x] w fun e w' => e = .returned (.int .i64 0) ∧ MP w' base B v p most (stB wd m a x) ∧ Touch (footM1 B v) w w' := by
  have H := hid h
  have HW := hid (width_any op hop.2 w)
  rw [hw] at HW
  have HH := hid (mhas_any w base B p v most m a wd hp (by omega) h)
  rw [decide_eq_true hin] at HH
  obtain ⟨g, cap, rfl, hc1, hc2, -, -, hne⟩ := h.at (by omega)
  have HLEN := hid h.len
  obtain ⟨hw1, hw8⟩ := hwd
  obtain ⟨ho0, ho1⟩ := hoff
  obtain ⟨hx0, hx1⟩ := hx
  have e0 : ((wd : Int) == 0) = false := beq_eq_false_iff_ne.2 (by omega)
  have hop2 : ¬ (op : Int) < 54 := by omega
  have ha8 : (a : Int) ≤ 2048 := by omega
  have HP := hid (show a + wd ≤ p * 256 from by omega)
  clear h
  go_enter Try.func15, Try.ntmps15
  go_wp2_with fail
  refine HW.out.mono ?_
  rintro e w1 ⟨rfl, rfl⟩
  go_wp2_with fail
  refine HH.out.mono ?_
  rintro e w1 ⟨rfl, rfl⟩
  go_wp2_with fail
  go_loopw [4, 11, 13] (fun xv wv kv wr => ∃ (i : Nat) (m' : List Int) (x' : Int), i ≤ wd ∧ wv = .int .i64 ((wd : Int) - i) ∧ kv = .int .i64 ((a : Int) + i) ∧ xv = .int .i64 x' ∧ (-9223372036854775808 ≤ x' ∧ x' ≤ 9223372036854775807) ∧ Hid (stB wd m a x = stB (wd - i) m' (a + i) x') ∧ Hid (MP wr base B (.slice (some ⟨g, 0, none⟩) p cap) p most m') ∧ Hid (Touch (footM1 B (.slice (some ⟨g, 0, none⟩) p cap)) w wr)) (fun _ wv _ _ => (intOf wv).toNat)
  case atStart => exact ⟨0, m, x, Nat.zero_le _, by simp, by simp, rfl, ⟨hx0, hx1⟩, hid rfl, H, hid (Touch.refl _ _)⟩
  case round =>
    obtain ⟨i, m', x', hi, rfl, rfl, rfl, hxb, DD, MM, TT⟩ := hrel
    obtain ⟨hb0, hb1⟩ := hxb
    by_cases hlt : i < wd
    · obtain ⟨n, hn⟩ : ∃ n, wd - i = n + 1 := ⟨wd - i - 1, by omega⟩
      have HST := hid (show stB wd m a x = stB (wd - (i + 1)) (m'.set (a + i) (x' % 256)) (a + (i + 1)) (x' / 256) from by
        rw [DD.out, hn, stB, show wd - (i + 1) = n by omega]; rfl)
      obtain ⟨k0, hk0⟩ : ∃ k0, a + i = k0 := ⟨_, rfl⟩
      rw [hk0] at HST
      have hki : (a : Int) + (i : Int) = (k0 : Int) := by omega
      have hq : (k0 : Int).tdiv 256 = ((k0 / 256 : Nat) : Int) := by rw [Int.tdiv_eq_ediv_of_nonneg (by omega)]; omega
      have hr : (k0 : Int).tmod 256 = ((k0 % 256 : Nat) : Int) := by rw [Int.tmod_eq_emod_of_nonneg (by omega)]; omega
      have hqr : k0 / 256 * 256 + k0 % 256 = k0 := by omega
      have hkl : k0 < m'.length := by rw [MM.out.len]; have := HP.out; omega
      obtain ⟨g2, cap2, hv2, _, _, hc, hf, _⟩ := MM.out.at (by omega)
      simp only [Value.slice.injEq, Option.some.injEq, Addr.mk.injEq, and_true, true_and] at hv2
      obtain ⟨rfl, rfl⟩ := hv2
      have hcc := hc k0 hkl
      have c0 := MM.out.blk.cell (i := 0) rfl
      have hq9 : (k0 / 256 : Nat) < p := by have := HP.out; omega
      have hq8 : ((k0 / 256 : Nat) : Int) < (p : Int) := by omega
      have c0d : wr.drew.cell? ⟨B, 0, none⟩ = some (.slice (some ⟨g, 0, none⟩) p cap) := c0
      have hccd : wr.drew.cell? ⟨g, k0, none⟩ = some (.int .u8 m'[k0]) := hcc
      have hfd : ∀ i, wr.drew.frozen? ⟨g, i, none⟩ = false := hf
      clear hc
      go_wp2_with fail
      go_roundw
      case rel => exact ⟨i + 1, m'.set k0 (x' % 256), x' / 256, by omega, by congr 1; omega, by congr 1; omega, rfl, by omega, HST, hid (MM.out.put k0 _), hid (TT.out.put (a := ⟨g, k0, none⟩) (.inr rfl) _)⟩
      case measure => simp [RowKit.intOf]; omega
    · obtain rfl : i = wd := by omega
      have HE := hid (show stB i m a x = m' from by rw [DD.out, Nat.sub_self]; rfl)
      go_wp2_with fail
      go_ret
      rw [HE.out]
      exact ⟨rfl, MM.out, TT.out⟩
set_option maxRecDepth 100000 in
set_option maxHeartbeats 4000000 in
theorem mstore_bad (w : World) (base B p : Nat) (v : Value) (most : Int) (m : List Int) (op : Nat) (bs off x : Int) (hop : op < 256) (hp : p ≤ 8) (he : ldE (decide (op < 54)) (tW op) bs off p ≠ 0) (h : MP w base B v p most m) :
    Calls Try.prog 15 #[.pointer (some ⟨B, 0, none⟩), .int .u8 op, .int .i64 bs, .int .i64 off, .int .i64 x] w fun e w' => e = .returned (.int .i64 (ldE (decide (op < 54)) (tW op) bs off p)) ∧ Below w.heap.size w w' := by
  have H := hid h
  have HW := hid (width_any op hop w)
  have hw8 : tW op ≤ 8 := by have := tW_four op hop; omega
  have HH := hid (fun a => mhas_any w base B p v most m a (tW op) hp (by omega) h)
  generalize tW op = wd at *
  clear h
  unfold ldE at he ⊢
  by_cases h1 : wd = 0 ∨ decide (op < 54) = true
  · rw [if_pos h1] at he ⊢
    clear he
    rcases (show wd = 0 ∨ (¬ wd = 0 ∧ (op : Int) < (54 : Int)) from by
      rcases h1 with g | g
      · exact .inl g
      · have := of_decide_eq_true g; omega) with g | ⟨g1, g2⟩
    · subst g
      clear h1
      go_enter Try.func15, Try.ntmps15
      go_wp2_with fail
      refine HW.out.mono ?_
      rintro e w1 ⟨rfl, rfl⟩
      go_wp2_with fail
      go_ret
      exact ⟨rfl, Below.refl _ _⟩
    · have e0 : ((wd : Int) == 0) = false := beq_eq_false_iff_ne.2 (by omega)
      clear h1
      go_enter Try.func15, Try.ntmps15
      go_wp2_with fail
      refine HW.out.mono ?_
      rintro e w1 ⟨rfl, rfl⟩
      go_wp2_with fail
      go_ret
      exact ⟨rfl, Below.refl _ _⟩
  · rw [if_neg h1] at he ⊢
    have e0 : ((wd : Int) == 0) = false := beq_eq_false_iff_ne.2 (fun g => h1 (.inl (by omega)))
    have g2 : ¬ (op : Int) < (54 : Int) := fun g => h1 (.inr (decide_eq_true (by omega)))
    clear h1
    by_cases h2 : off < 0 ∨ 4294967295 < off
    · rw [if_pos h2] at he ⊢
      clear he
      rcases (show off < 0 ∨ (¬ off < 0 ∧ 4294967295 < off) from by omega) with g | ⟨g3, g4⟩
      all_goals
        clear h2
        go_enter Try.func15, Try.ntmps15
        go_wp2_with fail
        refine HW.out.mono ?_
        rintro e w1 ⟨rfl, rfl⟩
        go_wp2_with fail
        go_ret
        exact ⟨rfl, Below.refl _ _⟩
    · rw [if_neg h2] at he ⊢
      by_cases h3 : bs % 4294967296 + off ≤ (p : Int) * 256 - wd
      · rw [if_pos h3] at he; exact absurd rfl he
      · rw [if_neg h3]
        have HH2 := hid (HH.out (bs % 4294967296 + off))
        rw [decide_eq_false h3] at HH2
        have g3 : ¬ off < 0 := by omega
        have g4 : ¬ 4294967295 < off := by omega
        clear he h2 h3
        go_enter Try.func15, Try.ntmps15
        go_wp2_with fail
        refine HW.out.mono ?_
        rintro e w1 ⟨rfl, rfl⟩
        go_wp2_with fail
        refine HH2.out.mono ?_
        rintro e w1 ⟨rfl, rfl⟩
        go_wp2_with fail
        go_ret
        exact ⟨rfl, Below.refl _ _⟩
end Go.Proofs.Ytdiiefhklcchmaa
