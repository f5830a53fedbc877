/-
  MEMORIES, the reference's: where a load or store goes (place). Conditions: the object's own invariant; the variable of the library that strings.Contains reads holds some number.
-/
import Derived.Test.YtdiiefhklcchmaaMrC
import Derived.Test.YtdiiefhklcchmaaMeI
import Derived.Test.YtdiiefhklcchmaaMeB
namespace Go.Proofs.Ytdiiefhklcchmaa
open Go.RowKit Go.Lib
attribute [local go_sem ↓] Go.wp_at_zero Go.wp_at_succ

set_option maxRecDepth 100000 in
set_option maxHeartbeats 4000000 in
theorem rplace_good (w : World) (base B g cap : Nat) (most : Int) (m : List Int) (op : Nat) (st : Bool) (bs off : Int) (a wd : Nat) (hop : op < 256) (hst : st = decide (53 < op)) (hw : tW op = wd) (hwd : 1 ≤ wd ∧ wd ≤ 8) (hlen : m.length ≤ 2048) (hoff : 0 ≤ off ∧ off ≤ 4294967295) (ha : bs % 4294967296 + off = a) (hin : a + wd ≤ m.length) (hM : MaxL w) (h : MR w base B g cap most m) :
    Calls Try.prog 28 #[.pointer (some ⟨B, 0, none⟩), .int .u8 op, .bool st, .int .i64 bs, .int .i64 off] w fun e w' => e = .returned (.tuple #[.int .i64 a, .int .i64 wd, .int .i64 0]) ∧ Below w.heap.size w w' := by
  have H := hid h
  have HWD := hid (rwidth_any op hop w hM)
  rw [hw] at HWD
  obtain ⟨hw1, hw8⟩ := hwd
  obtain ⟨ho0, ho1⟩ := hoff
  have e0 : ((wd : Int) == 0) = false := beq_eq_false_iff_ne.2 (by omega)
  have hcmp : decide ((53 : Int) < (op : Int)) = st := by
    rw [hst]
    by_cases g : 53 < op
    · rw [decide_eq_true g, decide_eq_true (show (53 : Int) < (op : Int) by omega)]
    · rw [decide_eq_false g, decide_eq_false (show ¬ (53 : Int) < (op : Int) by omega)]
  obtain ⟨r, hr⟩ : ∃ r : Nat, bs % 4294967296 = r := ⟨(bs % 4294967296).toNat, by omega⟩
  have HW := hid (fun wx => wordOf_any bs 32 (by decide) wx)
  have HP := hid (fun (wx : World) v hv => plain_any (BitVec.ofInt 32 bs) (by decide) (by decide) wx v hv)
  have HR := hid (ofInt32 bs r hr)
  generalize bl (BitVec.ofInt 32 bs) = bb at *
  obtain ⟨q, hq⟩ : ∃ q : Nat, (BitVec.ofInt 32 bs).toNat = q := ⟨_, rfl⟩
  rw [hq] at HR
  rw [hq] at HP
  obtain rfl : q = r := Int.ofNat.inj HR.out
  have hsum : (q : Int) + off = (a : Int) := by omega
  have hq0 : (q : Int) < 4294967296 := by omega
  have HL := hid (And.intro hlen hin)
  have hwq : IntKind.i64.wrap (q : Int) = (q : Int) := IntWalk.i64_in _ (by omega)
  obtain ⟨L, hL⟩ : ∃ L, m.length = L := ⟨_, rfl⟩
  rw [hL] at HL
  have HLE := hid hL
  have HSUM := hid (And.intro hsum (And.intro hq0 hwq))
  clear h hlen hw hst hq hr HR ha hin hL hop hM hsum hq0 hwq
  go_enter Try.func28, Try.ntmps28
  go_wp2_with fail
  refine HWD.out.mono ?_
  rintro e w1 ⟨rfl, hb1⟩
  have B1 := hid hb1
  clear hb1
  go_wp2_with fail
  refine (HW.out _).mono ?_
  rintro e w2 ⟨v, rfl, hv, hb2⟩
  have HV := hid (O1.l1 hv)
  have B2 := hid (B1.out.trans (hb2.mono B1.out.size))
  clear hv hb2
  go_wp2_with fail
  refine (HP.out _ _ HV.out).mono ?_
  rintro e w3 ⟨rfl, rfl⟩
  have M2 := hid (H.out.below B2.out)
  have hle2 : L ≤ cap := by have := M2.out.own.le; rw [HLE.out] at this; exact this
  have c0 : w2.cell? ⟨B, 0, none⟩ = some (.slice (some ⟨g, 0, none⟩) L cap) := (M2.out.blk.cell (i := 0) rfl).trans (by rw [HLE.out])
  have hcm : cap ≤ 9223372036854775807 := by have := M2.out.own.cap; unfold maxLen at this; omega
  have ha8 : a ≤ 2048 := by have := HL.out; omega
  have haw : decide ((L : Int) < (a : Int) + (wd : Int)) = false := decide_eq_false (by have := HL.out; omega)
  have hL8 : L ≤ 2048 := HL.out.1
  obtain ⟨hsum, hq0, hwq⟩ := HSUM.out
  go_wp2_with fail
  go_ret3
  exact ⟨rfl, B2.out⟩
set_option maxRecDepth 100000 in
set_option maxHeartbeats 4000000 in
theorem rplace_bad (w : World) (base B g cap p : Nat) (most : Int) (m : List Int) (op : Nat) (st : Bool) (bs off : Int) (hop : op < 256) (hlen : m.length = p * 256) (hp : p ≤ 8) (he : ldE (st != decide (53 < op)) (tW op) bs off p ≠ 0) (hM : MaxL w) (h : MR w base B g cap most m) :
    Calls Try.prog 28 #[.pointer (some ⟨B, 0, none⟩), .int .u8 op, .bool st, .int .i64 bs, .int .i64 off] w fun e w' => e = .returned (.tuple #[.int .i64 0, .int .i64 0, .int .i64 (ldE (st != decide (53 < op)) (tW op) bs off p)]) ∧ Below w.heap.size w w' := by
  have H := hid h
  have HWD := hid (rwidth_any op hop w hM)
  have hw8 : tW op ≤ 8 := by have := tW_four op hop; omega
  have hcmp : decide ((53 : Int) < (op : Int)) = decide (53 < op) := by
    by_cases g : 53 < op
    · rw [decide_eq_true g, decide_eq_true (show (53 : Int) < (op : Int) by omega)]
    · rw [decide_eq_false g, decide_eq_false (show ¬ (53 : Int) < (op : Int) by omega)]
  generalize decide (53 < op) = b9 at *
  generalize tW op = wd at *
  clear h hM
  unfold ldE at he ⊢
  by_cases h1 : wd = 0 ∨ (st != b9) = true
  · rw [if_pos h1] at he ⊢
    clear he
    rcases (show wd = 0 ∨ (¬ wd = 0 ∧ (st == b9) = false) from by
      rcases h1 with g | g
      · exact .inl g
      · by_cases g2 : wd = 0
        · exact .inl g2
        · exact .inr ⟨g2, by simpa using g⟩) with g | ⟨g1, g2⟩
    · subst g
      clear h1
      go_enter Try.func28, Try.ntmps28
      go_wp2_with fail
      refine HWD.out.mono ?_
      rintro e w1 ⟨rfl, hb1⟩
      go_wp2_with fail
      go_ret3
      exact ⟨rfl, hb1⟩
    · have e0 : ((wd : Int) == 0) = false := beq_eq_false_iff_ne.2 (by omega)
      have g3 : b9 = !st := by cases st <;> cases b9 <;> simp_all
      subst g3
      clear h1 g2 g1
      go_enter Try.func28, Try.ntmps28
      go_wp2_with fail
      refine HWD.out.mono ?_
      rintro e w1 ⟨rfl, hb1⟩
      go_wp2_with fail
      go_ret3
      exact ⟨rfl, hb1⟩
  · rw [if_neg h1] at he ⊢
    have e0 : ((wd : Int) == 0) = false := beq_eq_false_iff_ne.2 (fun g => h1 (.inl (by omega)))
    have g3 : b9 = st := by
      have : ¬ (st != b9) = true := fun g => h1 (.inr g)
      cases st <;> cases b9 <;> simp_all
    subst g3
    clear h1
    by_cases h2 : off < 0 ∨ 4294967295 < off
    · rw [if_pos h2] at he ⊢
      clear he
      rcases (show off < 0 ∨ (¬ off < 0 ∧ 4294967295 < off) from by omega) with g | ⟨g3, g4⟩
      all_goals
        clear h2
        go_enter Try.func28, Try.ntmps28
        go_wp2_with fail
        refine HWD.out.mono ?_
        rintro e w1 ⟨rfl, hb1⟩
        go_wp2_with fail
        go_ret3
        exact ⟨rfl, hb1⟩
    · rw [if_neg h2] at he ⊢
      by_cases h3 : bs % 4294967296 + off ≤ (p : Int) * 256 - wd
      · rw [if_pos h3] at he; exact absurd rfl he
      · rw [if_neg h3]
        have ho0 : ¬ off < 0 := by omega
        have ho1 : ¬ 4294967295 < off := by omega
        obtain ⟨r, hr⟩ : ∃ r : Nat, bs % 4294967296 = r := ⟨(bs % 4294967296).toNat, by omega⟩
        have HW := hid (fun wx => wordOf_any bs 32 (by decide) wx)
        have HP := hid (fun (wx : World) v hv => plain_any (BitVec.ofInt 32 bs) (by decide) (by decide) wx v hv)
        have HR := hid (ofInt32 bs r hr)
        generalize bl (BitVec.ofInt 32 bs) = bb at *
        obtain ⟨q, hq⟩ : ∃ q : Nat, (BitVec.ofInt 32 bs).toNat = q := ⟨_, rfl⟩
        rw [hq] at HR
        rw [hq] at HP
        obtain rfl : q = r := Int.ofNat.inj HR.out
        obtain ⟨a, ha⟩ : ∃ a : Nat, (q : Int) + off = a := ⟨((q : Int) + off).toNat, by omega⟩
        obtain ⟨L, hL⟩ : ∃ L, m.length = L := ⟨_, rfl⟩
        have HL := hid (show L ≤ 2048 ∧ L < a + wd from by omega)
        have hwq : IntKind.i64.wrap (q : Int) = (q : Int) := IntWalk.i64_in _ (by omega)
        have HSUM := hid (And.intro ha (And.intro (show (q : Int) < 4294967296 by omega) hwq))
        have HLE := hid hL
        have HA := hid (show (a : Int) ≤ 8589934592 by omega)
        clear he h2 h3 hlen hq hr HR ha hL hop hwq
        go_enter Try.func28, Try.ntmps28
        go_wp2_with fail
        refine HWD.out.mono ?_
        rintro e w1 ⟨rfl, hb1⟩
        have B1 := hid hb1
        clear hb1
        go_wp2_with fail
        refine (HW.out _).mono ?_
        rintro e w2 ⟨v, rfl, hv, hb2⟩
        have HV := hid (O1.l1 hv)
        have B2 := hid (B1.out.trans (hb2.mono B1.out.size))
        clear hv hb2
        go_wp2_with fail
        refine (HP.out _ _ HV.out).mono ?_
        rintro e w3 ⟨rfl, rfl⟩
        have M2 := hid (H.out.below B2.out)
        have hle2 : L ≤ cap := by have := M2.out.own.le; rw [HLE.out] at this; exact this
        have c0 : w2.cell? ⟨B, 0, none⟩ = some (.slice (some ⟨g, 0, none⟩) L cap) := (M2.out.blk.cell (i := 0) rfl).trans (by rw [HLE.out])
        have hcm : cap ≤ 9223372036854775807 := by have := M2.out.own.cap; unfold maxLen at this; omega
        have ha8 : (a : Int) ≤ 8589934592 := HA.out
        have haw : decide ((L : Int) < (a : Int) + (wd : Int)) = true := decide_eq_true (by have := HL.out; omega)
        have hL8 : L ≤ 2048 := HL.out.1
        obtain ⟨hsum, hq0, hwq⟩ := HSUM.out
        go_wp2_with fail
        go_ret3
        exact ⟨rfl, B2.out⟩
end Go.Proofs.Ytdiiefhklcchmaa
