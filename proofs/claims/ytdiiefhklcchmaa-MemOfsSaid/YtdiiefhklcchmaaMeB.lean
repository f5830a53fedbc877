/-
  MEMORIES, the program's: Load where it goes wrong; Store. Conditions: the object's own invariant.
-/
import Derived.Test.YtdiiefhklcchmaaMeL
import Derived.Test.YtdiiefhklcchmaaOwn
namespace Go.Proofs.Ytdiiefhklcchmaa
open Go.RowKit Go.Lib
attribute [local go_sem ↓] Go.wp_at_zero Go.wp_at_succ

/-- what a load or store tells -/
def ldE (bad : Bool) (wd : Nat) (bs off : Int) (p : Nat) : Int := if wd = 0 ∨ bad = true then 6 else if off < 0 ∨ 4294967295 < off then 1 else if bs % 4294967296 + off ≤ (p : Int) * 256 - wd then 0 else 23
set_option maxRecDepth 100000 in
set_option maxHeartbeats 4000000 in
theorem mload_bad (w : World) (base B p : Nat) (v : Value) (most : Int) (m : List Int) (op : Nat) (bs off : Int) (hop : op < 256) (hp : p ≤ 8) (he : ldE (decide (54 ≤ op)) (tW op) bs off p ≠ 0) (h : MP w base B v p most m) :
    Calls Try.prog 13 #[.pointer (some ⟨B, 0, none⟩), .int .u8 op, .int .i64 bs, .int .i64 off] w fun e w' => e = .returned (.tuple #[.int .i64 0, .int .i64 (ldE (decide (54 ≤ op)) (tW op) bs off p)]) ∧ Below w.heap.size w w' := by
  have H := hid h
  have HW := hid (width_any op hop w)
  have hw8 : tW op ≤ 8 := by have := tW_four op hop; omega
  have HH := hid (fun a => mhas_any w base B p v most m a (tW op) hp (by omega) h)
  generalize tW op = wd at *
  clear h
  unfold ldE at he ⊢
  by_cases h1 : wd = 0 ∨ decide (54 ≤ op) = true
  · rw [if_pos h1] at he ⊢
    clear he
    rcases (show wd = 0 ∨ (¬ wd = 0 ∧ (54 : Int) ≤ (op : Int)) from by
      rcases h1 with g | g
      · exact .inl g
      · have := of_decide_eq_true g; omega) with g | ⟨g1, g2⟩
    · subst g
      clear h1
      go_enter Try.func13, Try.ntmps13
      go_wp2_with fail
      refine HW.out.mono ?_
      rintro e w1 ⟨rfl, rfl⟩
      go_wp2_with fail
      go_ret2
      exact ⟨rfl, Below.refl _ _⟩
    · have e0 : ((wd : Int) == 0) = false := beq_eq_false_iff_ne.2 (by omega)
      clear h1
      go_enter Try.func13, Try.ntmps13
      go_wp2_with fail
      refine HW.out.mono ?_
      rintro e w1 ⟨rfl, rfl⟩
      go_wp2_with fail
      go_ret2
      exact ⟨rfl, Below.refl _ _⟩
  · rw [if_neg h1] at he ⊢
    have e0 : ((wd : Int) == 0) = false := beq_eq_false_iff_ne.2 (fun g => h1 (.inl (by omega)))
    have g2 : ¬ (54 : Int) ≤ (op : Int) := fun g => h1 (.inr (decide_eq_true (by omega)))
    clear h1
    by_cases h2 : off < 0 ∨ 4294967295 < off
    · rw [if_pos h2] at he ⊢
      clear he
      rcases (show off < 0 ∨ (¬ off < 0 ∧ 4294967295 < off) from by omega) with g | ⟨g3, g4⟩
      all_goals
        clear h2
        go_enter Try.func13, Try.ntmps13
        go_wp2_with fail
        refine HW.out.mono ?_
        rintro e w1 ⟨rfl, rfl⟩
        go_wp2_with fail
        go_ret2
        exact ⟨rfl, Below.refl _ _⟩
    · rw [if_neg h2] at he ⊢
      by_cases h3 : bs % 4294967296 + off ≤ (p : Int) * 256 - wd
      · rw [if_pos h3] at he; exact absurd rfl he
      · rw [if_neg h3]
        have HH2 := hid (HH.out (bs % 4294967296 + off))
        rw [decide_eq_false h3] at HH2
        have g3 : ¬ off < 0 := by omega
        have g4 : ¬ 4294967295 < off := by omega
        clear he h2 h3
        go_enter Try.func13, Try.ntmps13
        go_wp2_with fail
        refine HW.out.mono ?_
        rintro e w1 ⟨rfl, rfl⟩
        go_wp2_with fail
        refine HH2.out.mono ?_
        rintro e w1 ⟨rfl, rfl⟩
        go_wp2_with fail
        go_ret2
        exact ⟨rfl, Below.refl _ _⟩
end Go.Proofs.Ytdiiefhklcchmaa
