/-
  LINKS, the reference's end: New. No condition.
-/
import Derived.Test.YtalookaaogiinaaLkR
namespace Go.Proofs.Ytalookaaogiinaa
open Go.RowKit Go.Lib
attribute [local go_sem ↓] Go.wp_at_zero Go.wp_at_succ

theorem make_map (w : World) : (Instr.makeMap 46 none).run Try.prog w = .ok (.map (some w.heap.size)) (w.alloc (.map #[] 0)) := by kernel_rfl
abbrev newR (a b : Int) : RE := ⟨a, b, 0, [], [], 0, [], fun _ => none, 0, false⟩
theorem bad_out (n : Int) : decide (n < 0 ∨ 2 < n) = badN n := by
  unfold badN
  rw [Bool.eq_iff_iff]
  simp only [decide_eq_true_eq, Bool.or_eq_true]
  omega
set_option maxRecDepth 100000 in
set_option maxHeartbeats 1000000 in
theorem rnew_any (a b : Int) (w : World) : Calls Try.prog 8 #[.int .i64 a, .int .i64 b] w fun e w' => if newE a b = 0 then (∃ B M, e = .returned (.tuple #[.pointer (some ⟨B, 0, none⟩), .int .i64 0]) ∧ REB w' w.heap.size B ⟨.slice none 0 0, .slice none 0 0, .slice none 0 0, M⟩ (newR a b)) ∧ Below w.heap.size w w' else e = .returned (.tuple #[.pointer none, .int .i64 1]) ∧ Below w.heap.size w w' := by
  have HA := hid (fun wx => outs_any a 0 2 wx)
  have HBd := hid (fun wx => outs_any b 0 2 wx)
  rw [bad_out] at HA HBd
  unfold newE
  cases ha : badN a with
  | true =>
    rw [ha] at HA
    simp only [true_or, if_true, show ¬ ((1 : Int) = 0) from by decide, if_false]
    clear ha
    go_enter Try.func8, Try.ntmps8
    go_wp2_with (go_at_call 42; refine (HA.out _).mono ?_; rintro r wx ⟨rfl, rfl⟩)
    go_ret2
    exact ⟨rfl, Below.refl _ _⟩
  | false =>
    cases hb : badN b with
    | true =>
      rw [ha] at HA
      rw [hb] at HBd
      simp only [true_or, or_true, if_true, show ¬ ((1 : Int) = 0) from by decide, if_false]
      clear ha hb
      go_enter Try.func8, Try.ntmps8
      go_wp2_with (go_at_call 42; first | (with_reducible refine (HA.out _).mono ?_; rintro r wx ⟨rfl, rfl⟩) | (with_reducible refine (HBd.out _).mono ?_; rintro r wx ⟨rfl, rfl⟩))
      go_ret2
      exact ⟨rfl, Below.refl _ _⟩
    | false =>
      rw [ha] at HA
      rw [hb] at HBd
      simp only [Bool.false_eq_true, false_or]
      clear ha hb
      by_cases hab : a = b
      · rw [if_pos hab]
        have hq : (a == b) = true := by simpa using hab
        simp only [show ¬ ((1 : Int) = 0) from by decide, if_false]
        clear hab
        go_enter Try.func8, Try.ntmps8
        go_wp2_with (go_at_call 42; first | (with_reducible refine (HA.out _).mono ?_; rintro r wx ⟨rfl, rfl⟩) | (with_reducible refine (HBd.out _).mono ?_; rintro r wx ⟨rfl, rfl⟩))
        go_ret2
        exact ⟨rfl, Below.refl _ _⟩
      · rw [if_neg hab]
        have hq : (a == b) = false := by simpa using hab
        have hmk := make_map w
        simp only [if_true]
        clear hab
        go_enter Try.func8, Try.ntmps8
        go_wp2_with (go_at_call 42; first | (with_reducible refine (HA.out _).mono ?_; rintro r wx ⟨rfl, rfl⟩) | (with_reducible refine (HBd.out _).mono ?_; rintro r wx ⟨rfl, rfl⟩))
        go_ret2
        have hm := heap_alloc_new w (.map #[] 0)
        have hB := Blk.new (w.alloc (.map #[] 0)) #[.int .i64 a, .int .i64 b, .int .i64 0, .slice none 0 0, .slice none 0 0, .int .i64 0, .slice none 0 0, .map (some w.heap.size), .bool false] 48 (w.heap.size + 1) (by simp)
        have hb2 := (Below.refl (w.alloc (.map #[] 0)).heap.size (w.alloc (.map #[] 0))).alloc (Nat.le_refl _) (.cells #[.int .i64 a, .int .i64 b, .int .i64 0, .slice none 0 0, .slice none 0 0, .int .i64 0, .slice none 0 0, .map (some w.heap.size), .bool false] 48)
        refine ⟨⟨_, w.heap.size, rfl, ⟨hB, World.ownsRow_nil _ _ _ _, World.ownsRow_nil _ _ _ _, World.ownsRow_nil _ _ _ _, ?_, fun k hk => by simp [Value.ownBlock] at hk, by omega, Nat.le_refl _, by simp; omega⟩⟩, ((Below.refl _ _).alloc (Nat.le_refl _) _).trans (hb2.mono (by simp))⟩
        exact KeptS.same ⟨_, World.ownsMap_made w _ _ _, fun i _ => ⟨rfl, fun b hb => by simp at hb⟩⟩ (hb2.block _ (by simp))
end Go.Proofs.Ytalookaaogiinaa
