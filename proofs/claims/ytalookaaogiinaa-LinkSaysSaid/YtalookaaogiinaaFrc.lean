/-
  FRAMES: the reference's FrameCheck. No condition.
-/
import Derived.Test.YtalookaaogiinaaFrm
import Derived.Test.YtalookaaogiinaaOut
namespace Go.Proofs.Ytalookaaogiinaa
open Go.RowKit Go.Lib

theorem out_btw (lo hi n : Int) : decide (n < lo ∨ hi < n) = !decide (between lo hi n) := by
  by_cases h : between lo hi n
  · rw [decide_eq_true h, decide_eq_false (by unfold between at h; omega)]; rfl
  · rw [decide_eq_false h, decide_eq_true (by unfold between at h; omega)]; rfl
set_option maxRecDepth 100000 in
set_option maxHeartbeats 2000000 in
theorem rfcheck_any (f : Frm) (w : World) : Calls Try.prog 45 #[frmV f] w fun e w' => e = .returned (.int .i64 (chkFr f)) ∧ Below w.heap.size w w' := by
  have hcs := frm_cases f _ _ _ _ rfl rfl rfl rfl
  obtain ⟨fr, to, seq, ack, body⟩ := f
  simp only [frmV] at *
  generalize chkFr ⟨fr, to, seq, ack, body⟩ = c at *
  have N1 := fun w' => outs_any fr 0 2 w'
  have N2 := fun w' => outs_any to 0 2 w'
  have N3 := fun w' => outs_any seq 0 1099511627776 w'
  have N4 := fun w' => outs_any ack 0 1099511627776 w'
  rw [out_btw] at N1 N2 N3 N4
  generalize decide (between 0 2 fr) = b1 at *
  generalize decide (between 0 2 to) = b2 at *
  generalize decide (between 0 1099511627776 seq) = b3 at *
  generalize decide (between 0 1099511627776 ack) = b4 at *
  rcases hcs with ⟨hc, rfl⟩ | ⟨hc, rfl, rfl⟩ | ⟨hc, rfl, rfl, k3⟩ | ⟨hc, rfl, rfl, k3, rfl⟩ | ⟨hc, rfl, rfl, k3, rfl, rfl⟩ | ⟨hc, rfl, rfl, k3, rfl, rfl, k6, g7⟩ | ⟨hc, rfl, rfl, k3, rfl, rfl, k6, g7⟩ | ⟨hc, rfl, rfl, k3, rfl, rfl, k6⟩
  case inr.inr.inr.inr.inr.inl =>
    rw [Bool.not_true] at N1 N2 N3 N4
    have hl2 : (0 : Int) < (body.size : Int) := by omega
    subst hc
    have H1 := hid N1
    have H2 := hid N2
    have H3 := hid N3
    have H4 := hid N4
    clear N1 N2 N3 N4
    go_enter Try.func45, Try.ntmps45
    go_wp2_with fail
    refine (H1.out _).mono ?_; rintro e w1 ⟨rfl, rfl⟩; go_wp2_with fail
    refine (H2.out _).mono ?_; rintro e w1 ⟨rfl, rfl⟩; go_wp2_with fail
    refine (H3.out _).mono ?_; rintro e w1 ⟨rfl, rfl⟩; go_wp2_with fail
    refine (H4.out _).mono ?_; rintro e w1 ⟨rfl, rfl⟩; go_wp2_with fail
    go_ret
    exact ⟨rfl, (Below.refl _ _).alloc (Nat.le_refl _) _⟩
  case inr.inr.inr.inr.inr.inr.inl =>
    rw [Bool.not_true] at N1 N2 N3 N4
    rw [if_neg (by omega)] at hc
    have hl2 : (body.size : Int) ≤ 0 := by omega
    have hl3 : (body.size : Int) ≤ 64 := by omega
    subst hc
    have H1 := hid N1
    have H2 := hid N2
    have H3 := hid N3
    have H4 := hid N4
    clear N1 N2 N3 N4
    go_enter Try.func45, Try.ntmps45
    go_wp2_with fail
    refine (H1.out _).mono ?_; rintro e w1 ⟨rfl, rfl⟩; go_wp2_with fail
    refine (H2.out _).mono ?_; rintro e w1 ⟨rfl, rfl⟩; go_wp2_with fail
    refine (H3.out _).mono ?_; rintro e w1 ⟨rfl, rfl⟩; go_wp2_with fail
    refine (H4.out _).mono ?_; rintro e w1 ⟨rfl, rfl⟩; go_wp2_with fail
    go_ret
    exact ⟨rfl, (Below.refl _ _).alloc (Nat.le_refl _) _⟩
  case inr.inr.inr.inr.inr.inr.inr =>
    rw [Bool.not_true] at N1 N2 N3 N4
    have H1 := hid N1
    have H2 := hid N2
    have H3 := hid N3
    have H4 := hid N4
    clear N1 N2 N3 N4
    by_cases hl : 64 < body.size
    · have hl2 : (64 : Int) < (body.size : Int) := by omega
      rw [if_pos hl] at hc
      subst hc
      go_enter Try.func45, Try.ntmps45
      go_wp2_with fail
      refine (H1.out _).mono ?_; rintro e w1 ⟨rfl, rfl⟩; go_wp2_with fail
      refine (H2.out _).mono ?_; rintro e w1 ⟨rfl, rfl⟩; go_wp2_with fail
      refine (H3.out _).mono ?_; rintro e w1 ⟨rfl, rfl⟩; go_wp2_with fail
      refine (H4.out _).mono ?_; rintro e w1 ⟨rfl, rfl⟩; go_wp2_with fail
      go_ret
      exact ⟨rfl, (Below.refl _ _).alloc (Nat.le_refl _) _⟩
    · have hl2 : (body.size : Int) ≤ 64 := by omega
      rw [if_neg hl] at hc
      subst hc
      go_enter Try.func45, Try.ntmps45
      go_wp2_with fail
      refine (H1.out _).mono ?_; rintro e w1 ⟨rfl, rfl⟩; go_wp2_with fail
      refine (H2.out _).mono ?_; rintro e w1 ⟨rfl, rfl⟩; go_wp2_with fail
      refine (H3.out _).mono ?_; rintro e w1 ⟨rfl, rfl⟩; go_wp2_with fail
      refine (H4.out _).mono ?_; rintro e w1 ⟨rfl, rfl⟩; go_wp2_with fail
      go_ret
      exact ⟨rfl, (Below.refl _ _).alloc (Nat.le_refl _) _⟩
  all_goals
    subst hc
    (try rw [Bool.not_true] at N1)
    (try rw [Bool.not_false] at N1)
    (try rw [Bool.not_true] at N2)
    (try rw [Bool.not_false] at N2)
    (try rw [Bool.not_true] at N3)
    (try rw [Bool.not_false] at N3)
    (try rw [Bool.not_true] at N4)
    (try rw [Bool.not_false] at N4)
    have H1 := hid N1
    have H2 := hid N2
    have H3 := hid N3
    have H4 := hid N4
    clear N1 N2 N3 N4
    go_enter Try.func45, Try.ntmps45
    go_wp2_with fail
    refine (H1.out _).mono ?_; rintro e w1 ⟨rfl, rfl⟩; go_wp2_with fail
    (try (refine (H2.out _).mono ?_; rintro e w1 ⟨rfl, rfl⟩; go_wp2_with fail))
    (try (refine (H3.out _).mono ?_; rintro e w1 ⟨rfl, rfl⟩; go_wp2_with fail))
    (try (refine (H4.out _).mono ?_; rintro e w1 ⟨rfl, rfl⟩; go_wp2_with fail))
    go_ret
    exact ⟨rfl, (Below.refl _ _).alloc (Nat.le_refl _) _⟩
end Go.Proofs.Ytalookaaogiinaa
