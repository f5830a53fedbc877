/-
  SUPERVISORS: the reference's Down where nothing turns. Conditions: a last time that is not negative.
-/
import Derived.Test.YtpapblahnbeccaaSsE
namespace Go.Proofs.Ytpapblahnbeccaa
open Go.RowKit Go.Lib
attribute [local go_sem ↓] Go.wp_at_zero Go.wp_at_succ

set_option maxRecDepth 100000 in
set_option maxHeartbeats 4000000 in
theorem rdown_bad (w : World) (base B : Nat) (kv pv : Value) (s : SSt) (kid now : Int) (h : SBox 78 w base B kv pv s) (hl0 : 0 ≤ s.last)
    (hb : s.over = true ∨ (s.over = false ∧ (kid < 0 ∨ (s.kids.length : Int) ≤ kid ∨ ¬ isT now ∨ now < s.last)) ∨ (s.over = false ∧ 0 ≤ kid ∧ kid < s.kids.length ∧ isT now ∧ s.last ≤ now ∧ (kdAt s.kids kid.toNat).runs = false)) :
    Calls Try.prog 40 #[.pointer (some ⟨B, 0, none⟩), .int .i64 kid, .int .i64 now] w (DownPost 78 w base B kv pv (downF s kid now)) := by
  have H := hid h
  have b0 := h.blk.cell (i := 0) rfl
  have b1 := h.blk.cell (i := 1) rfl
  have b2 := h.blk.cell (i := 2) rfl
  have b3 := h.blk.cell (i := 3) rfl
  have b4 := h.blk.cell (i := 4) rfl
  have b5 := h.blk.cell (i := 5) rfl
  have b6 := h.blk.cell (i := 6) rfl
  obtain ⟨ao, cap, hkv, _⟩ := own_sl h.kids
  subst hkv
  clear h
  rcases hb with ho | ⟨ho, hb⟩ | ⟨ho, k1, k2, k3, k4, k5⟩
  · have hd : downF s kid now = (([], [], false, 15), s) := if_pos ho
    rw [hd]
    rw [ho] at b6
    go_enter Try.func40, Try.ntmps40
    go_wp2_with fail
    refine bodyPost_ret (v := .tuple #[.slice none 0 0, .slice none 0 0, .bool false, .int .i64 15]) (by simp [results, Try.results40, go_sem]) rfl ?_
    exact down_err H.out
  · have hd : downF s kid now = (([], [], false, 1), s) := by
      unfold downF
      rw [if_neg (by rw [ho]; decide), if_pos hb]
    rw [hd]
    rw [ho] at b6
    have hcs : kid < 0 ∨ (0 ≤ kid ∧ (s.kids.length : Int) ≤ kid) ∨ (0 ≤ kid ∧ kid < (s.kids.length : Int) ∧ now < s.last) ∨ (0 ≤ kid ∧ kid < (s.kids.length : Int) ∧ s.last ≤ now ∧ 1099511627776 < now) := by
      unfold isT maxT at hb
      omega
    clear hb hd
    rcases hcs with g1 | ⟨g1, g2⟩ | ⟨g1, g2, g3⟩ | ⟨g1, g2, g3, g4⟩
    all_goals
      (try have g2' : decide ((s.kids.length : Int) ≤ kid) = false := decide_eq_false (by omega))
      (try have g1' : decide (kid < 0) = false := decide_eq_false (by omega))
      (try have g3' : decide (now < s.last) = false := decide_eq_false (by omega))
      go_enter Try.func40, Try.ntmps40
      go_wp2_with fail
      refine bodyPost_ret (v := .tuple #[.slice none 0 0, .slice none 0 0, .bool false, .int .i64 1]) (by simp [results, Try.results40, go_sem]) rfl ?_
      exact down_err H.out
  · have hd : downF s kid now = (([], [], false, 13), s) := by
      unfold downF
      rw [if_neg (by rw [ho]; decide), if_neg (by rintro (h | h | h | h); omega; omega; exact h k3; omega), if_pos k5]
    rw [hd]
    rw [ho] at b6
    obtain ⟨n, rfl⟩ := Int.eq_ofNat_of_zero_le k1
    have g2' : decide ((s.kids.length : Int) ≤ (n : Int)) = false := decide_eq_false (by omega)
    have g1' : decide ((n : Int) < 0) = false := decide_eq_false (by omega)
    have g4' : decide (now < s.last) = false := decide_eq_false (by omega)
    obtain ⟨g, cap', hv, _⟩ := own_head H.out.kids (by omega)
    simp only [Value.slice.injEq, true_and] at hv
    obtain ⟨rfl, rfl⟩ := hv
    obtain ⟨c0, _, _⟩ := kd_cells H.out.kids n (by omega)
    rw [show ((n : Int)).toNat = n from rfl] at k5
    rw [k5] at c0
    have g5' : decide (1099511627776 < now) = false := decide_eq_false (by unfold isT maxT at k3; omega)
    have g6' : decide (s.kids.length ≤ n) = false := decide_eq_false (by omega)
    clear hd
    go_enter Try.func40, Try.ntmps40
    go_wp2_with fail
    refine bodyPost_ret (v := .tuple #[.slice none 0 0, .slice none 0 0, .bool false, .int .i64 13]) (by simp [results, Try.results40, go_sem]) rfl ?_
    exact down_err H.out
end Go.Proofs.Ytpapblahnbeccaa
