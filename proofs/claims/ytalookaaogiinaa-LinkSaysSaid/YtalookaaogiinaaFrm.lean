/-
  FRAMES: what can be told (both sides), numbers as bytes. No condition beside lengths.
-/
import Derived.Test.YtalookaaogiinaaStrs
namespace Go.Proofs.Ytalookaaogiinaa
open Go.RowKit Go.Lib

structure Frm where
  fr : Int
  to : Int
  seq : Int
  ack : Int
  body : ByteArray
def frmV (f : Frm) : Value := .agg #[.int .i64 f.fr, .int .i64 f.to, .int .i64 f.seq, .int .i64 f.ack, .string f.body]
def between (lo hi n : Int) : Prop := lo ≤ n ∧ n ≤ hi
instance (lo hi n : Int) : Decidable (between lo hi n) := by unfold between; infer_instance
def frmOk (f : Frm) : Prop := between 0 2 f.fr ∧ between 0 2 f.to ∧ f.fr ≠ f.to ∧ between 0 1099511627776 f.seq ∧ between 0 1099511627776 f.ack ∧ ¬ (f.seq = 0 ∧ 0 < f.body.size)
instance (f : Frm) : Decidable (frmOk f) := by unfold frmOk; infer_instance
def chkFr (f : Frm) : Int := if frmOk f then (if 64 < f.body.size then 2 else 0) else 1

set_option maxRecDepth 100000 in
theorem fnode_any (n : Int) (w : World) : Calls Try.prog 62 #[.int .i64 n] w fun e w' => e = .returned (.bool (decide (between 0 2 n))) ∧ w = w' := by
  by_cases h : n < 0
  · have e : decide (between 0 2 n) = false := decide_eq_false (by unfold between; omega)
    rw [e]
    go_enter Try.func62, Try.ntmps62
    go_wp2_with fail
    go_ret
    exact ⟨retB (by simp <;> omega), rfl⟩
  · have h1 : 0 ≤ n := by omega
    have e : decide (between 0 2 n) = decide (n < 3) := decide_eq_decide.2 (by unfold between; omega)
    rw [e]
    go_enter Try.func62, Try.ntmps62
    go_wp2_with fail
    go_ret
    exact ⟨retB (by simp <;> omega), rfl⟩
set_option maxRecDepth 100000 in
theorem fcount_any (n : Int) (w : World) : Calls Try.prog 63 #[.int .i64 n] w fun e w' => e = .returned (.bool (decide (between 0 1099511627776 n))) ∧ w = w' := by
  by_cases h : n < 0
  · have e : decide (between 0 1099511627776 n) = false := decide_eq_false (by unfold between; omega)
    rw [e]
    go_enter Try.func63, Try.ntmps63
    go_wp2_with fail
    go_ret
    exact ⟨retB (by simp <;> omega), rfl⟩
  · have h1 : 0 ≤ n := by omega
    have e : decide (between 0 1099511627776 n) = decide (n ≤ 1099511627776) := decide_eq_decide.2 (by unfold between; omega)
    rw [e]
    go_enter Try.func63, Try.ntmps63
    go_wp2_with fail
    go_ret
    exact ⟨retB (by simp <;> omega), rfl⟩

/-- the cases in the order in which both texts ask -/
theorem frm_cases (f : Frm) (b1 b2 b3 b4 : Bool) (h1 : b1 = decide (between 0 2 f.fr)) (h2 : b2 = decide (between 0 2 f.to)) (h3 : b3 = decide (between 0 1099511627776 f.seq)) (h4 : b4 = decide (between 0 1099511627776 f.ack)) :
    (chkFr f = 1 ∧ b1 = false) ∨ (chkFr f = 1 ∧ b1 = true ∧ b2 = false) ∨ (chkFr f = 1 ∧ b1 = true ∧ b2 = true ∧ (f.fr == f.to) = true) ∨ (chkFr f = 1 ∧ b1 = true ∧ b2 = true ∧ (f.fr == f.to) = false ∧ b3 = false) ∨ (chkFr f = 1 ∧ b1 = true ∧ b2 = true ∧ (f.fr == f.to) = false ∧ b3 = true ∧ b4 = false)
    ∨ (chkFr f = 1 ∧ b1 = true ∧ b2 = true ∧ (f.fr == f.to) = false ∧ b3 = true ∧ b4 = true ∧ (f.seq == 0) = true ∧ 0 < f.body.size)
    ∨ (chkFr f = (if 64 < f.body.size then 2 else 0) ∧ b1 = true ∧ b2 = true ∧ (f.fr == f.to) = false ∧ b3 = true ∧ b4 = true ∧ (f.seq == 0) = true ∧ f.body.size = 0)
    ∨ (chkFr f = (if 64 < f.body.size then 2 else 0) ∧ b1 = true ∧ b2 = true ∧ (f.fr == f.to) = false ∧ b3 = true ∧ b4 = true ∧ (f.seq == 0) = false) := by
  subst h1 h2 h3 h4
  have hc : chkFr f = if frmOk f then (if 64 < f.body.size then 2 else 0) else 1 := rfl
  unfold frmOk at hc
  by_cases g1 : between 0 2 f.fr
  case neg => exact .inl ⟨hc.trans (if_neg (fun h => g1 h.1)), decide_eq_false g1⟩
  by_cases g2 : between 0 2 f.to
  case neg => exact .inr (.inl ⟨hc.trans (if_neg (fun h => g2 h.2.1)), decide_eq_true g1, decide_eq_false g2⟩)
  by_cases g3 : f.fr = f.to
  case pos => exact .inr (.inr (.inl ⟨hc.trans (if_neg (fun h => h.2.2.1 g3)), decide_eq_true g1, decide_eq_true g2, beq_iff_eq.2 g3⟩))
  have k3 : (f.fr == f.to) = false := beq_eq_false_iff_ne.2 g3
  by_cases g4 : between 0 1099511627776 f.seq
  case neg => exact .inr (.inr (.inr (.inl ⟨hc.trans (if_neg (fun h => g4 h.2.2.2.1)), decide_eq_true g1, decide_eq_true g2, k3, decide_eq_false g4⟩)))
  by_cases g5 : between 0 1099511627776 f.ack
  case neg => exact .inr (.inr (.inr (.inr (.inl ⟨hc.trans (if_neg (fun h => g5 h.2.2.2.2.1)), decide_eq_true g1, decide_eq_true g2, k3, decide_eq_true g4, decide_eq_false g5⟩))))
  by_cases g6 : f.seq = 0
  · by_cases g7 : 0 < f.body.size
    · exact .inr (.inr (.inr (.inr (.inr (.inl ⟨hc.trans (if_neg (fun h => h.2.2.2.2.2 ⟨g6, g7⟩)), decide_eq_true g1, decide_eq_true g2, k3, decide_eq_true g4, decide_eq_true g5, beq_iff_eq.2 g6, g7⟩)))))
    · exact .inr (.inr (.inr (.inr (.inr (.inr (.inl ⟨hc.trans (if_pos ⟨g1, g2, g3, g4, g5, fun h => g7 h.2⟩), decide_eq_true g1, decide_eq_true g2, k3, decide_eq_true g4, decide_eq_true g5, beq_iff_eq.2 g6, by omega⟩))))))
  · exact .inr (.inr (.inr (.inr (.inr (.inr (.inr ⟨hc.trans (if_pos ⟨g1, g2, g3, g4, g5, fun h => g6 h.1⟩), decide_eq_true g1, decide_eq_true g2, k3, decide_eq_true g4, decide_eq_true g5, beq_eq_false_iff_ne.2 g6⟩))))))

set_option maxRecDepth 100000 in
set_option maxHeartbeats 4000000 in
theorem fcheck_any (f : Frm) (w : World) : Calls Try.prog 44 #[frmV f] w fun e w' => e = .returned (.int .i64 (chkFr f)) ∧ Below w.heap.size w w' := by
  have hcs := frm_cases f _ _ _ _ rfl rfl rfl rfl
  obtain ⟨fr, to, seq, ack, body⟩ := f
  simp only [frmV] at *
  generalize chkFr ⟨fr, to, seq, ack, body⟩ = c at *
  have N1 := fun w' => fnode_any fr w'
  have N2 := fun w' => fnode_any to w'
  have N3 := fun w' => fcount_any seq w'
  have N4 := fun w' => fcount_any ack w'
  generalize decide (between 0 2 fr) = b1 at *
  generalize decide (between 0 2 to) = b2 at *
  generalize decide (between 0 1099511627776 seq) = b3 at *
  generalize decide (between 0 1099511627776 ack) = b4 at *
  have H1 := hid N1
  have H2 := hid N2
  have H3 := hid N3
  have H4 := hid N4
  clear N1 N2 N3 N4
  rcases hcs with ⟨hc, rfl⟩ | ⟨hc, rfl, rfl⟩ | ⟨hc, rfl, rfl, k3⟩ | ⟨hc, rfl, rfl, k3, rfl⟩ | ⟨hc, rfl, rfl, k3, rfl, rfl⟩ | ⟨hc, rfl, rfl, k3, rfl, rfl, k6, g7⟩ | ⟨hc, rfl, rfl, k3, rfl, rfl, k6, g7⟩ | ⟨hc, rfl, rfl, k3, rfl, rfl, k6⟩
  case inr.inr.inr.inr.inr.inl =>
    have he : body.toList.isEmpty = false := by
      rw [ByteArray.toList_eq, List.isEmpty_eq_false_iff]
      intro e
      have : body.data.toList.length = 0 := by rw [e]; rfl
      have h2 : body.data.toList.length = body.size := by simp
      omega
    subst hc
    go_enter Try.func44, Try.ntmps44
    go_wp2_with fail
    refine (H1.out _).mono ?_; rintro e w1 ⟨rfl, rfl⟩; go_wp2_with fail
    refine (H2.out _).mono ?_; rintro e w1 ⟨rfl, rfl⟩; go_wp2_with fail
    refine (H3.out _).mono ?_; rintro e w1 ⟨rfl, rfl⟩; go_wp2_with fail
    refine (H4.out _).mono ?_; rintro e w1 ⟨rfl, rfl⟩; go_wp2_with fail
    go_ret
    exact ⟨rfl, (Below.refl _ _).alloc (Nat.le_refl _) _⟩
  case inr.inr.inr.inr.inr.inr.inl =>
    rw [if_neg (by omega)] at hc
    have he : body = ⟨#[]⟩ := by
      obtain ⟨d⟩ := body
      have : d.size = 0 := g7
      rw [Array.size_eq_zero_iff] at this
      rw [this]
    subst he
    subst hc
    go_enter Try.func44, Try.ntmps44
    go_wp2_with fail
    refine (H1.out _).mono ?_; rintro e w1 ⟨rfl, rfl⟩; go_wp2_with fail
    refine (H2.out _).mono ?_; rintro e w1 ⟨rfl, rfl⟩; go_wp2_with fail
    refine (H3.out _).mono ?_; rintro e w1 ⟨rfl, rfl⟩; go_wp2_with fail
    refine (H4.out _).mono ?_; rintro e w1 ⟨rfl, rfl⟩; go_wp2_with fail
    go_ret
    exact ⟨rfl, (Below.refl _ _).alloc (Nat.le_refl _) _⟩
  case inr.inr.inr.inr.inr.inr.inr =>
    by_cases hl : 64 < body.size
    · have hl2 : (64 : Int) < (body.size : Int) := by omega
      rw [if_pos hl] at hc
      subst hc
      go_enter Try.func44, Try.ntmps44
      go_wp2_with fail
      refine (H1.out _).mono ?_; rintro e w1 ⟨rfl, rfl⟩; go_wp2_with fail
      refine (H2.out _).mono ?_; rintro e w1 ⟨rfl, rfl⟩; go_wp2_with fail
      refine (H3.out _).mono ?_; rintro e w1 ⟨rfl, rfl⟩; go_wp2_with fail
      refine (H4.out _).mono ?_; rintro e w1 ⟨rfl, rfl⟩; go_wp2_with fail
      go_ret
      exact ⟨rfl, (Below.refl _ _).alloc (Nat.le_refl _) _⟩
    · have hl2 : (body.size : Int) ≤ 64 := by omega
      rw [if_neg hl] at hc
      subst hc
      go_enter Try.func44, Try.ntmps44
      go_wp2_with fail
      refine (H1.out _).mono ?_; rintro e w1 ⟨rfl, rfl⟩; go_wp2_with fail
      refine (H2.out _).mono ?_; rintro e w1 ⟨rfl, rfl⟩; go_wp2_with fail
      refine (H3.out _).mono ?_; rintro e w1 ⟨rfl, rfl⟩; go_wp2_with fail
      refine (H4.out _).mono ?_; rintro e w1 ⟨rfl, rfl⟩; go_wp2_with fail
      go_ret
      exact ⟨rfl, (Below.refl _ _).alloc (Nat.le_refl _) _⟩
  all_goals
    subst hc
    go_enter Try.func44, Try.ntmps44
    go_wp2_with fail
    refine (H1.out _).mono ?_; rintro e w1 ⟨rfl, rfl⟩; go_wp2_with fail
    (try (refine (H2.out _).mono ?_; rintro e w1 ⟨rfl, rfl⟩; go_wp2_with fail))
    (try (refine (H3.out _).mono ?_; rintro e w1 ⟨rfl, rfl⟩; go_wp2_with fail))
    (try (refine (H4.out _).mono ?_; rintro e w1 ⟨rfl, rfl⟩; go_wp2_with fail))
    go_ret
    exact ⟨rfl, (Below.refl _ _).alloc (Nat.le_refl _) _⟩
end Go.Proofs.Ytalookaaogiinaa
