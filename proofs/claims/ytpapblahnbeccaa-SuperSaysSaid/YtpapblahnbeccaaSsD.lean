/-
  SUPERVISORS: the program's Down. Conditions: at most 8 kids, a last time that is not negative.
-/
import Derived.Test.YtpapblahnbeccaaSsM
import Derived.Test.YtpapblahnbeccaaStep
import Derived.Deep.CutBlock
import Derived.Deep.RegionLaw
namespace Go.Proofs.Ytpapblahnbeccaa
open Go.RowKit Go.Lib
attribute [local go_sem ↓] Go.wp_at_zero Go.wp_at_succ

def DownPost (ty : TypeId) (w : World) (base B : Nat) (kv pv : Value) (r : (List Int × List Int × Bool × Int) × SSt) (e : Ending) (w' : World) : Prop :=
  ∃ v1 v2 kv' pv', e = .returned (.tuple #[v1, v2, .bool r.1.2.2.1, .int .i64 r.1.2.2.2]) ∧ SBox ty w' base B kv' pv' r.2 ∧ OwnI w' w.heap.size .i64 3 v1 r.1.1 ∧ OwnI w' w.heap.size .i64 3 v2 r.1.2.1
    ∧ Touch (footS B kv pv) w w' ∧ (∀ k, footS B kv' pv' k → footS B kv pv k ∨ w.heap.size ≤ k)
theorem down_err {ty : TypeId} {w : World} {base B : Nat} {kv pv : Value} {s : SSt} {n : Int} (h : SBox ty w base B kv pv s) : DownPost ty w base B kv pv (([], [], false, n), s) (.returned (.tuple #[.slice none 0 0, .slice none 0 0, .bool false, .int .i64 n])) w :=
  ⟨_, _, kv, pv, rfl, h, OwnI.nil _ _ _ _, OwnI.nil _ _ _ _, Touch.refl _ _, fun _ hk => .inl hk⟩
theorem down_ret {a b : Value} {c : Bool} {n : Int} : Ending.returned (.tuple #[a, b, .bool c, .int .i64 n]) = .returned (.tuple #[a, b, .bool c, .int .i64 n]) := rfl

set_option maxRecDepth 100000 in
set_option maxHeartbeats 4000000 in
theorem sdown_bad (w : World) (base B : Nat) (kv pv : Value) (s : SSt) (kid now : Int) (h : SBox 180 w base B kv pv s)
    (hb : s.over = true ∨ (s.over = false ∧ (kid < 0 ∨ (s.kids.length : Int) ≤ kid ∨ ¬ isT now ∨ now < s.last)) ∨ (s.over = false ∧ 0 ≤ kid ∧ kid < s.kids.length ∧ isT now ∧ s.last ≤ now ∧ (kdAt s.kids kid.toNat).runs = false)) :
    Calls Try.prog 39 #[.pointer (some ⟨B, 0, none⟩), .int .i64 kid, .int .i64 now] w (DownPost 180 w base B kv pv (downF s kid now)) := by
  have H := hid h
  have b0 := h.blk.cell (i := 0) rfl
  have b1 := h.blk.cell (i := 1) rfl
  have b2 := h.blk.cell (i := 2) rfl
  have b3 := h.blk.cell (i := 3) rfl
  have b4 := h.blk.cell (i := 4) rfl
  have b5 := h.blk.cell (i := 5) rfl
  have b6 := h.blk.cell (i := 6) rfl
  obtain ⟨ao, cap, hkv, _⟩ := own_sl h.kids
  subst hkv
  clear h
  rcases hb with ho | ⟨ho, hb⟩ | ⟨ho, k1, k2, k3, k4, k5⟩
  · have hd : downF s kid now = (([], [], false, 15), s) := if_pos ho
    rw [hd]
    rw [ho] at b6
    go_enter Try.func39, Try.ntmps39
    go_wp2_with fail
    refine bodyPost_ret (v := .tuple #[.slice none 0 0, .slice none 0 0, .bool false, .int .i64 15]) (by simp [results, Try.results39, go_sem]) rfl ?_
    exact down_err H.out
  · have hd : downF s kid now = (([], [], false, 1), s) := by
      unfold downF
      rw [if_neg (by rw [ho]; decide), if_pos hb]
    rw [hd]
    rw [ho] at b6
    have hcs : kid < 0 ∨ (0 ≤ kid ∧ (s.kids.length : Int) ≤ kid) ∨ (0 ≤ kid ∧ kid < (s.kids.length : Int) ∧ ¬ isT now) ∨ (0 ≤ kid ∧ kid < (s.kids.length : Int) ∧ isT now ∧ now < s.last) := by
      by_cases g1 : kid < 0
      · exact .inl g1
      by_cases g2 : (s.kids.length : Int) ≤ kid
      · exact .inr (.inl ⟨by omega, g2⟩)
      by_cases g3 : isT now
      · exact .inr (.inr (.inr ⟨by omega, by omega, g3, by rcases hb with h | h | h | h; omega; omega; exact absurd g3 h; exact h⟩))
      · exact .inr (.inr (.inl ⟨by omega, by omega, g3⟩))
    clear hb hd
    rcases hcs with g1 | ⟨g1, g2⟩ | ⟨g1, g2, g3⟩ | ⟨g1, g2, g3, g4⟩
    · go_enter Try.func39, Try.ntmps39
      go_wp2_with fail
      refine bodyPost_ret (v := .tuple #[.slice none 0 0, .slice none 0 0, .bool false, .int .i64 1]) (by simp [results, Try.results39, go_sem]) rfl ?_
      exact down_err H.out
    · go_enter Try.func39, Try.ntmps39
      go_wp2_with fail
      refine bodyPost_ret (v := .tuple #[.slice none 0 0, .slice none 0 0, .bool false, .int .i64 1]) (by simp [results, Try.results39, go_sem]) rfl ?_
      exact down_err H.out
    · have hn := isTime_no now w (by unfold isT maxT at g3; omega)
      have HN := hid hn
      have g2' : decide ((s.kids.length : Int) ≤ kid) = false := decide_eq_false (by omega)
      have g1' : decide (kid < 0) = false := decide_eq_false (by omega)
      clear hn
      go_enter Try.func39, Try.ntmps39
      go_wp2_with fail
      refine HN.out.mono ?_
      rintro e w1 ⟨rfl, rfl⟩
      go_wp2_with fail
      refine bodyPost_ret (v := .tuple #[.slice none 0 0, .slice none 0 0, .bool false, .int .i64 1]) (by simp [results, Try.results39, go_sem]) rfl ?_
      exact down_err H.out
    · have hn := isTime_yes now w g3
      have HN := hid hn
      have g2' : decide ((s.kids.length : Int) ≤ kid) = false := decide_eq_false (by omega)
      have g1' : decide (kid < 0) = false := decide_eq_false (by omega)
      clear hn
      go_enter Try.func39, Try.ntmps39
      go_wp2_with fail
      refine HN.out.mono ?_
      rintro e w1 ⟨rfl, rfl⟩
      go_wp2_with fail
      refine bodyPost_ret (v := .tuple #[.slice none 0 0, .slice none 0 0, .bool false, .int .i64 1]) (by simp [results, Try.results39, go_sem]) rfl ?_
      exact down_err H.out
  · have hd : downF s kid now = (([], [], false, 13), s) := by
      unfold downF
      rw [if_neg (by rw [ho]; decide), if_neg (by rintro (h | h | h | h); omega; omega; exact h k3; omega), if_pos k5]
    rw [hd]
    rw [ho] at b6
    obtain ⟨n, rfl⟩ := Int.eq_ofNat_of_zero_le k1
    have hn := isTime_yes now w k3
    have HN := hid hn
    have g2' : decide ((s.kids.length : Int) ≤ (n : Int)) = false := decide_eq_false (by omega)
    have g1' : decide ((n : Int) < 0) = false := decide_eq_false (by omega)
    have g4' : decide (now < s.last) = false := decide_eq_false (by omega)
    obtain ⟨g, cap', hv, _⟩ := own_head H.out.kids (by omega)
    simp only [Value.slice.injEq, true_and] at hv
    obtain ⟨rfl, rfl⟩ := hv
    obtain ⟨c0, _, _⟩ := kd_cells H.out.kids n (by omega)
    rw [show ((n : Int)).toNat = n from rfl] at k5
    rw [k5] at c0
    clear hn hd
    go_enter Try.func39, Try.ntmps39
    go_wp2_with fail
    refine HN.out.mono ?_
    rintro e w1 ⟨rfl, rfl⟩
    go_wp2_with fail
    refine bodyPost_ret (v := .tuple #[.slice none 0 0, .slice none 0 0, .bool false, .int .i64 13]) (by simp [results, Try.results39, go_sem]) rfl ?_
    exact down_err H.out
end Go.Proofs.Ytpapblahnbeccaa
