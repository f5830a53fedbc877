/-
  THE REFERENCE's COMPARISON OF TWO LISTS (Eq), by element type: it answers whether the two lists are one. No condition beside the readings.
-/
import Derived.Test.YtalookaaogiinaaBase
namespace Go.Proofs.Ytalookaaogiinaa
open Go.RowKit

theorem eq_tail {α : Type} {xs ys : List α} (k : Nat) (hk : k < xs.length) (hk' : k < ys.length) :
    (xs.drop k = ys.drop k) ↔ (xs[k] = ys[k] ∧ xs.drop (k + 1) = ys.drop (k + 1)) := by
  rw [drop_cons xs k hk, drop_cons ys k hk', List.cons.injEq]
theorem eq_no {α : Type} [BEq α] [LawfulBEq α] {xs ys : List α} {k : Nat} {hk : k < xs.length} {hk' : k < ys.length} (h : Hid (xs = ys ↔ xs.drop k = ys.drop k)) (hx : (xs[k] != ys[k]) = true) : ¬ xs = ys := by
  rw [h.out, eq_tail k hk hk']
  intro e
  simp [e.1] at hx
theorem eq_on {α : Type} [BEq α] [LawfulBEq α] {xs ys : List α} {k : Nat} {hk : k < xs.length} {hk' : k < ys.length} (h : Hid (xs = ys ↔ xs.drop k = ys.drop k)) (hx : (xs[k] != ys[k]) = false) : Hid (xs = ys ↔ xs.drop (k + 1) = ys.drop (k + 1)) := by
  have hx' : xs[k] = ys[k] := by simpa using hx
  show _ ↔ _
  rw [h.out, eq_tail k hk hk']
  exact ⟨fun e => e.2, fun e => ⟨hx', e⟩⟩
theorem eq_end {α : Type} {xs ys : List α} {k : Nat} (h : Hid (xs = ys ↔ xs.drop k = ys.drop k)) (hl : xs.length = ys.length) (hk : ¬ k < xs.length) : xs = ys := by
  rw [h.out, List.drop_of_length_le (by omega), List.drop_of_length_le (by omega)]

set_option maxRecDepth 100000 in
set_option maxHeartbeats 400000 in
theorem eq_int (va vb : Value) (xs ys : List Int) (w : World) (ha : Ints w .i64 va xs) (hb : Ints w .i64 vb ys) :
    Calls Try.prog 30 #[va, vb] w fun e w' => e = .returned (.bool (decide (xs = ys))) ∧ w = w' := by
  by_cases hl : xs.length = ys.length
  · rcases ha.open with ⟨ao, cap, rfl, rfl, _⟩ | ⟨b, off, cap, rfl, h0, hcap, hm, hc⟩
    · obtain rfl : ys = [] := by cases ys <;> simp_all
      obtain ⟨ao', cap', rfl, _, _, _, _⟩ := hb
      clear hl ha
      go_enter Try.func30, Try.ntmps30
      go_wp2
      refine wp_loop_rounds 1 ?_; rw [rounds_succ]; go_wp2
      go_ret
      exact ⟨by simp, rfl⟩
    · rcases hb.open with ⟨ao', cap', rfl, rfl, _⟩ | ⟨b', off', cap', rfl, h0', hcap', hm', hc'⟩
      · simp at hl; simp [hl] at h0
      clear ha hb
      have H := hid hl
      have hne : ((xs.length : Int) != ys.length) = false := by simp [hl]
      clear hl
      go_enter Try.func30, Try.ntmps30
      go_wp2
      go_loop [14] (fun i => ∃ k : Nat, k ≤ xs.length ∧ i = .int .i64 k ∧ Hid (xs = ys ↔ xs.drop k = ys.drop k)) (fun i => xs.length - (intOf i).toNat)
      case atStart => exact ⟨0, Nat.zero_le _, rfl, by simp [Hid]⟩
      case round =>
        obtain ⟨k, hk, rfl, hq⟩ := hrel
        by_cases hlt : k < xs.length
        · have hlt' : k < ys.length := by have := H.out; omega
          go_wp2
          · go_ret
            exact ⟨retB (by simp [eq_no hq ‹_›]), rfl⟩
          · go_round
            case rel => exact ⟨k + 1, by omega, by go_num, eq_on hq ‹_›⟩
            case measure => simp [intOf]; omega
        · go_wp2
          go_ret
          exact ⟨retB (by simp [eq_end hq H.out hlt]), rfl⟩
  · have hne : ((xs.length : Int) != ys.length) = true := by simp; omega
    have hxy : xs ≠ ys := fun e => hl (by rw [e])
    obtain ⟨ao, cap, rfl, _, _, _, _⟩ := ha
    obtain ⟨ao', cap', rfl, _, _, _, _⟩ := hb
    go_enter Try.func30, Try.ntmps30
    go_wp2
    go_ret
    exact ⟨retB (by simp [hxy]), rfl⟩
end Go.Proofs.Ytalookaaogiinaa
