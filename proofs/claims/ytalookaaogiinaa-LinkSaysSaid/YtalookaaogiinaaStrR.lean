/-
  ROWS OF STRINGS: the element, the reference's Eq. No condition beside the readings.
-/
import Derived.Test.YtalookaaogiinaaRowK
import Derived.Test.YtalookaaogiinaaEqs
namespace Go.Proofs.Ytalookaaogiinaa
open Go.RowKit Go.Lib

theorem info_str : (Try.prog.info? 9).map (fun i => (i.zero, i.size, i.bytes)) = some (some (.string ByteArray.empty), 1, 16) := by kernel_rfl
theorem elem_str : Elem Try.prog 40 9 (.string ByteArray.empty) 1 16 := ⟨Try.underlying40, info_str, rfl, by decide⟩

theorem bne_str {a b : ByteArray} (h : a = b) : (a.toList != b.toList) = false := by rw [h]; simp
theorem bne_str' {a b : ByteArray} (h : ¬ a = b) : (a.toList != b.toList) = true := by
  have : ¬ a.toList = b.toList := fun e => h (toList_inj.1 e)
  simpa using this

set_option maxRecDepth 100000 in
set_option maxHeartbeats 1000000 in
theorem eq_str (va vb : Value) (xs ys : List ByteArray) (w : World) (ha : L1 Value.string w va xs) (hb : L1 Value.string w vb ys) :
    Calls Try.prog 19 #[va, vb] w fun e w' => e = .returned (.bool (decide (xs = ys))) ∧ w = w' := by
  by_cases hl : xs.length = ys.length
  · rcases ha.open with ⟨ao, cap, rfl, rfl, _⟩ | ⟨b, off, cap, rfl, h0, hcap, hm, hc⟩
    · obtain rfl : ys = [] := by cases ys <;> simp_all
      obtain ⟨ao', cap', rfl, _, _, _, _⟩ := hb
      clear hl ha
      go_enter Try.func19, Try.ntmps19
      go_wp2
      refine wp_loop_rounds 1 ?_; rw [rounds_succ]; go_wp2
      go_ret
      exact ⟨by simp, rfl⟩
    · rcases hb.open with ⟨ao', cap', rfl, rfl, _⟩ | ⟨b', off', cap', rfl, h0', hcap', hm', hc'⟩
      · simp at hl; simp [hl] at h0
      clear ha hb
      have H := hid hl
      have HC := hid hc
      have HC' := hid hc'
      have hne : ((xs.length : Int) != ys.length) = false := by simp [hl]
      clear hl hc hc'
      go_enter Try.func19, Try.ntmps19
      go_wp2
      go_loop [14] (fun i => ∃ k : Nat, k ≤ xs.length ∧ i = .int .i64 k ∧ Hid (xs = ys ↔ xs.drop k = ys.drop k)) (fun i => xs.length - (intOf i).toNat)
      case atStart => exact ⟨0, Nat.zero_le _, rfl, by simp [Hid]⟩
      case round =>
        obtain ⟨k, hk, rfl, hq⟩ := hrel
        by_cases hlt : k < xs.length
        · have hlt' : k < ys.length := by have := H.out; omega
          have c1 := HC.out k hlt
          have c2 := HC'.out k hlt'
          have hon : xs[k] = ys[k] → Hid (xs = ys ↔ xs.drop (k + 1) = ys.drop (k + 1)) := fun e => by
            show _ ↔ _
            rw [hq.out, eq_tail k hlt hlt']
            exact ⟨fun h => h.2, fun h => ⟨e, h⟩⟩
          have hno : ¬ xs[k] = ys[k] → ¬ xs = ys := fun e => by
            rw [hq.out, eq_tail k hlt hlt']
            exact fun h => e h.1
          generalize xs[k] = p at *
          generalize ys[k] = q at *
          by_cases hpq : p = q
          · have hon2 := hon hpq
            have hs := bne_str hpq
            have he : (p.toList == q.toList) = true := by rw [hpq]; simp
            have HS := hid hs
            clear hon hno hpq hs
            have hs := HS.out
            go_wp2
            go_round
            case rel => exact ⟨k + 1, by omega, by go_num, hon2⟩
            case measure => simp [intOf]; omega
          · have hno2 := hid (hno hpq)
            have hs := bne_str' hpq
            have he : (p.toList == q.toList) = false := by simpa using hs
            clear hon hno hpq
            go_wp2
            go_ret
            exact ⟨retB (by simp [hno2.out]), rfl⟩
        · go_wp2
          go_ret
          exact ⟨retB (by simp [eq_end hq H.out hlt]), rfl⟩
  · have hne : ((xs.length : Int) != ys.length) = true := by simp; omega
    have hxy : xs ≠ ys := fun e => hl (by rw [e])
    obtain ⟨ao, cap, rfl, _, _, _, _⟩ := ha
    obtain ⟨ao', cap', rfl, _, _, _, _⟩ := hb
    go_enter Try.func19, Try.ntmps19
    go_wp2
    go_ret
    exact ⟨retB (by simp [hxy]), rfl⟩
end Go.Proofs.Ytalookaaogiinaa
