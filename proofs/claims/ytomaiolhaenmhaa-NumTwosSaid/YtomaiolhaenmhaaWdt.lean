/-
  THE REFERENCE's WORDS: rows of bits that the call made, up, size. No condition beside the readings.
-/
import Derived.Test.YtomaiolhaenmhaaWds
namespace Go.Proofs.Ytomaiolhaenmhaa
open Go.RowKit Go.Lib

theorem made_own (w : World) (n base : Nat) (hn : n ≤ 9223372036854775807) (hb : base ≤ w.heap.size) : OwnB (w.alloc (.cells (madeCells #[Value.bool false] n) 4)) base (.slice (some ⟨w.heap.size, 0, none⟩) n n) (bl (0#n)) := by
  refine ⟨by simp [bl_length], .inr ⟨w.heap.size, n, _, by rw [bl_length], hb, heap_alloc_new w _, by rw [bl_length]; exact Nat.le_refl _, by unfold maxLen; omega, by have h := congrArg List.length (made_false n); simpa [bl_length] using h, ?_⟩⟩
  rw [made_false]
  exact List.take_of_length_le (by simp [bl_length])
/-- one bit turned -/
theorem bl_set {n : Nat} {b c : BitVec n} {j : Nat} {x : Bool} (h : ∀ i, i < n → c.getLsbD i = if i = j then x else b.getLsbD i) : (bl b).set j x = bl c := by
  apply bl_eq (by simp [bl_length])
  intro i hi
  have hi2 : i < n := by simpa [bl_length] using hi
  rw [h i hi2, List.getElem_set]
  by_cases e : i = j
  · simp [e]
  · have e2 : ¬ j = i := fun h => e h.symm
    rw [if_neg e2, if_neg e, bl_get]

set_option maxRecDepth 100000 in
set_option maxHeartbeats 2000000 in
theorem up_any {n : Nat} (b : BitVec n) (k : Nat) (h0 : 0 < n) (hn : n ≤ 100) (hk : k ≤ n) (w : World) (v : Value) (hv : Bools w v (bl b)) :
    Calls Try.prog 178 #[v, .int .i64 k] w fun e w' => ∃ v', e = .returned v' ∧ OwnB w' w.heap.size v' (bl (b <<< k)) ∧ Below w.heap.size w w' := by
  have hmk := fun wx : World => run_make_row' (P := Try.prog) 145 4 (.bool false) 1 Try.underlying145 (by kernel_rfl) rfl .i64 .i64 k (by omega) (by omega) wx
  have hue := hid (up_eq b k hk)
  have hlk := bl_take_len b (n - k) (by omega)
  obtain ⟨g, off, cap, rfl, hcap, hm, hg, HC⟩ := bools_open2 b h0 hv
  have HT : Hid (∀ w', Below w.heap.size w w' → Bools w' (.slice (some ⟨g, off, none⟩) (n - k) cap) ((bl b).take (n - k))) := hid (fun w' hb => by
    have h1 := L1.below hv hb
    obtain ⟨ao, cap', e1, e2, e3, e4, e5⟩ := h1
    simp only [Value.slice.injEq, bl_length, true_and] at e1
    obtain ⟨rfl, rfl⟩ := e1
    rw [bl_length] at e2
    refine ⟨_, _, by rw [hlk], by rw [hlk]; omega, e3, e4, ?_⟩
    rcases e5 with e5 | ⟨b', off', e5, e6⟩
    · simp at e5
      have := bl_length b
      rw [e5] at this
      simp at this
      omega
    · refine .inr ⟨b', off', e5, fun j hj => ?_⟩
      rw [List.length_map, hlk] at hj
      rw [e6 j (by rw [List.length_map, bl_length]; omega)]
      simp)
  clear hv
  have hnk : IntKind.i64.wrap ((n : Int) - (k : Int)) = ((n - k : Nat) : Int) := by rw [IntKind.wrap_i64]; omega
  have hck2 : n ≤ cap + k := by omega
  go_enter Try.func178, Try.ntmps178
  go_wp2_with fail
  go_region_law (first | (refine step_any elem_word (by rfl) _ _ (by rfl) (by rfl) (by rfl) (made_own _ k w.heap.size (by omega) (by simp)) (HT.out _ (drew_bel' (n := 1) ((Below.refl _ _).alloc (Nat.le_refl _) _))) (by simp) (map_oneCell one_bool _) (by rw [hlk, bl_length]; omega) (by rw [hlk, bl_length]; omega) (by simp) ?_; intro v' w1 ho hb hg; have HO := hid ho; have HB := hid hb; clear ho hb hg))
  all_goals
    go_wp2_with fail
    go_ret
    have h := HO.out
    rw [← List.map_append, ← List.length_append, bl_zero, hue.out] at h
    exact ⟨v', rfl, h, (drew_bel' (n := 1) ((Below.refl _ _).alloc (Nat.le_refl _) _)).trans HB.out⟩

set_option maxRecDepth 100000 in
set_option maxHeartbeats 2000000 in
theorem size_any {n : Nat} (b : BitVec n) (h0 : 0 < n) (hn : n ≤ 100) (w : World) (v : Value) (hv : Bools w v (bl b)) :
    Calls Try.prog 151 #[v] w fun e w' => ∃ v', e = .returned v' ∧ Bools w' v' (bl (if b.getLsbD (n - 1) = true then -b else b)) ∧ Below w.heap.size w w' := by
  have HM := hid (fun w' (h : Below w.heap.size w w') => minus_any b h0 hn w' v (L1.below hv h))
  have HV := hid hv
  obtain ⟨g, off, cap, rfl, hcap, hm, hg, HC⟩ := bools_open2 b h0 hv
  clear hv
  have hcl := HC.out (n - 1) (by omega) w (Below.refl _ _)
  have hi0 : IntKind.i64.wrap ((n : Int) - 1) = ((n - 1 : Nat) : Int) := by rw [IntKind.wrap_i64]; omega
  have hi1 : wrap64 ((n : Int) - 1) = ((n - 1 : Nat) : Int) := by unfold wrap64; omega
  cases hb : b.getLsbD (n - 1) with
  | true =>
    rw [hb] at hcl
    clear hb
    go_enter Try.func151, Try.ntmps151
    go_wp2_with (go_at_call 153; refine (HM.out _ (Below.refl _ _)).mono ?_; rintro r w1 ⟨v1, rfl, ho1, hb1⟩; have O1' := hid ho1; have B1 := hid hb1; clear ho1 hb1)
    go_ret
    exact ⟨v1, rfl, O1.l1 O1'.out, B1.out⟩
  | false =>
    rw [hb] at hcl
    clear hb
    go_enter Try.func151, Try.ntmps151
    go_wp2_with fail
    go_ret
    exact ⟨_, rfl, HV.out, Below.refl _ _⟩
end Go.Proofs.Ytomaiolhaenmhaa
