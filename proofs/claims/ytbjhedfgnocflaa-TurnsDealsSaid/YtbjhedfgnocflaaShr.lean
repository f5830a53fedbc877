/-
  Share, for all arguments: the errors, the empty list, both functions.
-/
import Derived.Test.YtbjhedfgnocflaaShare
namespace Go.Proofs.Ytbjhedfgnocflaa
open Go.RowKit

theorem shareF_ok {xs : List Int} {slice budget : Int} (h : xs.length ≤ 16) (h2 : ¬ (slice < 1 ∨ 2000 < slice ∨ budget < 0 ∨ 2000 < budget ∨ ∃ n ∈ xs, badN n)) :
    shareF xs slice budget = ((goS slice (mostL xs 0) xs 2001 0 (List.replicate xs.length 0, [], budget)).1, (goS slice (mostL xs 0) xs 2001 0 (List.replicate xs.length 0, [], budget)).2.1, 0) := by
  unfold shareF
  rw [if_neg (by omega), if_neg h2]
theorem goS_nil (slice : Int) (f : Nat) (k : Nat) (hk : 0 ≤ (k : Int) * slice) (st : ShSt) : goS slice (mostL [] 0) [] f k st = st := by
  cases f with
  | zero => rfl
  | succ f => rw [goS, if_neg (by show ¬ _ < (0 : Int); omega)]
theorem shareF_nil {slice budget : Int} (h2 : ¬ (slice < 1 ∨ 2000 < slice ∨ budget < 0 ∨ 2000 < budget)) :
    shareF [] slice budget = ([], [], 0) := by
  rw [shareF_ok (by simp) (by simp; omega), goS_nil _ _ _ (by simp)]
  rfl
theorem first_bad (xs : List Int) (h : ∃ n ∈ xs, badN n) : ∃ q, ∃ hq : q < xs.length, badN xs[q] ∧ ∀ i, (hi : i < q) → 0 ≤ (xs[i]'(by omega)) ∧ (xs[i]'(by omega)) ≤ 2000 := by
  induction xs with
  | nil => obtain ⟨n, hn, _⟩ := h; cases hn
  | cons x r ih =>
    by_cases hx : badN x
    · exact ⟨0, by simp, hx, fun i hi => absurd hi (by omega)⟩
    · have : ∃ n ∈ r, badN n := by
        obtain ⟨n, hn, hb⟩ := h
        rcases List.mem_cons.1 hn with rfl | hn
        · exact absurd hb hx
        · exact ⟨n, hn, hb⟩
      obtain ⟨q, hq, hb, ha⟩ := ih this
      refine ⟨q + 1, by simp; omega, by simpa using hb, fun i hi => ?_⟩
      cases i with
      | zero => unfold badN at hx; show 0 ≤ x ∧ x ≤ 2000; omega
      | succ i => simpa using ha i (by omega)

set_option maxRecDepth 100000 in
set_option maxHeartbeats 4000000 in
theorem refShare_any (v : Value) (xs : List Int) (slice budget : Int) (w : World) (hv : Ints w .i64 v xs) :
    Calls Try.prog 35 #[v, .int .i64 slice, .int .i64 budget] w (SharePost w (shareF xs slice budget)) := by
  obtain ⟨ao, cap, hvv, _⟩ := id hv
  by_cases hlen : 16 < xs.length
  · have e : shareF xs slice budget = ([], [], 2) := by unfold shareF; rw [if_pos hlen]
    rw [e]
    subst hvv
    clear hv e
    have h1 : (16 : Int) < (xs.length : Int) := by omega
    go_enter Try.func35, Try.ntmps35
    go_wp2_with fail
    go_ret3
    exact SharePost.err _ _
  · have h16 : (xs.length : Int) ≤ 16 := by omega
    by_cases hbad : slice < 1 ∨ 2000 < slice ∨ budget < 0 ∨ 2000 < budget
    · have e : shareF xs slice budget = ([], [], 1) := by
        unfold shareF
        rw [if_neg hlen, if_pos (by rcases hbad with h | h | h | h <;> simp [h])]
      rw [e]
      have hcases : slice < 1 ∨ (1 ≤ slice ∧ 2000 < slice) ∨ (1 ≤ slice ∧ slice ≤ 2000 ∧ budget < 0) ∨ (1 ≤ slice ∧ slice ≤ 2000 ∧ 0 ≤ budget ∧ 2000 < budget) := by omega
      subst hvv
      clear hv hbad e hlen
      rcases hcases with h1 | ⟨h1, h2⟩ | ⟨h1, h2, h3⟩ | ⟨h1, h2, h3, h4⟩
      all_goals
        go_enter Try.func35, Try.ntmps35
        go_wp2_with fail
        go_ret3
        exact SharePost.err _ _
    · by_cases hn : ∃ n ∈ xs, badN n
      · have e : shareF xs slice budget = ([], [], 1) := by
          unfold shareF
          rw [if_neg hlen, if_pos (.inr (.inr (.inr (.inr hn))))]
        rw [e]
        obtain ⟨q, hq, hb, hall⟩ := first_bad xs hn
        rcases hv.open with ⟨ao, cap, rfl, rfl, _⟩ | ⟨b, off, cap, rfl, h0, hcap, hm, hc⟩
        · simp at hq
        · have HALL := hid hall
          have hb1 : 1 ≤ slice := by omega
          have hb2 : slice ≤ 2000 := by omega
          have hb3 : 0 ≤ budget := by omega
          have hb4 : budget ≤ 2000 := by omega
          have HB : Hid (badN xs[q]) := hb
          clear hb hall hvv e hn hbad hlen
          go_enter Try.func35, Try.ntmps35
          go_wp2_with fail
          go_loop [9, 37] (fun m i => ∃ (k : Nat) (y : Int), k ≤ q ∧ i = .int .i64 k ∧ m = .int .i64 y) (fun _ i => xs.length - (intOf i).toNat)
          case atStart => exact ⟨0, 0, Nat.zero_le _, rfl, rfl⟩
          case round =>
            obtain ⟨k, y, hk, rfl, rfl⟩ := hrel
            have hlt : k < xs.length := by omega
            by_cases hkq : k < q
            · obtain ⟨hx1, hx2⟩ := HALL.out k hkq
              go_wp2_with fail
              go_round
              case rel => exact ⟨k + 1, _, by omega, by go_num, rfl⟩
              case measure => simp [intOf]; omega
            · obtain rfl : k = q := by omega
              have hb' : xs[k] < 0 ∨ (0 ≤ xs[k] ∧ 2000 < xs[k]) := by have := HB.out; unfold badN at this; omega
              rcases hb' with hx | ⟨hx1, hx2⟩
              all_goals
                go_wp2_with fail
                go_ret3
                exact SharePost.err _ _
      · have hgood : ∀ n ∈ xs, 0 ≤ n ∧ n ≤ 2000 := fun n hm => by
          have : ¬ badN n := fun h => hn ⟨n, hm, h⟩
          unfold badN at this; omega
        by_cases hne : 0 < xs.length
        · rw [shareF_ok (by omega) (by rintro (h | h | h | h | h) <;> first | omega | exact hn h)]
          exact refShare_go v xs slice budget w hv (by omega) (by omega) (by omega) (by omega) (by omega) hgood hne
        · obtain rfl : xs = [] := List.eq_nil_of_length_eq_zero (by omega)
          rw [shareF_nil hbad]
          have hb1 : 1 ≤ slice := by omega
          have hb2 : slice ≤ 2000 := by omega
          have hb3 : 0 ≤ budget := by omega
          have hb4 : budget ≤ 2000 := by omega
          clear hv hgood hn hbad hlen hne h16
          subst hvv
          have hz : IntKind.i64.wrap (0 * slice) = 0 := by rw [Int.zero_mul]; rfl
          go_enter Try.func35, Try.ntmps35
          go_wp2_with fail
          go_loop [9, 37] (fun m i => m = .int .i64 0 ∧ i = .int .i64 0) (fun _ _ => 0)
          case atStart => exact ⟨rfl, rfl⟩
          case round =>
            obtain ⟨rfl, rfl⟩ := hrel
            go_wp2_with (at_make; go_must (refine app_make elem_int (base := w.heap.size) (n := 0) rfl _ _ rfl rfl rfl rfl (by omega) (by omega) (Nat.le_refl _) ?_); intro w1 hgot hbel1 hlt1)
            go_loopw [2, 13, 14] (fun bd o kk wr => bd = .int .i64 budget ∧ o = .slice none 0 0 ∧ kk = .int .i64 0 ∧ wr = w1) (fun _ _ _ _ => 0)
            case atStart => exact ⟨rfl, rfl, rfl, rfl⟩
            case round =>
              obtain ⟨rfl, rfl, rfl, rfl⟩ := hrel
              go_wp2_with fail
              go_ret3
              exact ⟨_, _, rfl, hgot, OwnI.nil _ _ _ _, hbel1⟩

set_option maxRecDepth 100000 in
set_option maxHeartbeats 4000000 in
theorem share_any (v : Value) (xs : List Int) (slice budget : Int) (w : World) (hv : Ints w .i64 v xs) :
    Calls Try.prog 34 #[v, .int .i64 slice, .int .i64 budget] w (SharePost w (shareF xs slice budget)) := by
  obtain ⟨ao, cap, hvv, _⟩ := id hv
  by_cases hlen : 16 < xs.length
  · have e : shareF xs slice budget = ([], [], 2) := by unfold shareF; rw [if_pos hlen]
    rw [e]
    subst hvv
    clear hv e
    have h1 : (16 : Int) < (xs.length : Int) := by omega
    go_enter Try.func34, Try.ntmps34
    go_wp2_with fail
    go_step3
    go_wp2_with fail
    (try rw [Exit.noGoto_ret])
    go_ret3
    exact SharePost.err _ _
  · have h16 : (xs.length : Int) ≤ 16 := by omega
    have hd : decide (16 < (xs.length : Int)) = false := decide_eq_false (by omega)
    have hcon := fun w' (hv' : Ints w' .i64 v xs) => contains_any v xs w' hv'
    have HCON := hid hcon
    have HV := hid hv
    clear hcon hv
    by_cases hbad : slice < 1 ∨ 2000 < slice ∨ budget < 0 ∨ 2000 < budget
    · have e : shareF xs slice budget = ([], [], 1) := by
        unfold shareF
        rw [if_neg hlen, if_pos (by rcases hbad with h | h | h | h <;> simp [h])]
      rw [e]
      have hcases : (slice == 0) = true ∨ ((slice == 0) = false ∧ (slice < 0 ∨ (0 ≤ slice ∧ 2000 < slice))) ∨ ((slice == 0) = false ∧ (0 ≤ slice ∧ slice ≤ 2000) ∧ (budget < 0 ∨ (0 ≤ budget ∧ 2000 < budget))) := by
        by_cases h : slice = 0
        · left; simp [h]
        · right
          have : (slice == 0) = false := by simp [h]
          rcases Int.lt_or_le slice 0 with h1 | h1
          · exact .inl ⟨this, by omega⟩
          · rcases Int.lt_or_le 2000 slice with h2 | h2
            · exact .inl ⟨this, by omega⟩
            · exact .inr ⟨this, by omega, by omega⟩
      subst hvv
      clear hbad e hlen HV HCON
      rcases hcases with h1 | ⟨h1, h2⟩ | ⟨h1, h2, h3⟩
      all_goals
        go_enter Try.func34, Try.ntmps34
        go_wp2_with fail
        (try go_step3)
        go_wp2_with (first | (go_at_call 81; (first | refine (bad_yes _ _ (by assumption)).mono ?_ | refine (bad_no _ _ (by omega)).mono ?_); rintro e w' ⟨rfl, rfl⟩))
        (try go_step3)
        go_wp2_with fail
        go_ret3
        exact SharePost.err _ _
    · have hb1 : 1 ≤ slice := by omega
      have hb2 : slice ≤ 2000 := by omega
      have hb3 : 0 ≤ budget := by omega
      have hb4 : budget ≤ 2000 := by omega
      have hs0 : (slice == 0) = false := by simp; omega
      by_cases hn : ∃ n ∈ xs, badN n
      · have e : shareF xs slice budget = ([], [], 1) := by
          unfold shareF
          rw [if_neg hlen, if_pos (.inr (.inr (.inr (.inr hn))))]
        rw [e]
        have hcon2 := fun w' hv' => HCON.out w' hv' true ⟨fun _ => hn, fun _ => rfl⟩
        have HCON2 := hid hcon2
        clear hcon2 HCON
        subst hvv
        clear hbad e hlen hn
        go_enter Try.func34, Try.ntmps34
        go_wp2_with fail
        go_step3
        go_wp2_with (first | (go_at_call 81; go_must (refine (bad_no _ _ (by omega)).mono ?_); rintro e w' ⟨rfl, rfl⟩) | (go_at_call 82; go_must (refine (HCON2.out _ HV.out).mono ?_); rintro e w' ⟨rfl, rfl⟩))
        (try go_step3)
        go_wp2_with fail
        go_ret3
        exact SharePost.err _ _
      · have hgood : ∀ n ∈ xs, 0 ≤ n ∧ n ≤ 2000 := fun n hm => by
          have : ¬ badN n := fun h => hn ⟨n, hm, h⟩
          unfold badN at this; omega
        by_cases hne : 0 < xs.length
        · rw [shareF_ok (by omega) (by rintro (h | h | h | h | h) <;> first | omega | exact hn h)]
          exact share_go v xs slice budget w HV.out (by omega) (by omega) (by omega) (by omega) (by omega) hgood hne
        · obtain rfl : xs = [] := List.eq_nil_of_length_eq_zero (by omega)
          rw [shareF_nil hbad]
          have hcon2 := fun w' hv' => HCON.out w' hv' false (by simp)
          have HCON2 := hid hcon2
          clear hcon2 HCON
          clear hgood hn hbad hlen hne h16 hd
          subst hvv
          go_enter Try.func34, Try.ntmps34
          go_wp2_with fail
          go_step3
          go_wp2_with (first | (go_at_call 81; go_must (refine (bad_no _ _ (by omega)).mono ?_); rintro e w' ⟨rfl, rfl⟩) | (go_at_call 82; go_must (refine (HCON2.out _ HV.out).mono ?_); rintro e w' ⟨rfl, rfl⟩) | (at_make; go_must (refine app_make elem_int (base := w.heap.size) (n := 0) rfl _ _ rfl rfl rfl rfl (by omega) (by omega) (Nat.le_refl _) ?_); intro w1 hgot hbel1 hlt1))
          go_step3
          go_wp2_with fail
          go_loopw [2, 11] (fun bd o wr => bd = .int .i64 budget ∧ o = .slice none 0 0 ∧ OwnI wr w.heap.size .i64 3 (.slice (some ⟨w.heap.size, 0, none⟩) 0 0) [] ∧ Below w.heap.size w wr) (fun _ _ _ => 0)
          case atStart => exact ⟨rfl, rfl, hgot, hbel1⟩
          case round =>
            clear hgot hbel1 hlt1
            obtain ⟨rfl, rfl, hgot, hbel1⟩ := hrel
            go_wp2_with fail
            obtain ⟨wo, rfl⟩ : ∃ wo : World, wo = wr := ⟨_, rfl⟩
            go_loopw [2, 11, 12, 41] (fun bd o sm ii wr => bd = .int .i64 budget ∧ o = .slice none 0 0 ∧ ii = .int .i64 0 ∧ sm = .bool false ∧ OwnI wr w.heap.size .i64 3 (.slice (some ⟨w.heap.size, 0, none⟩) 0 0) [] ∧ Below w.heap.size w wr) (fun _ _ _ _ _ => 0)
            case atStart => exact ⟨rfl, rfl, rfl, rfl, hgot, hbel1⟩
            case round =>
              clear hgot hbel1
              obtain ⟨rfl, rfl, rfl, rfl, hgot, hbel1⟩ := hrel
              go_wp2_with fail
              all_goals
                (try rw [Exit.noGoto_ret])
                go_ret3
                exact ⟨_, _, rfl, hgot, OwnI.nil _ _ _ _, hbel1⟩
end Go.Proofs.Ytbjhedfgnocflaa
