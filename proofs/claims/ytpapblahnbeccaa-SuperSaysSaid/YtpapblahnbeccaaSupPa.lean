/-
  PACKAGE super AND ITS REFERENCE: Plan for all arguments. Conditions: the children's list reads as a list.
-/
import Derived.Test.YtpapblahnbeccaaSupPr
namespace Go.Proofs.Ytpapblahnbeccaa
open Go.RowKit

set_option maxRecDepth 100000 in
set_option maxHeartbeats 4000000 in
theorem refPlan_keep (v : Value) (ks : List (Bool × Bool)) (f : Nat) (s : Int) (hs : s = 1 ∨ s = 2 ∨ s = 3) (w : World) (hv : Kids w v ks) (hlen : ks.length ≤ 8) (hf : f < ks.length) (hk : ks[f].2 = false) :
    Calls Try.prog 105 #[.int .i64 s, v, .int .i64 f] w (PlanPost w ([], [], 0)) := by
  rcases hv.open with ⟨ao, cap, rfl, rfl, _⟩ | ⟨b, off, cap, rfl, h0, hcap, hm, hc1, hc2⟩
  · simp at hf
  · have hd1 : decide (8 < (ks.length : Int)) = false := decide_eq_false (by omega)
    have hd2 : decide ((f : Int) < 0) = false := decide_eq_false (by omega)
    have hd3 : decide (ks.length ≤ f) = false := decide_eq_false (by omega)
    have hcf := hc2 f hf
    rw [hk] at hcf
    have HC1 := hid hc1
    have HC2 := hid hc2
    clear hc1 hc2 hk
    rcases hs with rfl | rfl | rfl
    all_goals
      go_enter Try.func105, Try.ntmps105
      go_wp2_with fail
      go_loopw [9, 10, 35] (fun v u i wr => ∃ j : Nat, j ≤ ks.length ∧ i = .int .i64 j ∧ v = .slice none 0 0 ∧ u = .slice none 0 0 ∧ Below w.heap.size w wr) (fun _ _ i _ => ks.length - (intOf i).toNat)
      case atStart => exact ⟨0, by omega, rfl, rfl, rfl, Below.refl _ _⟩
      case round =>
        obtain ⟨j, hj, rfl, rfl, rfl, hbel⟩ := hrel
        by_cases hlt : j < ks.length
        · have e1 := HC1.out j hlt
          have e2 := HC2.out j hlt
          generalize ks[j].1 = r at *
          generalize ks[j].2 = k at *
          have e1' : wr.cell? ⟨b, off + j * 2, none⟩ = some (.bool r) := by rw [← e1]; exact hbel.cell (p := ⟨b, _, none⟩) (World.block_lt_of_cell? w ⟨b, _, none⟩ e1)
          have e2' : wr.cell? ⟨b, off + j * 2 + 1, none⟩ = some (.bool k) := by rw [← e2]; exact hbel.cell (p := ⟨b, _, none⟩) (World.block_lt_of_cell? w ⟨b, _, none⟩ e2)
          have e3' : wr.cell? ⟨b, off + f * 2 + 1, none⟩ = some (.bool false) := by rw [← hcf]; exact hbel.cell (p := ⟨b, _, none⟩) (World.block_lt_of_cell? w ⟨b, _, none⟩ hcf)
          have hbw : b < wr.heap.size := World.block_lt_of_cell? wr ⟨b, _, none⟩ e3'
          clear e1 e2
          have hsz := hbel.size
          have hcases : (((j : Int) == (f : Int)) = true) ∨ (((j : Int) == (f : Int)) = false ∧ f < j) ∨ (((j : Int) == (f : Int)) = false ∧ j < f) := by simp; omega
          rcases hcases with hq | ⟨hq, hq2⟩ | ⟨hq, hq2⟩
          all_goals
            go_wp2_with fail
            go_roundw
            case rel => exact ⟨j + 1, by omega, by go_num, rfl, rfl, hbel.alloc hsz _⟩
            case measure => simp [intOf]; omega
        · obtain rfl : j = ks.length := by omega
          go_wp2_with fail
          go_ret3
          exact ⟨_, _, rfl, OwnI.nil _ _ _ _, OwnI.nil _ _ _ _, Sep.nil_left _, hbel⟩

set_option maxRecDepth 100000 in
set_option maxHeartbeats 1000000 in
theorem refPlan_err (v : Value) (ks : List (Bool × Bool)) (s f : Int) (w : World) (hv : Kids w v ks) (h : 8 < ks.length ∨ (ks.length ≤ 8 ∧ (s < 1 ∨ 3 < s ∨ f < 0 ∨ (ks.length : Int) ≤ f))) :
    Calls Try.prog 105 #[.int .i64 s, v, .int .i64 f] w (PlanPost w ([], [], if 8 < ks.length then 2 else 1)) := by
  obtain ⟨ao, cap, rfl, _, _, _, _⟩ := hv
  have h' : (8 : Int) < (ks.length : Int) ∨ ((ks.length : Int) ≤ 8 ∧ s < 1) ∨ ((ks.length : Int) ≤ 8 ∧ 1 ≤ s ∧ 3 < s) ∨ ((ks.length : Int) ≤ 8 ∧ 1 ≤ s ∧ s ≤ 3 ∧ f < 0) ∨ ((ks.length : Int) ≤ 8 ∧ 1 ≤ s ∧ s ≤ 3 ∧ 0 ≤ f ∧ (ks.length : Int) ≤ f) := by omega
  rcases h' with h1 | ⟨h0, h1⟩ | ⟨h0, h1, h2⟩ | ⟨h0, h1, h2, h3⟩ | ⟨h0, h1, h2, h3, h4⟩
  · rw [if_pos (by omega)]
    clear h
    go_enter Try.func105, Try.ntmps105
    go_wp2_with fail
    go_ret3
    exact PlanPost.err _ _
  all_goals
    rw [if_neg (by omega)]
    clear h
    go_enter Try.func105, Try.ntmps105
    go_wp2_with fail
    go_ret3
    exact PlanPost.err _ _

set_option maxRecDepth 100000 in
set_option maxHeartbeats 1000000 in
theorem plan_err (v : Value) (ks : List (Bool × Bool)) (s f : Int) (w : World) (hv : Kids w v ks) (h : 8 < ks.length ∨ (ks.length ≤ 8 ∧ (s < 1 ∨ 3 < s ∨ f < 0 ∨ (ks.length : Int) ≤ f))) :
    Calls Try.prog 102 #[.int .i64 s, v, .int .i64 f] w (PlanPost w ([], [], if 8 < ks.length then 2 else 1)) := by
  obtain ⟨ao, cap, rfl, _, _, _, _⟩ := hv
  have h' : (8 : Int) < (ks.length : Int) ∨ ((ks.length : Int) ≤ 8 ∧ (s < 1 ∨ 3 < s)) ∨ ((ks.length : Int) ≤ 8 ∧ 1 ≤ s ∧ s ≤ 3 ∧ f < 0) ∨ ((ks.length : Int) ≤ 8 ∧ 1 ≤ s ∧ s ≤ 3 ∧ 0 ≤ f ∧ (ks.length : Int) ≤ f) := by omega
  rcases h' with h1 | ⟨h0, h1⟩ | ⟨h0, h1, h2, h3⟩ | ⟨h0, h1, h2, h3, h4⟩
  · rw [if_pos (by omega)]
    clear h
    go_enter Try.func102, Try.ntmps102
    go_wp2_with fail
    go_ret3
    exact PlanPost.err _ _
  · rw [if_neg (by omega)]
    clear h
    go_enter Try.func102, Try.ntmps102
    go_wp2_with (go_at_call 99; refine (isStr_no _ _ h1).mono ?_; rintro e w' ⟨rfl, rfl⟩)
    go_ret3
    exact PlanPost.err _ _
  all_goals
    rw [if_neg (by omega)]
    clear h
    go_enter Try.func102, Try.ntmps102
    go_wp2_with (go_at_call 99; refine (isStr_yes _ _ ⟨h1, h2⟩).mono ?_; rintro e w' ⟨rfl, rfl⟩)
    go_ret3
    exact PlanPost.err _ _

set_option maxRecDepth 100000 in
set_option maxHeartbeats 1000000 in
theorem plan_keep (v : Value) (ks : List (Bool × Bool)) (f : Nat) (s : Int) (hs : 1 ≤ s ∧ s ≤ 3) (w : World) (hv : Kids w v ks) (hlen : ks.length ≤ 8) (hf : f < ks.length) (hk : ks[f].2 = false) :
    Calls Try.prog 102 #[.int .i64 s, v, .int .i64 f] w (PlanPost w ([], [], 0)) := by
  rcases hv.open with ⟨ao, cap, rfl, rfl, _⟩ | ⟨b, off, cap, rfl, h0, hcap, hm, hc1, hc2⟩
  · simp at hf
  · have hd1 : decide (8 < (ks.length : Int)) = false := decide_eq_false (by omega)
    have hcf := hc2 f hf
    rw [hk] at hcf
    clear hc1 hc2 hk
    go_enter Try.func102, Try.ntmps102
    go_wp2_with (go_at_call 99; refine (isStr_yes _ _ hs).mono ?_; rintro e w' ⟨rfl, rfl⟩)
    go_ret3
    exact PlanPost.err _ _

theorem filter_window {n a m : Nat} {p q : Nat → Bool} (hn : a + m ≤ n) (h1 : ∀ i, i < a → q i = false) (h2 : ∀ i, a ≤ i → i < a + m → q i = true) (h3 : ∀ i, a + m ≤ i → i < n → q i = false) :
    (List.range n).filter (fun i => q i && p i) = (List.range' a m).filter p := by
  have e : List.range n = List.range' 0 a ++ (List.range' a m ++ List.range' (a + m) (n - (a + m))) := by
    rw [List.range'_append_1, show m + (n - (a + m)) = n - a by omega]
    have := List.range'_append_1 (s := 0) (m := a) (n := n - a)
    rw [Nat.zero_add] at this
    rw [this, List.range_eq_range']
    congr 1
    omega
  rw [e, List.filter_append, List.filter_append]
  have e1 : (List.range' 0 a).filter (fun i => q i && p i) = [] := by
    rw [List.filter_eq_nil_iff]
    intro i hi
    have := List.mem_range'_1.1 hi
    rw [h1 i (by omega)]; simp
  have e3 : (List.range' (a + m) (n - (a + m))).filter (fun i => q i && p i) = [] := by
    rw [List.filter_eq_nil_iff]
    intro i hi
    have := List.mem_range'_1.1 hi
    rw [h3 i (by omega) (by omega)]; simp
  rw [e1, e3, List.nil_append, List.append_nil]
  apply List.filter_congr
  intro i hi
  have := List.mem_range'_1.1 hi
  rw [h2 i (by omega) (by omega), Bool.true_and]

theorem win1 {n f : Nat} {p : Nat → Bool} (hf : f < n) : (List.range n).filter (fun i => inn 1 f i && p i) = (List.range' f 1).filter p :=
  filter_window (by omega) (fun i h => by simp [inn]; omega) (fun i h h' => by simp [inn]; omega) (fun i h h' => by simp [inn]; omega)
theorem win2 {n f : Nat} {p : Nat → Bool} : (List.range n).filter (fun i => inn 2 f i && p i) = (List.range' 0 n).filter p :=
  filter_window (by omega) (fun i h => by omega) (fun i h h' => by simp [inn]) (fun i h h' => by omega)
theorem win3 {n f : Nat} {p : Nat → Bool} (hf : f < n) : (List.range n).filter (fun i => inn 3 f i && p i) = (List.range' f (n - f)).filter p :=
  filter_window (by omega) (fun i h => by simp [inn]; omega) (fun i h h' => by simp [inn]; omega) (fun i h h' => by omega)

theorem both_any {P : Nat → Value → World → Prop} : True := trivial

/-- from the cases to all arguments -/
theorem plan_all_of {F : FuncId} (v : Value) (ks : List (Bool × Bool)) (s f : Int) (w : World) (hv : Kids w v ks)
    (herr : (8 < ks.length ∨ (ks.length ≤ 8 ∧ (s < 1 ∨ 3 < s ∨ f < 0 ∨ (ks.length : Int) ≤ f))) → Calls Try.prog F #[.int .i64 s, v, .int .i64 f] w (PlanPost w ([], [], if 8 < ks.length then 2 else 1)))
    (hkeep : ∀ n : Nat, (s = 1 ∨ s = 2 ∨ s = 3) → ks.length ≤ 8 → ∀ hf : n < ks.length, ks[n].2 = false → Calls Try.prog F #[.int .i64 s, v, .int .i64 n] w (PlanPost w ([], [], 0)))
    (hgo : ∀ n : Nat, (s = 1 ∨ s = 2 ∨ s = 3) → ks.length ≤ 8 → ∀ hf : n < ks.length, ks[n].2 = true → Calls Try.prog F #[.int .i64 s, v, .int .i64 n] w
      (PlanPost w (nums (((List.range ks.length).filter (fun i => inn s n i && selStop ks n i)).reverse), nums ((List.range ks.length).filter (fun i => inn s n i && selStart ks i)), 0))) :
    Calls Try.prog F #[.int .i64 s, v, .int .i64 f] w (PlanPost w (planF s ks f)) := by
  unfold planF
  by_cases h8 : 8 < ks.length
  · have := herr (.inl h8)
    rw [if_pos h8] at this ⊢
    exact this
  · rw [if_neg h8]
    by_cases hb : s < 1 ∨ 3 < s ∨ f < 0 ∨ (ks.length : Int) ≤ f
    · have := herr (.inr ⟨by omega, hb⟩)
      rw [if_neg h8] at this
      rw [if_pos hb]
      exact this
    · rw [if_neg hb]
      obtain ⟨n, rfl⟩ := Int.eq_ofNat_of_zero_le (show 0 ≤ f by omega)
      have hf : n < ks.length := by omega
      have hg : ks.getD n (false, false) = ks[n] := by rw [List.getD_eq_getElem?_getD, List.getElem?_eq_getElem hf]; rfl
      simp only [Int.toNat_natCast]
      rw [hg]
      cases hk : ks[n].2 with
      | false => rw [if_pos rfl]; exact hkeep n (by omega) (by omega) hf hk
      | true => rw [if_neg (by simp)]; exact hgo n (by omega) (by omega) hf hk

theorem plan_any (v : Value) (ks : List (Bool × Bool)) (s f : Int) (w : World) (hv : Kids w v ks) :
    Calls Try.prog 102 #[.int .i64 s, v, .int .i64 f] w (PlanPost w (planF s ks f)) := by
  refine plan_all_of v ks s f w hv (plan_err v ks s f w hv) (fun n hs hl hf hk => plan_keep v ks n s (by omega) w hv hl hf hk) ?_
  intro n hs hl hf hk
  rcases hs with rfl | rfl | rfl
  · rw [win1 hf, win1 hf]; exact plan_one v ks n w hv hl hf hk
  · rw [win2, win2]; exact plan_all v ks n w hv hl hf hk
  · rw [win3 hf, win3 hf]; exact plan_rest v ks n w hv hl hf hk
theorem refPlan_any (v : Value) (ks : List (Bool × Bool)) (s f : Int) (w : World) (hv : Kids w v ks) :
    Calls Try.prog 105 #[.int .i64 s, v, .int .i64 f] w (PlanPost w (planF s ks f)) := by
  refine plan_all_of v ks s f w hv (refPlan_err v ks s f w hv) (fun n hs hl hf hk => refPlan_keep v ks n s hs w hv hl hf hk) ?_
  intro n hs hl hf hk
  rcases hs with rfl | rfl | rfl
  · exact refPlan_1 v ks n w hv hl hf hk
  · exact refPlan_2 v ks n w hv hl hf hk
  · exact refPlan_3 v ks n w hv hl hf hk
end Go.Proofs.Ytpapblahnbeccaa
