/-
  FOLDED BODIES: the program's rules that look at two instructions. No condition.
-/
import Derived.Test.YtakfineljffoaaaGreatDoorGFoldSays27
namespace Go.Proofs.YtakfineljffoaaaGreatDoor
open Go.RowKit Go.Lib


set_option maxRecDepth 100000 in
set_option maxHeartbeats 4000000 in
theorem kept_any : RuleP 71 r6 := by
  intro w v x t k st hok hrun _ h _

  by_cases g1 : x.op = 33
  · obtain ⟨y, r, rfl⟩ := more_of hrun (by omega)
    obtain ⟨b, off, n, cap, rfl, hn, hc1, hc2, u, hcell⟩ := h.one
    obtain ⟨u2, hcell2⟩ := h.second
    have HC := hid (fun wx hb => show _ ∧ _ from ⟨hcell wx hb, hcell2 wx hb⟩)
    have hp : 0 < n := by omega
    have hp1 : 1 < n := by rw [hn]; simp
    have hq : (0 : Int) < (n : Int) := by omega
    have hq1 : (1 : Int) < (n : Int) := by omega
    have hq2 : ¬ (n : Int) < 2 := by omega
    have e1 : ((x.op : Int) == 33) = true := opT (by first | assumption | omega)
    by_cases g2 : y.op = 32
    · have e2 : ((y.op : Int) == 32) = true := opT (by first | assumption | omega)
      have e3 : (x.A == y.A) = decide (x.A = y.A) := by rw [Bool.eq_iff_iff]; simp
      have HG := hid (fun w' nv (hB : BodS w' nv [⟨34, x.A, 0, []⟩]) => show Gives w' 2 nv (decide (x.A = y.A)) (r6 (x :: y :: r)) from by
        show Gives _ _ _ _ (if x.op = 33 ∧ y.op = 32 ∧ x.A = y.A then some (2, [⟨34, x.A, 0, []⟩]) else none)
        by_cases g : x.A = y.A
        · rw [if_pos ⟨g1, g2, g⟩, decide_eq_true g]; exact ⟨rfl, rfl, hB⟩
        · rw [if_neg (fun h => g h.2.2), decide_eq_false g]; rfl)
      generalize decide (x.A = y.A) = d at *
      clear hn hcell hcell2 h hrun hok
      obtain ⟨⟨c0, c1, c2, c3⟩, d0, d1, d2, d3⟩ := HC.out _ (show Below w.heap.size w (w.alloc (.cells #[.int .i64 0, .slice none 0 0] 127)) by (repeat (first | exact Below.refl _ _ | assumption | refine bel_al ?_ _ | refine Below.drew ?_ | refine bel_dn ?_ _ | refine bel_set ?_ (Nat.le_refl _) _)))
      go_enter Tryz.func71, Tryz.ntmps71
      go_wp2_with fail
      go_quiet (fail)
      go_wp2_with fail
      refine bodyPost_ret (v := .tuple #[.agg #[.int .i64 2, .slice (some ⟨w.heap.size + 1, 0, none⟩) 1 1], .bool d]) (by simp [results, Tryz.results71, go_sem]) rfl ?_
      exact ⟨_, _, _, _, _, rfl, by (repeat (first | exact Below.refl _ _ | assumption | refine bel_al ?_ _ | refine Below.drew ?_ | refine bel_dn ?_ _ | refine bel_set ?_ (Nat.le_refl _) _)), HG.out _ _ (BodS.made _ _ _ _ (by simp))⟩
    · have e2 : ((y.op : Int) == 32) = false := opF (by first | assumption | omega)
      have HG := hid (fun w' nv => show Gives w' 2 nv false (r6 (x :: y :: r)) from by
        show Gives _ _ _ _ (if x.op = 33 ∧ y.op = 32 ∧ x.A = y.A then some (2, [⟨34, x.A, 0, []⟩]) else none)
        rw [if_neg (fun h => g2 h.2.1)]; rfl)
      clear hn hcell hcell2 h hrun hok
      obtain ⟨⟨c0, c1, c2, c3⟩, d0, d1, d2, d3⟩ := HC.out _ (show Below w.heap.size w (w.alloc (.cells #[.int .i64 0, .slice none 0 0] 127)) by (repeat (first | exact Below.refl _ _ | assumption | refine bel_al ?_ _ | refine Below.drew ?_ | refine bel_dn ?_ _ | refine bel_set ?_ (Nat.le_refl _) _)))
      go_enter Tryz.func71, Tryz.ntmps71
      go_wp2_with fail
      go_quiet (fail)
      go_wp2_with fail
      refine bodyPost_ret (v := .tuple #[.agg #[.int .i64 2, .slice (some ⟨w.heap.size + 1, 0, none⟩) 1 1], .bool false]) (by simp [results, Tryz.results71, go_sem]) rfl ?_
      exact ⟨_, _, _, _, _, rfl, by (repeat (first | exact Below.refl _ _ | assumption | refine bel_al ?_ _ | refine Below.drew ?_ | refine bel_dn ?_ _ | refine bel_set ?_ (Nat.le_refl _) _)), HG.out _ _⟩
  · have e1 : ((x.op : Int) == 33) = false := opF (by first | assumption | omega)
    have HG := hid (fun w' nv => show Gives w' 2 nv false (r6 (x :: t)) from by
      cases t with
      | nil => rfl
      | cons y r =>
        show Gives _ _ _ _ (if x.op = 33 ∧ y.op = 32 ∧ x.A = y.A then some (2, [⟨34, x.A, 0, []⟩]) else none)
        rw [if_neg (fun h => g1 h.1)]; rfl)
    obtain ⟨b, off, n, cap, rfl, hn, hc1, hc2, u, hcell⟩ := h.one
    have HC := hid hcell
    have hp : 0 < n := by omega
    have hq : (0 : Int) < (n : Int) := by omega
    clear hn hcell h hrun hok
    obtain ⟨c0, c1, c2, c3⟩ := HC.out _ (show Below w.heap.size w (w.alloc (.cells #[.int .i64 0, .slice none 0 0] 127)) by (repeat (first | exact Below.refl _ _ | assumption | refine bel_al ?_ _ | refine Below.drew ?_ | refine bel_dn ?_ _ | refine bel_set ?_ (Nat.le_refl _) _)))
    go_enter Tryz.func71, Tryz.ntmps71
    go_wp2_with fail
    go_quiet (fail)
    go_wp2_with fail
    refine bodyPost_ret (v := .tuple #[.agg #[.int .i64 2, .slice (some ⟨w.heap.size + 1, 0, none⟩) 1 1], .bool false]) (by simp [results, Tryz.results71, go_sem]) rfl ?_
    exact ⟨_, _, _, _, _, rfl, by (repeat (first | exact Below.refl _ _ | assumption | refine bel_al ?_ _ | refine Below.drew ?_ | refine bel_dn ?_ _ | refine bel_set ?_ (Nat.le_refl _) _)), HG.out _ _⟩

set_option maxRecDepth 100000 in
set_option maxHeartbeats 4000000 in
theorem lost_any : RuleP 74 r9 := by
  intro w v x t k st hok hrun _ h _

  by_cases g1 : x.op = 34
  · obtain ⟨y, r, rfl⟩ := more_of hrun (by omega)
    obtain ⟨b, off, n, cap, rfl, hn, hc1, hc2, u, hcell⟩ := h.one
    obtain ⟨u2, hcell2⟩ := h.second
    have HC := hid (fun wx hb => show _ ∧ _ from ⟨hcell wx hb, hcell2 wx hb⟩)
    have hp : 0 < n := by omega
    have hp1 : 1 < n := by rw [hn]; simp
    have hq : (0 : Int) < (n : Int) := by omega
    have hq1 : (1 : Int) < (n : Int) := by omega
    have hq2 : ¬ (n : Int) < 2 := by omega
    have e1 : ((x.op : Int) == 34) = true := opT (by first | assumption | omega)
    have e2 : ((y.op : Int) == 26) = decide (y.op = 26) := opb
    have HG := hid (fun w' nv (hB : BodS w' nv [⟨33, x.A, 0, []⟩]) => show Gives w' 2 nv (decide (y.op = 26)) (r9 (x :: y :: r)) from by
      show Gives _ _ _ _ (if x.op = 34 ∧ y.op = 26 then some (2, [⟨33, x.A, 0, []⟩]) else none)
      by_cases g : y.op = 26
      · rw [if_pos ⟨g1, g⟩, decide_eq_true g]; exact ⟨rfl, rfl, hB⟩
      · rw [if_neg (fun h => g h.2), decide_eq_false g]; rfl)
    generalize decide (y.op = 26) = d at *
    clear hn hcell hcell2 h hrun hok
    obtain ⟨⟨c0, c1, c2, c3⟩, d0, d1, d2, d3⟩ := HC.out _ (show Below w.heap.size w (w.alloc (.cells #[.int .i64 0, .slice none 0 0] 127)) by (repeat (first | exact Below.refl _ _ | assumption | refine bel_al ?_ _ | refine Below.drew ?_ | refine bel_dn ?_ _ | refine bel_set ?_ (Nat.le_refl _) _)))
    go_enter Tryz.func74, Tryz.ntmps74
    go_wp2_with fail
    refine bodyPost_ret (v := .tuple #[.agg #[.int .i64 2, .slice (some ⟨w.heap.size + 1, 0, none⟩) 1 1], .bool d]) (by simp [results, Tryz.results74, go_sem]) rfl ?_
    exact ⟨_, _, _, _, _, rfl, by (repeat (first | exact Below.refl _ _ | assumption | refine bel_al ?_ _ | refine Below.drew ?_ | refine bel_dn ?_ _ | refine bel_set ?_ (Nat.le_refl _) _)), HG.out _ _ (BodS.made _ _ _ _ (by simp))⟩
  · have e1 : ((x.op : Int) == 34) = false := opF (by first | assumption | omega)
    have HG := hid (fun w' nv => show Gives w' 2 nv false (r9 (x :: t)) from by
      cases t with
      | nil => rfl
      | cons y r =>
        show Gives _ _ _ _ (if x.op = 34 ∧ y.op = 26 then some (2, [⟨33, x.A, 0, []⟩]) else none)
        rw [if_neg (fun h => g1 h.1)]; rfl)
    obtain ⟨b, off, n, cap, rfl, hn, hc1, hc2, u, hcell⟩ := h.one
    have HC := hid hcell
    have hp : 0 < n := by omega
    have hq : (0 : Int) < (n : Int) := by omega
    clear hn hcell h hrun hok
    obtain ⟨c0, c1, c2, c3⟩ := HC.out _ (show Below w.heap.size w (w.alloc (.cells #[.int .i64 0, .slice none 0 0] 127)) by (repeat (first | exact Below.refl _ _ | assumption | refine bel_al ?_ _ | refine Below.drew ?_ | refine bel_dn ?_ _ | refine bel_set ?_ (Nat.le_refl _) _)))
    go_enter Tryz.func74, Tryz.ntmps74
    go_wp2_with fail
    refine bodyPost_ret (v := .tuple #[.agg #[.int .i64 2, .slice (some ⟨w.heap.size + 1, 0, none⟩) 1 1], .bool false]) (by simp [results, Tryz.results74, go_sem]) rfl ?_
    exact ⟨_, _, _, _, _, rfl, by (repeat (first | exact Below.refl _ _ | assumption | refine bel_al ?_ _ | refine Below.drew ?_ | refine bel_dn ?_ _ | refine bel_set ?_ (Nat.le_refl _) _)), HG.out _ _⟩

set_option maxRecDepth 100000 in
set_option maxHeartbeats 4000000 in
theorem empty_any : RuleP 73 r8 := by
  intro w v x t k st hok hrun _ h _

  by_cases g1 : x.op = 2 ∨ x.op = 3
  · obtain ⟨y, r, rfl⟩ := more_of hrun (by omega)
    obtain ⟨b, off, n, cap, rfl, hn, hc1, hc2, u, hcell⟩ := h.one
    obtain ⟨u2, hcell2⟩ := h.second
    have HC := hid (fun wx hb => show _ ∧ _ from ⟨hcell wx hb, hcell2 wx hb⟩)
    have hp : 0 < n := by omega
    have hp1 : 1 < n := by rw [hn]; simp
    have hq : (0 : Int) < (n : Int) := by omega
    have hq1 : (1 : Int) < (n : Int) := by omega
    have hq2 : ¬ (n : Int) < 2 := by omega
    by_cases g2 : x.A = 64
    · have e3 : (x.A == 64) = true := by simp [g2]
      have e4 : ((y.op : Int) == 11) = decide (y.op = 11) := opb
      have HG := hid (fun w' nv (hB : BodS w' nv []) => show Gives w' 2 nv (decide (y.op = 11)) (r8 (x :: y :: r)) from by
        show Gives _ _ _ _ (if (x.op = 2 ∨ x.op = 3) ∧ x.A = 64 ∧ y.op = 11 then some (2, []) else none)
        by_cases g : y.op = 11
        · rw [if_pos ⟨g1, g2, g⟩, decide_eq_true g]; exact ⟨rfl, rfl, hB⟩
        · rw [if_neg (fun h => g h.2.2), decide_eq_false g]; rfl)
      generalize decide (y.op = 11) = d at *
      clear hn hcell hcell2 h hrun hok
      obtain ⟨⟨c0, c1, c2, c3⟩, d0, d1, d2, d3⟩ := HC.out _ (show Below w.heap.size w (w.alloc (.cells #[.int .i64 0, .slice none 0 0] 127)) by (repeat (first | exact Below.refl _ _ | assumption | refine bel_al ?_ _ | refine Below.drew ?_ | refine bel_dn ?_ _ | refine bel_set ?_ (Nat.le_refl _) _)))
      by_cases g3 : x.op = 2
      · have e1 : ((x.op : Int) == 2) = true := opT (by first | assumption | omega)
        clear g1 g2 g3
        go_enter Tryz.func73, Tryz.ntmps73
        go_wp2_with fail
        refine wp_region_tail (S := (fun w' => Below w.heap.size w w')) 17 (by kernel_rfl) (by kernel_rfl) ?_ (fun hHeld => ?_)
        · (repeat (first | exact Below.refl _ _ | assumption | refine bel_al ?_ _ | refine Below.drew ?_ | refine bel_dn ?_ _ | refine bel_set ?_ (Nat.le_refl _) _))
        repeat (first | ((first | refine tk 0 ?_ rfl ?_ ?_ | refine tk 1 ?_ rfl ?_ ?_ | refine tk 2 ?_ rfl ?_ ?_ | refine tk 3 ?_ rfl ?_ ?_ | refine tk 4 ?_ rfl ?_ ?_ | refine tk 5 ?_ rfl ?_ ?_ | refine tk 6 ?_ rfl ?_ ?_ | refine tk 7 ?_ rfl ?_ ?_ | refine tk 8 ?_ rfl ?_ ?_ | refine tk 9 ?_ rfl ?_ ?_ | refine tk 10 ?_ rfl ?_ ?_ | refine tk 11 ?_ rfl ?_ ?_ | refine tk 12 ?_ rfl ?_ ?_ | refine tk 13 ?_ rfl ?_ ?_ | refine tk 14 ?_ rfl ?_ ?_ | refine tk 15 ?_ rfl ?_ ?_); rotate_left; (intro wy hSw; (try dsimp only at hSw); obtain ⟨⟨c0, c1, c2, c3⟩, d0, d1, d2, d3⟩ := HC.out wy hSw; (go_simp <;> with_reducible rfl)); (try simp only [List.getElem_toArray, List.getElem_cons_zero, List.getElem_cons_succ, Act.put, List.setIfInBounds_toArray, List.set_cons_zero, List.set_cons_succ])) | ((first | refine tku 0 rfl ?_ | refine tku 1 rfl ?_ | refine tku 2 rfl ?_ | refine tku 3 rfl ?_ | refine tku 4 rfl ?_ | refine tku 5 rfl ?_ | refine tku 6 rfl ?_ | refine tku 7 rfl ?_ | refine tku 8 rfl ?_ | refine tku 9 rfl ?_ | refine tku 10 rfl ?_ | refine tku 11 rfl ?_ | refine tku 12 rfl ?_ | refine tku 13 rfl ?_ | refine tku 14 rfl ?_ | refine tku 15 rfl ?_); (try simp only [List.getElem_toArray, List.getElem_cons_zero, List.getElem_cons_succ, Act.put, List.setIfInBounds_toArray, List.set_cons_zero, List.set_cons_succ])))
        refine wpT_one (k := 16) rfl (by kernel_rfl) (fun K hK => ?_)
        go_simp
        refine hK.out _ _ ?_ (fun hHeld => ?_)
        · (repeat (first | exact Below.refl _ _ | assumption | refine bel_al ?_ _ | refine Below.drew ?_ | refine bel_dn ?_ _ | refine bel_set ?_ (Nat.le_refl _) _))
        clear hK K
        (try simp only [Act.put, List.setIfInBounds_toArray, List.set_cons_zero, List.set_cons_succ])
        refine wpT_done (by kernel_rfl) ?_
        go_wp2_with fail
        refine bodyPost_ret (v := .tuple #[.agg #[.int .i64 2, .slice none 0 0], .bool d]) (by simp [results, Tryz.results73, go_sem]) rfl ?_
        exact ⟨_, _, _, _, _, rfl, by (repeat (first | exact Below.refl _ _ | assumption | refine bel_al ?_ _ | refine Below.drew ?_ | refine bel_dn ?_ _ | refine bel_set ?_ (Nat.le_refl _) _)), HG.out _ _ (BodS.nil _)⟩
      · have e1 : ((x.op : Int) == 2) = false := opF (by first | assumption | omega)
        have e2 : ((x.op : Int) == 3) = true := opT (g1.resolve_left g3)
        clear g1 g2 g3
        go_enter Tryz.func73, Tryz.ntmps73
        go_wp2_with fail
        refine wp_region_tail (S := (fun w' => Below w.heap.size w w')) 17 (by kernel_rfl) (by kernel_rfl) ?_ (fun hHeld => ?_)
        · (repeat (first | exact Below.refl _ _ | assumption | refine bel_al ?_ _ | refine Below.drew ?_ | refine bel_dn ?_ _ | refine bel_set ?_ (Nat.le_refl _) _))
        repeat (first | ((first | refine tk 0 ?_ rfl ?_ ?_ | refine tk 1 ?_ rfl ?_ ?_ | refine tk 2 ?_ rfl ?_ ?_ | refine tk 3 ?_ rfl ?_ ?_ | refine tk 4 ?_ rfl ?_ ?_ | refine tk 5 ?_ rfl ?_ ?_ | refine tk 6 ?_ rfl ?_ ?_ | refine tk 7 ?_ rfl ?_ ?_ | refine tk 8 ?_ rfl ?_ ?_ | refine tk 9 ?_ rfl ?_ ?_ | refine tk 10 ?_ rfl ?_ ?_ | refine tk 11 ?_ rfl ?_ ?_ | refine tk 12 ?_ rfl ?_ ?_ | refine tk 13 ?_ rfl ?_ ?_ | refine tk 14 ?_ rfl ?_ ?_ | refine tk 15 ?_ rfl ?_ ?_); rotate_left; (intro wy hSw; (try dsimp only at hSw); obtain ⟨⟨c0, c1, c2, c3⟩, d0, d1, d2, d3⟩ := HC.out wy hSw; (go_simp <;> with_reducible rfl)); (try simp only [List.getElem_toArray, List.getElem_cons_zero, List.getElem_cons_succ, Act.put, List.setIfInBounds_toArray, List.set_cons_zero, List.set_cons_succ])) | ((first | refine tku 0 rfl ?_ | refine tku 1 rfl ?_ | refine tku 2 rfl ?_ | refine tku 3 rfl ?_ | refine tku 4 rfl ?_ | refine tku 5 rfl ?_ | refine tku 6 rfl ?_ | refine tku 7 rfl ?_ | refine tku 8 rfl ?_ | refine tku 9 rfl ?_ | refine tku 10 rfl ?_ | refine tku 11 rfl ?_ | refine tku 12 rfl ?_ | refine tku 13 rfl ?_ | refine tku 14 rfl ?_ | refine tku 15 rfl ?_); (try simp only [List.getElem_toArray, List.getElem_cons_zero, List.getElem_cons_succ, Act.put, List.setIfInBounds_toArray, List.set_cons_zero, List.set_cons_succ])))
        refine wpT_one (k := 16) rfl (by kernel_rfl) (fun K hK => ?_)
        go_simp
        refine hK.out _ _ ?_ (fun hHeld => ?_)
        · (repeat (first | exact Below.refl _ _ | assumption | refine bel_al ?_ _ | refine Below.drew ?_ | refine bel_dn ?_ _ | refine bel_set ?_ (Nat.le_refl _) _))
        clear hK K
        (try simp only [Act.put, List.setIfInBounds_toArray, List.set_cons_zero, List.set_cons_succ])
        refine wpT_done (by kernel_rfl) ?_
        go_wp2_with fail
        refine bodyPost_ret (v := .tuple #[.agg #[.int .i64 2, .slice none 0 0], .bool d]) (by simp [results, Tryz.results73, go_sem]) rfl ?_
        exact ⟨_, _, _, _, _, rfl, by (repeat (first | exact Below.refl _ _ | assumption | refine bel_al ?_ _ | refine Below.drew ?_ | refine bel_dn ?_ _ | refine bel_set ?_ (Nat.le_refl _) _)), HG.out _ _ (BodS.nil _)⟩
    · have e3 : (x.A == 64) = false := by simp [g2]
      have HG := hid (fun w' nv => show Gives w' 2 nv false (r8 (x :: y :: r)) from by
        show Gives _ _ _ _ (if (x.op = 2 ∨ x.op = 3) ∧ x.A = 64 ∧ y.op = 11 then some (2, []) else none)
        rw [if_neg (fun h => g2 h.2.1)]; rfl)
      clear hn hcell hcell2 h hrun hok
      obtain ⟨⟨c0, c1, c2, c3⟩, d0, d1, d2, d3⟩ := HC.out _ (show Below w.heap.size w (w.alloc (.cells #[.int .i64 0, .slice none 0 0] 127)) by (repeat (first | exact Below.refl _ _ | assumption | refine bel_al ?_ _ | refine Below.drew ?_ | refine bel_dn ?_ _ | refine bel_set ?_ (Nat.le_refl _) _)))
      by_cases g3 : x.op = 2
      · have e1 : ((x.op : Int) == 2) = true := opT (by first | assumption | omega)
        clear g1 g2 g3
        go_enter Tryz.func73, Tryz.ntmps73
        go_wp2_with fail
        refine wp_region_tail (S := (fun w' => Below w.heap.size w w')) 17 (by kernel_rfl) (by kernel_rfl) ?_ (fun hHeld => ?_)
        · (repeat (first | exact Below.refl _ _ | assumption | refine bel_al ?_ _ | refine Below.drew ?_ | refine bel_dn ?_ _ | refine bel_set ?_ (Nat.le_refl _) _))
        repeat (first | ((first | refine tk 0 ?_ rfl ?_ ?_ | refine tk 1 ?_ rfl ?_ ?_ | refine tk 2 ?_ rfl ?_ ?_ | refine tk 3 ?_ rfl ?_ ?_ | refine tk 4 ?_ rfl ?_ ?_ | refine tk 5 ?_ rfl ?_ ?_ | refine tk 6 ?_ rfl ?_ ?_ | refine tk 7 ?_ rfl ?_ ?_ | refine tk 8 ?_ rfl ?_ ?_ | refine tk 9 ?_ rfl ?_ ?_ | refine tk 10 ?_ rfl ?_ ?_ | refine tk 11 ?_ rfl ?_ ?_ | refine tk 12 ?_ rfl ?_ ?_ | refine tk 13 ?_ rfl ?_ ?_ | refine tk 14 ?_ rfl ?_ ?_ | refine tk 15 ?_ rfl ?_ ?_); rotate_left; (intro wy hSw; (try dsimp only at hSw); obtain ⟨⟨c0, c1, c2, c3⟩, d0, d1, d2, d3⟩ := HC.out wy hSw; (go_simp <;> with_reducible rfl)); (try simp only [List.getElem_toArray, List.getElem_cons_zero, List.getElem_cons_succ, Act.put, List.setIfInBounds_toArray, List.set_cons_zero, List.set_cons_succ])) | ((first | refine tku 0 rfl ?_ | refine tku 1 rfl ?_ | refine tku 2 rfl ?_ | refine tku 3 rfl ?_ | refine tku 4 rfl ?_ | refine tku 5 rfl ?_ | refine tku 6 rfl ?_ | refine tku 7 rfl ?_ | refine tku 8 rfl ?_ | refine tku 9 rfl ?_ | refine tku 10 rfl ?_ | refine tku 11 rfl ?_ | refine tku 12 rfl ?_ | refine tku 13 rfl ?_ | refine tku 14 rfl ?_ | refine tku 15 rfl ?_); (try simp only [List.getElem_toArray, List.getElem_cons_zero, List.getElem_cons_succ, Act.put, List.setIfInBounds_toArray, List.set_cons_zero, List.set_cons_succ])))
        refine wpT_one (k := 16) rfl (by kernel_rfl) (fun K hK => ?_)
        go_simp
        refine hK.out _ _ ?_ (fun hHeld => ?_)
        · (repeat (first | exact Below.refl _ _ | assumption | refine bel_al ?_ _ | refine Below.drew ?_ | refine bel_dn ?_ _ | refine bel_set ?_ (Nat.le_refl _) _))
        clear hK K
        (try simp only [Act.put, List.setIfInBounds_toArray, List.set_cons_zero, List.set_cons_succ])
        refine wpT_done (by kernel_rfl) ?_
        go_wp2_with fail
        refine bodyPost_ret (v := .tuple #[.agg #[.int .i64 2, .slice none 0 0], .bool false]) (by simp [results, Tryz.results73, go_sem]) rfl ?_
        exact ⟨_, _, _, _, _, rfl, by (repeat (first | exact Below.refl _ _ | assumption | refine bel_al ?_ _ | refine Below.drew ?_ | refine bel_dn ?_ _ | refine bel_set ?_ (Nat.le_refl _) _)), HG.out _ _⟩
      · have e1 : ((x.op : Int) == 2) = false := opF (by first | assumption | omega)
        have e2 : ((x.op : Int) == 3) = true := opT (g1.resolve_left g3)
        clear g1 g2 g3
        go_enter Tryz.func73, Tryz.ntmps73
        go_wp2_with fail
        refine wp_region_tail (S := (fun w' => Below w.heap.size w w')) 17 (by kernel_rfl) (by kernel_rfl) ?_ (fun hHeld => ?_)
        · (repeat (first | exact Below.refl _ _ | assumption | refine bel_al ?_ _ | refine Below.drew ?_ | refine bel_dn ?_ _ | refine bel_set ?_ (Nat.le_refl _) _))
        repeat (first | ((first | refine tk 0 ?_ rfl ?_ ?_ | refine tk 1 ?_ rfl ?_ ?_ | refine tk 2 ?_ rfl ?_ ?_ | refine tk 3 ?_ rfl ?_ ?_ | refine tk 4 ?_ rfl ?_ ?_ | refine tk 5 ?_ rfl ?_ ?_ | refine tk 6 ?_ rfl ?_ ?_ | refine tk 7 ?_ rfl ?_ ?_ | refine tk 8 ?_ rfl ?_ ?_ | refine tk 9 ?_ rfl ?_ ?_ | refine tk 10 ?_ rfl ?_ ?_ | refine tk 11 ?_ rfl ?_ ?_ | refine tk 12 ?_ rfl ?_ ?_ | refine tk 13 ?_ rfl ?_ ?_ | refine tk 14 ?_ rfl ?_ ?_ | refine tk 15 ?_ rfl ?_ ?_); rotate_left; (intro wy hSw; (try dsimp only at hSw); obtain ⟨⟨c0, c1, c2, c3⟩, d0, d1, d2, d3⟩ := HC.out wy hSw; (go_simp <;> with_reducible rfl)); (try simp only [List.getElem_toArray, List.getElem_cons_zero, List.getElem_cons_succ, Act.put, List.setIfInBounds_toArray, List.set_cons_zero, List.set_cons_succ])) | ((first | refine tku 0 rfl ?_ | refine tku 1 rfl ?_ | refine tku 2 rfl ?_ | refine tku 3 rfl ?_ | refine tku 4 rfl ?_ | refine tku 5 rfl ?_ | refine tku 6 rfl ?_ | refine tku 7 rfl ?_ | refine tku 8 rfl ?_ | refine tku 9 rfl ?_ | refine tku 10 rfl ?_ | refine tku 11 rfl ?_ | refine tku 12 rfl ?_ | refine tku 13 rfl ?_ | refine tku 14 rfl ?_ | refine tku 15 rfl ?_); (try simp only [List.getElem_toArray, List.getElem_cons_zero, List.getElem_cons_succ, Act.put, List.setIfInBounds_toArray, List.set_cons_zero, List.set_cons_succ])))
        refine wpT_one (k := 16) rfl (by kernel_rfl) (fun K hK => ?_)
        go_simp
        refine hK.out _ _ ?_ (fun hHeld => ?_)
        · (repeat (first | exact Below.refl _ _ | assumption | refine bel_al ?_ _ | refine Below.drew ?_ | refine bel_dn ?_ _ | refine bel_set ?_ (Nat.le_refl _) _))
        clear hK K
        (try simp only [Act.put, List.setIfInBounds_toArray, List.set_cons_zero, List.set_cons_succ])
        refine wpT_done (by kernel_rfl) ?_
        go_wp2_with fail
        refine bodyPost_ret (v := .tuple #[.agg #[.int .i64 2, .slice none 0 0], .bool false]) (by simp [results, Tryz.results73, go_sem]) rfl ?_
        exact ⟨_, _, _, _, _, rfl, by (repeat (first | exact Below.refl _ _ | assumption | refine bel_al ?_ _ | refine Below.drew ?_ | refine bel_dn ?_ _ | refine bel_set ?_ (Nat.le_refl _) _)), HG.out _ _⟩
  · have e1 : ((x.op : Int) == 2) = false := opF (fun h => g1 (.inl h))
    have e2 : ((x.op : Int) == 3) = false := opF (fun h => g1 (.inr h))
    have HG := hid (fun w' nv => show Gives w' 2 nv false (r8 (x :: t)) from by
      cases t with
      | nil => rfl
      | cons y r =>
        show Gives _ _ _ _ (if (x.op = 2 ∨ x.op = 3) ∧ x.A = 64 ∧ y.op = 11 then some (2, []) else none)
        rw [if_neg (fun h => g1 h.1)]; rfl)
    obtain ⟨b, off, n, cap, rfl, hn, hc1, hc2, u, hcell⟩ := h.one
    have HC := hid hcell
    have hp : 0 < n := by omega
    have hq : (0 : Int) < (n : Int) := by omega
    clear hn hcell h hrun hok
    obtain ⟨c0, c1, c2, c3⟩ := HC.out _ (show Below w.heap.size w (w.alloc (.cells #[.int .i64 0, .slice none 0 0] 127)) by (repeat (first | exact Below.refl _ _ | assumption | refine bel_al ?_ _ | refine Below.drew ?_ | refine bel_dn ?_ _ | refine bel_set ?_ (Nat.le_refl _) _)))
    go_enter Tryz.func73, Tryz.ntmps73
    go_wp2_with fail
    refine wp_region_tail (S := (fun w' => Below w.heap.size w w')) 17 (by kernel_rfl) (by kernel_rfl) ?_ (fun hHeld => ?_)
    · (repeat (first | exact Below.refl _ _ | assumption | refine bel_al ?_ _ | refine Below.drew ?_ | refine bel_dn ?_ _ | refine bel_set ?_ (Nat.le_refl _) _))
    repeat (first | ((first | refine tk 0 ?_ rfl ?_ ?_ | refine tk 1 ?_ rfl ?_ ?_ | refine tk 2 ?_ rfl ?_ ?_ | refine tk 3 ?_ rfl ?_ ?_ | refine tk 4 ?_ rfl ?_ ?_ | refine tk 5 ?_ rfl ?_ ?_ | refine tk 6 ?_ rfl ?_ ?_ | refine tk 7 ?_ rfl ?_ ?_ | refine tk 8 ?_ rfl ?_ ?_ | refine tk 9 ?_ rfl ?_ ?_ | refine tk 10 ?_ rfl ?_ ?_ | refine tk 11 ?_ rfl ?_ ?_ | refine tk 12 ?_ rfl ?_ ?_ | refine tk 13 ?_ rfl ?_ ?_ | refine tk 14 ?_ rfl ?_ ?_ | refine tk 15 ?_ rfl ?_ ?_); rotate_left; (intro wy hSw; (try dsimp only at hSw); obtain ⟨c0, c1, c2, c3⟩ := HC.out wy hSw; (go_simp <;> with_reducible rfl)); (try simp only [List.getElem_toArray, List.getElem_cons_zero, List.getElem_cons_succ, Act.put, List.setIfInBounds_toArray, List.set_cons_zero, List.set_cons_succ])) | ((first | refine tku 0 rfl ?_ | refine tku 1 rfl ?_ | refine tku 2 rfl ?_ | refine tku 3 rfl ?_ | refine tku 4 rfl ?_ | refine tku 5 rfl ?_ | refine tku 6 rfl ?_ | refine tku 7 rfl ?_ | refine tku 8 rfl ?_ | refine tku 9 rfl ?_ | refine tku 10 rfl ?_ | refine tku 11 rfl ?_ | refine tku 12 rfl ?_ | refine tku 13 rfl ?_ | refine tku 14 rfl ?_ | refine tku 15 rfl ?_); (try simp only [List.getElem_toArray, List.getElem_cons_zero, List.getElem_cons_succ, Act.put, List.setIfInBounds_toArray, List.set_cons_zero, List.set_cons_succ])))
    refine wpT_one (k := 16) rfl (by kernel_rfl) (fun K hK => ?_)
    go_simp
    refine hK.out _ _ ?_ (fun hHeld => ?_)
    · (repeat (first | exact Below.refl _ _ | assumption | refine bel_al ?_ _ | refine Below.drew ?_ | refine bel_dn ?_ _ | refine bel_set ?_ (Nat.le_refl _) _))
    clear hK K
    (try simp only [Act.put, List.setIfInBounds_toArray, List.set_cons_zero, List.set_cons_succ])
    refine wpT_done (by kernel_rfl) ?_
    go_wp2_with fail
    refine bodyPost_ret (v := .tuple #[.agg #[.int .i64 2, .slice none 0 0], .bool false]) (by simp [results, Tryz.results73, go_sem]) rfl ?_
    exact ⟨_, _, _, _, _, rfl, by (repeat (first | exact Below.refl _ _ | assumption | refine bel_al ?_ _ | refine Below.drew ?_ | refine bel_dn ?_ _ | refine bel_set ?_ (Nat.le_refl _) _)), HG.out _ _⟩

set_option maxRecDepth 100000 in
set_option maxHeartbeats 4000000 in
theorem chosen_any : RuleP 75 r10 := by
  intro w v x t k st hok hrun _ h _

  have HN := hid (fun w u => isNumber_any w x.op x.A x.B u)
  by_cases g1 : x.op = 65
  · obtain ⟨y, r, rfl⟩ := more_of hrun (by omega)
    rw [show decide (x.op = 65) = true from decide_eq_true g1] at HN
    obtain ⟨b, off, n, cap, rfl, hn, hc1, hc2, u, hcell⟩ := h.one
    obtain ⟨u2, hcell2⟩ := h.second
    have HC := hid (fun wx hb => show _ ∧ _ from ⟨hcell wx hb, hcell2 wx hb⟩)
    have hp : 0 < n := by omega
    have hp1 : 1 < n := by rw [hn]; simp
    have hq : (0 : Int) < (n : Int) := by omega
    have hq1 : (1 : Int) < (n : Int) := by omega
    have hq2 : ¬ (n : Int) < 2 := by omega
    have HN2 := hid (fun w => HN.out w u)
    clear HN
    by_cases g2 : x.A = 0
    · have e3 : (x.A != 0) = false := by simp [g2]
      have HG := hid (fun w' nv => show Gives w' 2 nv false (r10 (x :: y :: r)) from by
        show Gives _ _ _ _ (if x.op = 65 ∧ x.A ≠ 0 ∧ y.op = 27 then some (2, [⟨26, 0, 0, []⟩]) else none)
        rw [if_neg (fun h => h.2.1 g2)]; rfl)
      clear hn hcell hcell2 h hrun hok
      obtain ⟨⟨c0, c1, c2, c3⟩, d0, d1, d2, d3⟩ := HC.out _ (show Below w.heap.size w (w.alloc (.cells #[.int .i64 0, .slice none 0 0] 127)) by (repeat (first | exact Below.refl _ _ | assumption | refine bel_al ?_ _ | refine Below.drew ?_ | refine bel_dn ?_ _ | refine bel_set ?_ (Nat.le_refl _) _)))
      clear g1 g2
      go_enter Tryz.func75, Tryz.ntmps75
      go_wp2_with (go_at_call 103; refine (HN2.out _).mono ?_; rintro r1 w1 ⟨rfl, hb1⟩; have s1 := bel_lt hb1; obtain ⟨x0, x1, xf⟩ := turn_blk hb1; have b1 := bel_tr (show Below w.heap.size w (w.alloc (.cells #[.int .i64 0, .slice none 0 0] 127)) by (repeat (first | exact Below.refl _ _ | assumption | refine bel_al ?_ _ | refine Below.drew ?_ | refine bel_dn ?_ _ | refine bel_set ?_ (Nat.le_refl _) _))) hb1; clear hb1; obtain ⟨⟨c0, c1, c2, c3⟩, d0, d1, d2, d3⟩ := HC.out _ b1)
      obtain ⟨z0, z1⟩ := turn_read x0 x1 (.int .i64 2) (.slice (some ⟨w1.heap.size, 0, none⟩) 1 1)
      refine bodyPost_ret (v := .tuple #[.agg #[.int .i64 2, .slice (some ⟨w1.heap.size, 0, none⟩) 1 1], .bool false]) (by simp [results, Tryz.results75, go_sem, z0, z1]) rfl ?_
      exact ⟨_, _, _, _, _, rfl, by (repeat (first | exact Below.refl _ _ | assumption | refine bel_al ?_ _ | refine Below.drew ?_ | refine bel_dn ?_ _ | refine bel_set ?_ (Nat.le_refl _) _)), HG.out _ _⟩
    · have e3 : (x.A != 0) = true := by simp [g2]
      have e4 : ((y.op : Int) == 27) = decide (y.op = 27) := opb
      have HG := hid (fun w' nv (hB : BodS w' nv [⟨26, 0, 0, []⟩]) => show Gives w' 2 nv (decide (y.op = 27)) (r10 (x :: y :: r)) from by
        show Gives _ _ _ _ (if x.op = 65 ∧ x.A ≠ 0 ∧ y.op = 27 then some (2, [⟨26, 0, 0, []⟩]) else none)
        by_cases g : y.op = 27
        · rw [if_pos ⟨g1, g2, g⟩, decide_eq_true g]; exact ⟨rfl, rfl, hB⟩
        · rw [if_neg (fun h => g h.2.2), decide_eq_false g]; rfl)
      generalize decide (y.op = 27) = d at *
      clear hn hcell hcell2 h hrun hok
      obtain ⟨⟨c0, c1, c2, c3⟩, d0, d1, d2, d3⟩ := HC.out _ (show Below w.heap.size w (w.alloc (.cells #[.int .i64 0, .slice none 0 0] 127)) by (repeat (first | exact Below.refl _ _ | assumption | refine bel_al ?_ _ | refine Below.drew ?_ | refine bel_dn ?_ _ | refine bel_set ?_ (Nat.le_refl _) _)))
      clear g1 g2
      go_enter Tryz.func75, Tryz.ntmps75
      go_wp2_with (go_at_call 103; refine (HN2.out _).mono ?_; rintro r1 w1 ⟨rfl, hb1⟩; have s1 := bel_lt hb1; obtain ⟨x0, x1, xf⟩ := turn_blk hb1; have b1 := bel_tr (show Below w.heap.size w (w.alloc (.cells #[.int .i64 0, .slice none 0 0] 127)) by (repeat (first | exact Below.refl _ _ | assumption | refine bel_al ?_ _ | refine Below.drew ?_ | refine bel_dn ?_ _ | refine bel_set ?_ (Nat.le_refl _) _))) hb1; clear hb1; obtain ⟨⟨c0, c1, c2, c3⟩, d0, d1, d2, d3⟩ := HC.out _ b1)
      obtain ⟨z0, z1⟩ := turn_read x0 x1 (.int .i64 2) (.slice (some ⟨w1.heap.size, 0, none⟩) 1 1)
      refine bodyPost_ret (v := .tuple #[.agg #[.int .i64 2, .slice (some ⟨w1.heap.size, 0, none⟩) 1 1], .bool d]) (by simp [results, Tryz.results75, go_sem, z0, z1]) rfl ?_
      exact ⟨_, _, _, _, _, rfl, by (repeat (first | exact Below.refl _ _ | assumption | refine bel_al ?_ _ | refine Below.drew ?_ | refine bel_dn ?_ _ | refine bel_set ?_ (Nat.le_refl _) _)), HG.out _ _ (BodS.made _ _ _ _ (by simp))⟩
  · rw [show decide (x.op = 65) = false from decide_eq_false g1] at HN
    have HG := hid (fun w' nv => show Gives w' 2 nv false (r10 (x :: t)) from by
      cases t with
      | nil => rfl
      | cons y r =>
        show Gives _ _ _ _ (if x.op = 65 ∧ x.A ≠ 0 ∧ y.op = 27 then some (2, [⟨26, 0, 0, []⟩]) else none)
        rw [if_neg (fun h => g1 h.1)]; rfl)
    obtain ⟨b, off, n, cap, rfl, hn, hc1, hc2, u, hcell⟩ := h.one
    have HC := hid hcell
    have hp : 0 < n := by omega
    have hq : (0 : Int) < (n : Int) := by omega
    have HN2 := hid (fun w => HN.out w u)
    clear HN
    clear hn hcell h hrun hok
    clear g1
    obtain ⟨c0, c1, c2, c3⟩ := HC.out _ (show Below w.heap.size w (w.alloc (.cells #[.int .i64 0, .slice none 0 0] 127)) by (repeat (first | exact Below.refl _ _ | assumption | refine bel_al ?_ _ | refine Below.drew ?_ | refine bel_dn ?_ _ | refine bel_set ?_ (Nat.le_refl _) _)))
    go_enter Tryz.func75, Tryz.ntmps75
    go_wp2_with (go_at_call 103; refine (HN2.out _).mono ?_; rintro r1 w1 ⟨rfl, hb1⟩; have s1 := bel_lt hb1; obtain ⟨x0, x1, xf⟩ := turn_blk hb1; have b1 := bel_tr (show Below w.heap.size w (w.alloc (.cells #[.int .i64 0, .slice none 0 0] 127)) by (repeat (first | exact Below.refl _ _ | assumption | refine bel_al ?_ _ | refine Below.drew ?_ | refine bel_dn ?_ _ | refine bel_set ?_ (Nat.le_refl _) _))) hb1; clear hb1; obtain ⟨c0, c1, c2, c3⟩ := HC.out _ b1)
    obtain ⟨z0, z1⟩ := turn_read x0 x1 (.int .i64 2) (.slice (some ⟨w1.heap.size, 0, none⟩) 1 1)
    refine bodyPost_ret (v := .tuple #[.agg #[.int .i64 2, .slice (some ⟨w1.heap.size, 0, none⟩) 1 1], .bool false]) (by simp [results, Tryz.results75, go_sem, z0, z1]) rfl ?_
    exact ⟨_, _, _, _, _, rfl, by (repeat (first | exact Below.refl _ _ | assumption | refine bel_al ?_ _ | refine Below.drew ?_ | refine bel_dn ?_ _ | refine bel_set ?_ (Nat.le_refl _) _)), HG.out _ _⟩
end Go.Proofs.YtakfineljffoaaaGreatDoor
