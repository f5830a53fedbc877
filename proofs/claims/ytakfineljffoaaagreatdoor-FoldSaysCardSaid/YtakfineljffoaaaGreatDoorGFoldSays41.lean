/-
  FOLDED BODIES: the program's rules unused, sure. No condition.
-/
import Derived.Test.YtakfineljffoaaaGreatDoorGFoldSays27
namespace Go.Proofs.YtakfineljffoaaaGreatDoor
open Go.RowKit Go.Lib


set_option maxRecDepth 100000 in
set_option maxHeartbeats 4000000 in
theorem unused_any : RuleP 68 r3 := by
  intro w v x t k st hok hrun _ h _
  have HN := hid (fun w u => isConst_any w x.op x.A x.B u)
  by_cases g1 : x.op = 65 ∨ x.op = 66 ∨ x.op = 32 ∨ x.op = 35
  · obtain ⟨y, r, rfl⟩ := more_of hrun (by omega)
    obtain ⟨b, off, n, cap, rfl, hn, hc1, hc2, u, hcell⟩ := h.one
    obtain ⟨u2, hcell2⟩ := h.second
    have HC := hid (fun wx hb => show _ ∧ _ from ⟨hcell wx hb, hcell2 wx hb⟩)
    have hp : 0 < n := by omega
    have hp1 : 1 < n := by rw [hn]; simp
    have hq : (0 : Int) < (n : Int) := by omega
    have hq1 : (1 : Int) < (n : Int) := by omega
    have hq2 : ¬ (n : Int) < 2 := by omega
    have HN2 := hid (fun w => HN.out w u)
    clear HN
    have e4 : ((y.op : Int) == 26) = decide (y.op = 26) := opb
    have HG := hid (fun w' nv (hB : BodS w' nv []) => show Gives w' 2 nv (decide (y.op = 26)) (r3 (x :: y :: r)) from by
      show Gives _ _ _ _ (if (x.op = 65 ∨ x.op = 66 ∨ x.op = 32 ∨ x.op = 35) ∧ y.op = 26 then some (2, []) else none)
      by_cases g : y.op = 26
      · rw [if_pos ⟨g1, g⟩, decide_eq_true g]; exact ⟨rfl, rfl, hB⟩
      · rw [if_neg (fun h => g h.2), decide_eq_false g]; rfl)
    generalize decide (y.op = 26) = d at *
    clear hn hcell hcell2 h hrun hok
    obtain ⟨⟨c0, c1, c2, c3⟩, d0, d1, d2, d3⟩ := HC.out _ (show Below w.heap.size w (w.alloc (.cells #[.int .i64 0, .slice none 0 0] 127)) by (repeat (first | exact Below.refl _ _ | assumption | refine bel_al ?_ _ | refine Below.drew ?_ | refine bel_dn ?_ _ | refine bel_set ?_ (Nat.le_refl _) _)))
    by_cases g2 : x.op = 65 ∨ x.op = 66
    · rw [show decide (x.op = 65 ∨ x.op = 66) = true from decide_eq_true g2] at HN2
      clear g1 g2
      go_enter Tryz.func68, Tryz.ntmps68
      go_wp2_with (go_at_call 97; refine (HN2.out _).mono ?_; rintro r1 w1 ⟨rfl, hb1⟩; have s1 := bel_lt hb1; obtain ⟨x0, x1, xf⟩ := turn_blk hb1; have b1 := bel_tr (show Below w.heap.size w (w.alloc (.cells #[.int .i64 0, .slice none 0 0] 127)) by (repeat (first | exact Below.refl _ _ | assumption | refine bel_al ?_ _ | refine Below.drew ?_ | refine bel_dn ?_ _ | refine bel_set ?_ (Nat.le_refl _) _))) hb1; clear hb1; obtain ⟨⟨c0, c1, c2, c3⟩, d0, d1, d2, d3⟩ := HC.out _ b1)
      refine wp_region_tail (S := (fun w' => Below w.heap.size w w')) 15 (by kernel_rfl) (by kernel_rfl) ?_ (fun hHeld => ?_)
      · (repeat (first | exact Below.refl _ _ | assumption | refine bel_al ?_ _ | refine Below.drew ?_ | refine bel_dn ?_ _ | refine bel_set ?_ (Nat.le_refl _) _))
      repeat (first | ((first | refine tk 0 ?_ rfl ?_ ?_ | refine tk 1 ?_ rfl ?_ ?_ | refine tk 2 ?_ rfl ?_ ?_ | refine tk 3 ?_ rfl ?_ ?_ | refine tk 4 ?_ rfl ?_ ?_ | refine tk 5 ?_ rfl ?_ ?_ | refine tk 6 ?_ rfl ?_ ?_ | refine tk 7 ?_ rfl ?_ ?_ | refine tk 8 ?_ rfl ?_ ?_ | refine tk 9 ?_ rfl ?_ ?_ | refine tk 10 ?_ rfl ?_ ?_ | refine tk 11 ?_ rfl ?_ ?_ | refine tk 12 ?_ rfl ?_ ?_ | refine tk 13 ?_ rfl ?_ ?_); rotate_left; (intro wy hSw; (try dsimp only at hSw); obtain ⟨⟨c0, c1, c2, c3⟩, d0, d1, d2, d3⟩ := HC.out wy hSw; (go_simp <;> with_reducible rfl)); (try simp only [List.getElem_toArray, List.getElem_cons_zero, List.getElem_cons_succ, Act.put, List.setIfInBounds_toArray, List.set_cons_zero, List.set_cons_succ])) | ((first | refine tku 0 rfl ?_ | refine tku 1 rfl ?_ | refine tku 2 rfl ?_ | refine tku 3 rfl ?_ | refine tku 4 rfl ?_ | refine tku 5 rfl ?_ | refine tku 6 rfl ?_ | refine tku 7 rfl ?_ | refine tku 8 rfl ?_ | refine tku 9 rfl ?_ | refine tku 10 rfl ?_ | refine tku 11 rfl ?_ | refine tku 12 rfl ?_ | refine tku 13 rfl ?_); (try simp only [List.getElem_toArray, List.getElem_cons_zero, List.getElem_cons_succ, Act.put, List.setIfInBounds_toArray, List.set_cons_zero, List.set_cons_succ])))
      refine wpT_one (k := 14) rfl (by kernel_rfl) (fun K hK => ?_)
      go_simp
      refine hK.out _ _ ?_ (fun hHeld => ?_)
      · (repeat (first | exact Below.refl _ _ | assumption | refine bel_al ?_ _ | refine Below.drew ?_ | refine bel_dn ?_ _ | refine bel_set ?_ (Nat.le_refl _) _))
      clear hK K
      (try simp only [Act.put, List.setIfInBounds_toArray, List.set_cons_zero, List.set_cons_succ])
      refine wpT_done (by kernel_rfl) ?_
      go_wp2_with fail
      refine bodyPost_ret (v := .tuple #[.agg #[.int .i64 2, .slice none 0 0], .bool d]) (by simp [results, Tryz.results68, go_sem, x0, x1]) rfl ?_
      exact ⟨_, _, _, _, _, rfl, by (repeat (first | exact Below.refl _ _ | assumption | refine bel_al ?_ _ | refine Below.drew ?_ | refine bel_dn ?_ _ | refine bel_set ?_ (Nat.le_refl _) _)), HG.out _ _ (BodS.nil _)⟩
    · rw [show decide (x.op = 65 ∨ x.op = 66) = false from decide_eq_false g2] at HN2
      by_cases g3 : x.op = 32
      · have e1 : ((x.op : Int) == 32) = true := opT (by first | assumption | omega)
        clear g1 g2 g3
        go_enter Tryz.func68, Tryz.ntmps68
        go_wp2_with (go_at_call 97; refine (HN2.out _).mono ?_; rintro r1 w1 ⟨rfl, hb1⟩; have s1 := bel_lt hb1; obtain ⟨x0, x1, xf⟩ := turn_blk hb1; have b1 := bel_tr (show Below w.heap.size w (w.alloc (.cells #[.int .i64 0, .slice none 0 0] 127)) by (repeat (first | exact Below.refl _ _ | assumption | refine bel_al ?_ _ | refine Below.drew ?_ | refine bel_dn ?_ _ | refine bel_set ?_ (Nat.le_refl _) _))) hb1; clear hb1; obtain ⟨⟨c0, c1, c2, c3⟩, d0, d1, d2, d3⟩ := HC.out _ b1)
        refine wp_region_tail (S := (fun w' => Below w.heap.size w w')) 15 (by kernel_rfl) (by kernel_rfl) ?_ (fun hHeld => ?_)
        · (repeat (first | exact Below.refl _ _ | assumption | refine bel_al ?_ _ | refine Below.drew ?_ | refine bel_dn ?_ _ | refine bel_set ?_ (Nat.le_refl _) _))
        repeat (first | ((first | refine tk 0 ?_ rfl ?_ ?_ | refine tk 1 ?_ rfl ?_ ?_ | refine tk 2 ?_ rfl ?_ ?_ | refine tk 3 ?_ rfl ?_ ?_ | refine tk 4 ?_ rfl ?_ ?_ | refine tk 5 ?_ rfl ?_ ?_ | refine tk 6 ?_ rfl ?_ ?_ | refine tk 7 ?_ rfl ?_ ?_ | refine tk 8 ?_ rfl ?_ ?_ | refine tk 9 ?_ rfl ?_ ?_ | refine tk 10 ?_ rfl ?_ ?_ | refine tk 11 ?_ rfl ?_ ?_ | refine tk 12 ?_ rfl ?_ ?_ | refine tk 13 ?_ rfl ?_ ?_); rotate_left; (intro wy hSw; (try dsimp only at hSw); obtain ⟨⟨c0, c1, c2, c3⟩, d0, d1, d2, d3⟩ := HC.out wy hSw; (go_simp <;> with_reducible rfl)); (try simp only [List.getElem_toArray, List.getElem_cons_zero, List.getElem_cons_succ, Act.put, List.setIfInBounds_toArray, List.set_cons_zero, List.set_cons_succ])) | ((first | refine tku 0 rfl ?_ | refine tku 1 rfl ?_ | refine tku 2 rfl ?_ | refine tku 3 rfl ?_ | refine tku 4 rfl ?_ | refine tku 5 rfl ?_ | refine tku 6 rfl ?_ | refine tku 7 rfl ?_ | refine tku 8 rfl ?_ | refine tku 9 rfl ?_ | refine tku 10 rfl ?_ | refine tku 11 rfl ?_ | refine tku 12 rfl ?_ | refine tku 13 rfl ?_); (try simp only [List.getElem_toArray, List.getElem_cons_zero, List.getElem_cons_succ, Act.put, List.setIfInBounds_toArray, List.set_cons_zero, List.set_cons_succ])))
        refine wpT_one (k := 14) rfl (by kernel_rfl) (fun K hK => ?_)
        go_simp
        refine hK.out _ _ ?_ (fun hHeld => ?_)
        · (repeat (first | exact Below.refl _ _ | assumption | refine bel_al ?_ _ | refine Below.drew ?_ | refine bel_dn ?_ _ | refine bel_set ?_ (Nat.le_refl _) _))
        clear hK K
        (try simp only [Act.put, List.setIfInBounds_toArray, List.set_cons_zero, List.set_cons_succ])
        refine wpT_done (by kernel_rfl) ?_
        go_wp2_with fail
        refine bodyPost_ret (v := .tuple #[.agg #[.int .i64 2, .slice none 0 0], .bool d]) (by simp [results, Tryz.results68, go_sem, x0, x1]) rfl ?_
        exact ⟨_, _, _, _, _, rfl, by (repeat (first | exact Below.refl _ _ | assumption | refine bel_al ?_ _ | refine Below.drew ?_ | refine bel_dn ?_ _ | refine bel_set ?_ (Nat.le_refl _) _)), HG.out _ _ (BodS.nil _)⟩
      · have e1 : ((x.op : Int) == 32) = false := opF (by first | assumption | omega)
        have e2 : ((x.op : Int) == 35) = true := opT (show x.op = 35 by omega)
        clear g1 g2 g3
        go_enter Tryz.func68, Tryz.ntmps68
        go_wp2_with (go_at_call 97; refine (HN2.out _).mono ?_; rintro r1 w1 ⟨rfl, hb1⟩; have s1 := bel_lt hb1; obtain ⟨x0, x1, xf⟩ := turn_blk hb1; have b1 := bel_tr (show Below w.heap.size w (w.alloc (.cells #[.int .i64 0, .slice none 0 0] 127)) by (repeat (first | exact Below.refl _ _ | assumption | refine bel_al ?_ _ | refine Below.drew ?_ | refine bel_dn ?_ _ | refine bel_set ?_ (Nat.le_refl _) _))) hb1; clear hb1; obtain ⟨⟨c0, c1, c2, c3⟩, d0, d1, d2, d3⟩ := HC.out _ b1)
        refine wp_region_tail (S := (fun w' => Below w.heap.size w w')) 15 (by kernel_rfl) (by kernel_rfl) ?_ (fun hHeld => ?_)
        · (repeat (first | exact Below.refl _ _ | assumption | refine bel_al ?_ _ | refine Below.drew ?_ | refine bel_dn ?_ _ | refine bel_set ?_ (Nat.le_refl _) _))
        repeat (first | ((first | refine tk 0 ?_ rfl ?_ ?_ | refine tk 1 ?_ rfl ?_ ?_ | refine tk 2 ?_ rfl ?_ ?_ | refine tk 3 ?_ rfl ?_ ?_ | refine tk 4 ?_ rfl ?_ ?_ | refine tk 5 ?_ rfl ?_ ?_ | refine tk 6 ?_ rfl ?_ ?_ | refine tk 7 ?_ rfl ?_ ?_ | refine tk 8 ?_ rfl ?_ ?_ | refine tk 9 ?_ rfl ?_ ?_ | refine tk 10 ?_ rfl ?_ ?_ | refine tk 11 ?_ rfl ?_ ?_ | refine tk 12 ?_ rfl ?_ ?_ | refine tk 13 ?_ rfl ?_ ?_); rotate_left; (intro wy hSw; (try dsimp only at hSw); obtain ⟨⟨c0, c1, c2, c3⟩, d0, d1, d2, d3⟩ := HC.out wy hSw; (go_simp <;> with_reducible rfl)); (try simp only [List.getElem_toArray, List.getElem_cons_zero, List.getElem_cons_succ, Act.put, List.setIfInBounds_toArray, List.set_cons_zero, List.set_cons_succ])) | ((first | refine tku 0 rfl ?_ | refine tku 1 rfl ?_ | refine tku 2 rfl ?_ | refine tku 3 rfl ?_ | refine tku 4 rfl ?_ | refine tku 5 rfl ?_ | refine tku 6 rfl ?_ | refine tku 7 rfl ?_ | refine tku 8 rfl ?_ | refine tku 9 rfl ?_ | refine tku 10 rfl ?_ | refine tku 11 rfl ?_ | refine tku 12 rfl ?_ | refine tku 13 rfl ?_); (try simp only [List.getElem_toArray, List.getElem_cons_zero, List.getElem_cons_succ, Act.put, List.setIfInBounds_toArray, List.set_cons_zero, List.set_cons_succ])))
        refine wpT_one (k := 14) rfl (by kernel_rfl) (fun K hK => ?_)
        go_simp
        refine hK.out _ _ ?_ (fun hHeld => ?_)
        · (repeat (first | exact Below.refl _ _ | assumption | refine bel_al ?_ _ | refine Below.drew ?_ | refine bel_dn ?_ _ | refine bel_set ?_ (Nat.le_refl _) _))
        clear hK K
        (try simp only [Act.put, List.setIfInBounds_toArray, List.set_cons_zero, List.set_cons_succ])
        refine wpT_done (by kernel_rfl) ?_
        go_wp2_with fail
        refine bodyPost_ret (v := .tuple #[.agg #[.int .i64 2, .slice none 0 0], .bool d]) (by simp [results, Tryz.results68, go_sem, x0, x1]) rfl ?_
        exact ⟨_, _, _, _, _, rfl, by (repeat (first | exact Below.refl _ _ | assumption | refine bel_al ?_ _ | refine Below.drew ?_ | refine bel_dn ?_ _ | refine bel_set ?_ (Nat.le_refl _) _)), HG.out _ _ (BodS.nil _)⟩
  · have g0 := g1
    rw [show decide (x.op = 65 ∨ x.op = 66) = false from decide_eq_false (by omega)] at HN
    have e1 : ((x.op : Int) == 32) = false := opF (show ¬ x.op = 32 by omega)
    have e2 : ((x.op : Int) == 35) = false := opF (show ¬ x.op = 35 by omega)
    have HG := hid (fun w' nv => show Gives w' 2 nv false (r3 (x :: t)) from by
      cases t with
      | nil => rfl
      | cons y r =>
        show Gives _ _ _ _ (if (x.op = 65 ∨ x.op = 66 ∨ x.op = 32 ∨ x.op = 35) ∧ y.op = 26 then some (2, []) else none)
        rw [if_neg (fun h => g1 h.1)]; rfl)
    obtain ⟨b, off, n, cap, rfl, hn, hc1, hc2, u, hcell⟩ := h.one
    have HC := hid hcell
    have hp : 0 < n := by omega
    have hq : (0 : Int) < (n : Int) := by omega
    have HN2 := hid (fun w => HN.out w u)
    clear HN
    clear hn hcell h hrun hok
    clear g1
    obtain ⟨c0, c1, c2, c3⟩ := HC.out _ (show Below w.heap.size w (w.alloc (.cells #[.int .i64 0, .slice none 0 0] 127)) by (repeat (first | exact Below.refl _ _ | assumption | refine bel_al ?_ _ | refine Below.drew ?_ | refine bel_dn ?_ _ | refine bel_set ?_ (Nat.le_refl _) _)))
    go_enter Tryz.func68, Tryz.ntmps68
    go_wp2_with (go_at_call 97; refine (HN2.out _).mono ?_; rintro r1 w1 ⟨rfl, hb1⟩; have s1 := bel_lt hb1; obtain ⟨x0, x1, xf⟩ := turn_blk hb1; have b1 := bel_tr (show Below w.heap.size w (w.alloc (.cells #[.int .i64 0, .slice none 0 0] 127)) by (repeat (first | exact Below.refl _ _ | assumption | refine bel_al ?_ _ | refine Below.drew ?_ | refine bel_dn ?_ _ | refine bel_set ?_ (Nat.le_refl _) _))) hb1; clear hb1; obtain ⟨c0, c1, c2, c3⟩ := HC.out _ b1)
    refine wp_region_tail (S := (fun w' => Below w.heap.size w w')) 15 (by kernel_rfl) (by kernel_rfl) ?_ (fun hHeld => ?_)
    · (repeat (first | exact Below.refl _ _ | assumption | refine bel_al ?_ _ | refine Below.drew ?_ | refine bel_dn ?_ _ | refine bel_set ?_ (Nat.le_refl _) _))
    repeat (first | ((first | refine tk 0 ?_ rfl ?_ ?_ | refine tk 1 ?_ rfl ?_ ?_ | refine tk 2 ?_ rfl ?_ ?_ | refine tk 3 ?_ rfl ?_ ?_ | refine tk 4 ?_ rfl ?_ ?_ | refine tk 5 ?_ rfl ?_ ?_ | refine tk 6 ?_ rfl ?_ ?_ | refine tk 7 ?_ rfl ?_ ?_ | refine tk 8 ?_ rfl ?_ ?_ | refine tk 9 ?_ rfl ?_ ?_ | refine tk 10 ?_ rfl ?_ ?_ | refine tk 11 ?_ rfl ?_ ?_ | refine tk 12 ?_ rfl ?_ ?_ | refine tk 13 ?_ rfl ?_ ?_); rotate_left; (intro wy hSw; (try dsimp only at hSw); obtain ⟨c0, c1, c2, c3⟩ := HC.out wy hSw; (go_simp <;> with_reducible rfl)); (try simp only [List.getElem_toArray, List.getElem_cons_zero, List.getElem_cons_succ, Act.put, List.setIfInBounds_toArray, List.set_cons_zero, List.set_cons_succ])) | ((first | refine tku 0 rfl ?_ | refine tku 1 rfl ?_ | refine tku 2 rfl ?_ | refine tku 3 rfl ?_ | refine tku 4 rfl ?_ | refine tku 5 rfl ?_ | refine tku 6 rfl ?_ | refine tku 7 rfl ?_ | refine tku 8 rfl ?_ | refine tku 9 rfl ?_ | refine tku 10 rfl ?_ | refine tku 11 rfl ?_ | refine tku 12 rfl ?_ | refine tku 13 rfl ?_); (try simp only [List.getElem_toArray, List.getElem_cons_zero, List.getElem_cons_succ, Act.put, List.setIfInBounds_toArray, List.set_cons_zero, List.set_cons_succ])))
    refine wpT_one (k := 14) rfl (by kernel_rfl) (fun K hK => ?_)
    go_simp
    refine hK.out _ _ ?_ (fun hHeld => ?_)
    · (repeat (first | exact Below.refl _ _ | assumption | refine bel_al ?_ _ | refine Below.drew ?_ | refine bel_dn ?_ _ | refine bel_set ?_ (Nat.le_refl _) _))
    clear hK K
    (try simp only [Act.put, List.setIfInBounds_toArray, List.set_cons_zero, List.set_cons_succ])
    refine wpT_done (by kernel_rfl) ?_
    go_wp2_with fail
    refine bodyPost_ret (v := .tuple #[.agg #[.int .i64 2, .slice none 0 0], .bool false]) (by simp [results, Tryz.results68, go_sem, x0, x1]) rfl ?_
    exact ⟨_, _, _, _, _, rfl, by (repeat (first | exact Below.refl _ _ | assumption | refine bel_al ?_ _ | refine Below.drew ?_ | refine bel_dn ?_ _ | refine bel_set ?_ (Nat.le_refl _) _)), HG.out _ _⟩

set_option maxRecDepth 100000 in
set_option maxHeartbeats 4000000 in
theorem sure_any : RuleP 69 r4 := by
  intro w v x t k st hok hrun _ h _
  have HN := hid (fun w u => isNumber_any w x.op x.A x.B u)
  rcases t with _ | ⟨y, r⟩
  · have g0 := hok
    obtain ⟨b, off, n, cap, rfl, hn, hc1, hc2, u, hcell⟩ := h.one
    have HC := hid hcell
    have hp : 0 < n := by omega
    have hq : (0 : Int) < (n : Int) := by omega
    have hq2 : (n : Int) < 2 := by rw [hn]; simp
    have HG := hid (fun w' nv => show Gives w' 0 nv false (r4 [x]) from rfl)
    clear hn hcell h hrun hok
    go_enter Tryz.func69, Tryz.ntmps69
    go_wp2_with fail
    refine bodyPost_ret (v := .tuple #[.agg #[.int .i64 0, .slice none 0 0], .bool false]) (by simp [results, Tryz.results69, go_sem]) rfl ?_
    exact ⟨_, _, _, _, _, rfl, by (repeat (first | exact Below.refl _ _ | assumption | refine bel_al ?_ _ | refine Below.drew ?_ | refine bel_dn ?_ _ | refine bel_set ?_ (Nat.le_refl _) _)), HG.out _ _⟩
  · have g0 := hok
    obtain ⟨b, off, n, cap, rfl, hn, hc1, hc2, u, hcell⟩ := h.one
    obtain ⟨u2, hcell2⟩ := h.second
    have HC := hid (fun wx hb => show _ ∧ _ from ⟨hcell wx hb, hcell2 wx hb⟩)
    have hp : 0 < n := by omega
    have hp1 : 1 < n := by rw [hn]; simp
    have hq : (0 : Int) < (n : Int) := by omega
    have hq1 : (1 : Int) < (n : Int) := by omega
    have hq2 : ¬ (n : Int) < 2 := by omega
    have HN2 := hid (fun w => HN.out w u)
    clear HN
    by_cases g1 : x.op = 65
    · rw [show decide (x.op = 65) = true from decide_eq_true g1] at HN2
      by_cases g2 : y.op = 13
      · have e2 : ((y.op : Int) == 13) = true := opT (by first | assumption | omega)
        by_cases g3 : x.A = 0
        · have e3 : (x.A == 0) = true := by simp [g3]
          have e5 := e3
          have HG := hid (fun w' nv (hB : BodS w' nv []) => show Gives w' 2 nv true (r4 (x :: y :: r)) from by
            show Gives _ _ _ _ (if x.op = 65 ∧ y.op = 13 then (if x.A = 0 then some (2, []) else some (2, [⟨12, y.A, 0, []⟩])) else none)
            rw [if_pos ⟨g1, g2⟩, if_pos g3]; exact ⟨rfl, rfl, hB⟩)
          clear hn hcell hcell2 h hrun hok
          obtain ⟨⟨c0, c1, c2, c3⟩, d0, d1, d2, d3⟩ := HC.out _ (show Below w.heap.size w (w.alloc (.cells #[.int .i64 0, .slice none 0 0] 127)) by (repeat (first | exact Below.refl _ _ | assumption | refine bel_al ?_ _ | refine Below.drew ?_ | refine bel_dn ?_ _ | refine bel_set ?_ (Nat.le_refl _) _)))
          clear g1 g2 g3
          go_enter Tryz.func69, Tryz.ntmps69
          go_wp2_with (go_at_call 103; refine (HN2.out _).mono ?_; rintro r1 w1 ⟨rfl, hb1⟩; have s1 := bel_lt hb1; obtain ⟨x0, x1, xf⟩ := turn_blk hb1; have b1 := bel_tr (show Below w.heap.size w (w.alloc (.cells #[.int .i64 0, .slice none 0 0] 127)) by (repeat (first | exact Below.refl _ _ | assumption | refine bel_al ?_ _ | refine Below.drew ?_ | refine bel_dn ?_ _ | refine bel_set ?_ (Nat.le_refl _) _))) hb1; clear hb1; obtain ⟨⟨c0, c1, c2, c3⟩, d0, d1, d2, d3⟩ := HC.out _ b1)
          refine bodyPost_ret (v := .tuple #[.agg #[.int .i64 2, .slice none 0 0], .bool true]) (by simp [results, Tryz.results69, go_sem, x0, x1]) rfl ?_
          exact ⟨_, _, _, _, _, rfl, by (repeat (first | exact Below.refl _ _ | assumption | refine bel_al ?_ _ | refine Below.drew ?_ | refine bel_dn ?_ _ | refine bel_set ?_ (Nat.le_refl _) _)), HG.out _ _ (BodS.nil _)⟩
        · have e3 : (x.A == 0) = false := by simp [g3]
          have e5 := e3
          have HG := hid (fun w' nv (hB : BodS w' nv [⟨12, y.A, 0, []⟩]) => show Gives w' 2 nv true (r4 (x :: y :: r)) from by
            show Gives _ _ _ _ (if x.op = 65 ∧ y.op = 13 then (if x.A = 0 then some (2, []) else some (2, [⟨12, y.A, 0, []⟩])) else none)
            rw [if_pos ⟨g1, g2⟩, if_neg g3]; exact ⟨rfl, rfl, hB⟩)
          clear hn hcell hcell2 h hrun hok
          obtain ⟨⟨c0, c1, c2, c3⟩, d0, d1, d2, d3⟩ := HC.out _ (show Below w.heap.size w (w.alloc (.cells #[.int .i64 0, .slice none 0 0] 127)) by (repeat (first | exact Below.refl _ _ | assumption | refine bel_al ?_ _ | refine Below.drew ?_ | refine bel_dn ?_ _ | refine bel_set ?_ (Nat.le_refl _) _)))
          clear g1 g2 g3
          go_enter Tryz.func69, Tryz.ntmps69
          go_wp2_with (go_at_call 103; refine (HN2.out _).mono ?_; rintro r1 w1 ⟨rfl, hb1⟩; have s1 := bel_lt hb1; obtain ⟨x0, x1, xf⟩ := turn_blk hb1; have b1 := bel_tr (show Below w.heap.size w (w.alloc (.cells #[.int .i64 0, .slice none 0 0] 127)) by (repeat (first | exact Below.refl _ _ | assumption | refine bel_al ?_ _ | refine Below.drew ?_ | refine bel_dn ?_ _ | refine bel_set ?_ (Nat.le_refl _) _))) hb1; clear hb1; obtain ⟨⟨c0, c1, c2, c3⟩, d0, d1, d2, d3⟩ := HC.out _ b1)
          obtain ⟨z0, z1⟩ := turn_read x0 x1 (.int .i64 2) (.slice (some ⟨w1.heap.size, 0, none⟩) 1 1)
          refine bodyPost_ret (v := .tuple #[.agg #[.int .i64 2, .slice (some ⟨w1.heap.size, 0, none⟩) 1 1], .bool true]) (by simp [results, Tryz.results69, go_sem, z0, z1]) rfl ?_
          exact ⟨_, _, _, _, _, rfl, by (repeat (first | exact Below.refl _ _ | assumption | refine bel_al ?_ _ | refine Below.drew ?_ | refine bel_dn ?_ _ | refine bel_set ?_ (Nat.le_refl _) _)), HG.out _ _ (BodS.made _ _ _ _ (by simp))⟩
      · have e2 : ((y.op : Int) == 13) = false := opF (by first | assumption | omega)
        have HG := hid (fun w' nv => show Gives w' 0 nv false (r4 (x :: y :: r)) from by
          show Gives _ _ _ _ (if x.op = 65 ∧ y.op = 13 then (if x.A = 0 then some (2, []) else some (2, [⟨12, y.A, 0, []⟩])) else none)
          rw [if_neg (fun h => g2 h.2)]; rfl)
        clear hn hcell hcell2 h hrun hok
        obtain ⟨⟨c0, c1, c2, c3⟩, d0, d1, d2, d3⟩ := HC.out _ (show Below w.heap.size w (w.alloc (.cells #[.int .i64 0, .slice none 0 0] 127)) by (repeat (first | exact Below.refl _ _ | assumption | refine bel_al ?_ _ | refine Below.drew ?_ | refine bel_dn ?_ _ | refine bel_set ?_ (Nat.le_refl _) _)))
        clear g1 g2
        go_enter Tryz.func69, Tryz.ntmps69
        go_wp2_with (go_at_call 103; refine (HN2.out _).mono ?_; rintro r1 w1 ⟨rfl, hb1⟩; have s1 := bel_lt hb1; obtain ⟨x0, x1, xf⟩ := turn_blk hb1; have b1 := bel_tr (show Below w.heap.size w (w.alloc (.cells #[.int .i64 0, .slice none 0 0] 127)) by (repeat (first | exact Below.refl _ _ | assumption | refine bel_al ?_ _ | refine Below.drew ?_ | refine bel_dn ?_ _ | refine bel_set ?_ (Nat.le_refl _) _))) hb1; clear hb1; obtain ⟨⟨c0, c1, c2, c3⟩, d0, d1, d2, d3⟩ := HC.out _ b1)
        refine bodyPost_ret (v := .tuple #[.agg #[.int .i64 0, .slice none 0 0], .bool false]) (by simp [results, Tryz.results69, go_sem, x0, x1]) rfl ?_
        exact ⟨_, _, _, _, _, rfl, by (repeat (first | exact Below.refl _ _ | assumption | refine bel_al ?_ _ | refine Below.drew ?_ | refine bel_dn ?_ _ | refine bel_set ?_ (Nat.le_refl _) _)), HG.out _ _⟩
    · rw [show decide (x.op = 65) = false from decide_eq_false g1] at HN2
      have HG := hid (fun w' nv => show Gives w' 0 nv false (r4 (x :: y :: r)) from by
        show Gives _ _ _ _ (if x.op = 65 ∧ y.op = 13 then (if x.A = 0 then some (2, []) else some (2, [⟨12, y.A, 0, []⟩])) else none)
        rw [if_neg (fun h => g1 h.1)]; rfl)
      clear hn hcell hcell2 h hrun hok
      obtain ⟨⟨c0, c1, c2, c3⟩, d0, d1, d2, d3⟩ := HC.out _ (show Below w.heap.size w (w.alloc (.cells #[.int .i64 0, .slice none 0 0] 127)) by (repeat (first | exact Below.refl _ _ | assumption | refine bel_al ?_ _ | refine Below.drew ?_ | refine bel_dn ?_ _ | refine bel_set ?_ (Nat.le_refl _) _)))
      clear g1
      go_enter Tryz.func69, Tryz.ntmps69
      go_wp2_with (go_at_call 103; refine (HN2.out _).mono ?_; rintro r1 w1 ⟨rfl, hb1⟩; have s1 := bel_lt hb1; obtain ⟨x0, x1, xf⟩ := turn_blk hb1; have b1 := bel_tr (show Below w.heap.size w (w.alloc (.cells #[.int .i64 0, .slice none 0 0] 127)) by (repeat (first | exact Below.refl _ _ | assumption | refine bel_al ?_ _ | refine Below.drew ?_ | refine bel_dn ?_ _ | refine bel_set ?_ (Nat.le_refl _) _))) hb1; clear hb1; obtain ⟨⟨c0, c1, c2, c3⟩, d0, d1, d2, d3⟩ := HC.out _ b1)
      refine bodyPost_ret (v := .tuple #[.agg #[.int .i64 0, .slice none 0 0], .bool false]) (by simp [results, Tryz.results69, go_sem, x0, x1]) rfl ?_
      exact ⟨_, _, _, _, _, rfl, by (repeat (first | exact Below.refl _ _ | assumption | refine bel_al ?_ _ | refine Below.drew ?_ | refine bel_dn ?_ _ | refine bel_set ?_ (Nat.le_refl _) _)), HG.out _ _⟩
end Go.Proofs.YtakfineljffoaaaGreatDoor
