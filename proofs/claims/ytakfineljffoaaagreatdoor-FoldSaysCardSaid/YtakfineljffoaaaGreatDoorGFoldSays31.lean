/-
  FOLDED BODIES: the program's rule dead. No condition.
-/
import Derived.Test.YtakfineljffoaaaGreatDoorGFoldSays28
namespace Go.Proofs.YtakfineljffoaaaGreatDoor
open Go.RowKit Go.Lib

theorem spanA_le (l : List It) : ∀ (d : Int) (i : Nat), spanA d i l ≤ i + l.length := by
 induction l with
 | nil => intro d i; exact Nat.le_refl _
 | cons x t ih =>
  intro d i
  rw [spanA]
  generalize (if x.op = 2 ∨ x.op = 3 ∨ x.op = 4 then d + 1 else if x.op = 11 then d - 1 else d) = e
  have := ih e (i + 1)
  simp only [List.length_cons]
  by_cases h : e = 0
  ·rw [if_pos h]; omega
  ·rw [if_neg h]; omega
theorem span_le (l : List It) : spanM l ≤ l.length := by
 have := spanA_le l 0 0
 unfold spanM
 omega

set_option maxRecDepth 100000 in
set_option maxHeartbeats 4000000 in
theorem dead_any : RuleP 70 r5 := by
 intro w v x t k st hok hrun _ h h200
 by_cases g1 : x.op = 0 ∨ x.op = 12 ∨ x.op = 14 ∨ x.op = 15
 ·obtain ⟨y, r, rfl⟩ := more_of hrun (by omega)
  obtain ⟨b, off, n, cap, rfl, hn, hc1, hc2, u, hcell⟩ := h.one
  obtain ⟨u2, hcell2⟩ := h.second
  have HC := hid (fun wx hb => show _ ∧ _ from ⟨hcell wx hb, hcell2 wx hb⟩)
  have hp : 0 < n := by omega
  have hp1 : 1 < n := by rw [hn]; simp
  have hq : (0 : Int) < (n : Int) := by omega
  have hq1 : (1 : Int) < (n : Int) := by omega
  have hq2 : ¬ (n : Int) < 2 := by omega
  by_cases gy : y.op = 11
  ·have e11 : ((y.op : Int) == 11) = true := opT (show y.op = 11 by omega)
   have HG := hid (fun w' nv => show Gives w' 0 nv false (r5 (x :: y :: r)) from by
    show Gives _ _ _ _ (if (x.op = 0 ∨ x.op = 12 ∨ x.op = 14 ∨ x.op = 15) ∧ y.op ≠ 5 ∧ y.op ≠ 11 then some (1 + spanM (y :: r), [x]) else none)
    rw [if_neg (fun h => h.2.2 gy)]; rfl)
   clear hn hcell hcell2 h hrun hok
   have hb0 : Below w.heap.size w (w.alloc (.cells #[.int .i64 0, .slice none 0 0] 127)) := by (repeat (first | exact Below.refl _ _ | assumption | refine bel_al ?_ _ | refine Below.drew ?_ | refine bel_dn ?_ _ | refine bel_set ?_ (Nat.le_refl _) _))
   obtain ⟨⟨c0, c1, c2, c3⟩, d0, d1, d2, d3⟩ := HC.out _ hb0
   clear gy
   by_cases h12 : x.op = 12
   ·have z0 := h12
    clear z0
    have x12e : ((x.op : Int) == 12) = true := opT (show x.op = 12 by omega)
    clear h12
    clear g1
    go_enter Tryz.func70, Tryz.ntmps70
    go_wp2_with fail
    refine bodyPost_ret (v := .tuple #[.agg #[.int .i64 0, .slice none 0 0], .bool false]) (by simp [results, Tryz.results70, go_sem]) rfl ?_
    exact ⟨_, _, _, _, _, rfl, by (repeat (first | exact Below.refl _ _ | assumption | refine bel_al ?_ _ | refine Below.drew ?_ | refine bel_dn ?_ _ | refine bel_set ?_ (Nat.le_refl _) _)), HG.out _ _⟩
   ·by_cases h14 : x.op = 14
    ·have z0 := h14
     clear z0
     have x12e : ((x.op : Int) == 12) = false := opF (show ¬ x.op = 12 by omega)
     have x14e : ((x.op : Int) == 14) = true := opT (show x.op = 14 by omega)
     clear h12 h14
     clear g1
     go_enter Tryz.func70, Tryz.ntmps70
     go_wp2_with fail
     refine bodyPost_ret (v := .tuple #[.agg #[.int .i64 0, .slice none 0 0], .bool false]) (by simp [results, Tryz.results70, go_sem]) rfl ?_
     exact ⟨_, _, _, _, _, rfl, by (repeat (first | exact Below.refl _ _ | assumption | refine bel_al ?_ _ | refine Below.drew ?_ | refine bel_dn ?_ _ | refine bel_set ?_ (Nat.le_refl _) _)), HG.out _ _⟩
    ·by_cases h15 : x.op = 15
     ·have z0 := h15
      clear z0
      have x12e : ((x.op : Int) == 12) = false := opF (show ¬ x.op = 12 by omega)
      have x14e : ((x.op : Int) == 14) = false := opF (show ¬ x.op = 14 by omega)
      have x15e : ((x.op : Int) == 15) = true := opT (show x.op = 15 by omega)
      clear h12 h14 h15
      clear g1
      go_enter Tryz.func70, Tryz.ntmps70
      go_wp2_with fail
      refine bodyPost_ret (v := .tuple #[.agg #[.int .i64 0, .slice none 0 0], .bool false]) (by simp [results, Tryz.results70, go_sem]) rfl ?_
      exact ⟨_, _, _, _, _, rfl, by (repeat (first | exact Below.refl _ _ | assumption | refine bel_al ?_ _ | refine Below.drew ?_ | refine bel_dn ?_ _ | refine bel_set ?_ (Nat.le_refl _) _)), HG.out _ _⟩
     ·have z0 := h15
      clear z0
      have x12e : ((x.op : Int) == 12) = false := opF (show ¬ x.op = 12 by omega)
      have x14e : ((x.op : Int) == 14) = false := opF (show ¬ x.op = 14 by omega)
      have x15e : ((x.op : Int) == 15) = false := opF (show ¬ x.op = 15 by omega)
      have x0e : ((x.op : Int) == 0) = true := opT (show x.op = 0 by omega)
      clear h12 h14 h15
      clear g1
      go_enter Tryz.func70, Tryz.ntmps70
      go_wp2_with fail
      refine bodyPost_ret (v := .tuple #[.agg #[.int .i64 0, .slice none 0 0], .bool false]) (by simp [results, Tryz.results70, go_sem]) rfl ?_
      exact ⟨_, _, _, _, _, rfl, by (repeat (first | exact Below.refl _ _ | assumption | refine bel_al ?_ _ | refine Below.drew ?_ | refine bel_dn ?_ _ | refine bel_set ?_ (Nat.le_refl _) _)), HG.out _ _⟩
  ·by_cases gz : y.op = 5
   ·have e11 : ((y.op : Int) == 11) = false := opF (show ¬ y.op = 11 by omega)
    have e5 : ((y.op : Int) == 5) = true := opT (show y.op = 5 by omega)
    have HG := hid (fun w' nv => show Gives w' 0 nv false (r5 (x :: y :: r)) from by
     show Gives _ _ _ _ (if (x.op = 0 ∨ x.op = 12 ∨ x.op = 14 ∨ x.op = 15) ∧ y.op ≠ 5 ∧ y.op ≠ 11 then some (1 + spanM (y :: r), [x]) else none)
     rw [if_neg (fun h => h.2.1 gz)]; rfl)
    clear hn hcell hcell2 h hrun hok
    have hb0 : Below w.heap.size w (w.alloc (.cells #[.int .i64 0, .slice none 0 0] 127)) := by (repeat (first | exact Below.refl _ _ | assumption | refine bel_al ?_ _ | refine Below.drew ?_ | refine bel_dn ?_ _ | refine bel_set ?_ (Nat.le_refl _) _))
    obtain ⟨⟨c0, c1, c2, c3⟩, d0, d1, d2, d3⟩ := HC.out _ hb0
    clear gy gz
    by_cases h12 : x.op = 12
    ·have z0 := h12
     clear z0
     have x12e : ((x.op : Int) == 12) = true := opT (show x.op = 12 by omega)
     clear h12
     clear g1
     go_enter Tryz.func70, Tryz.ntmps70
     go_wp2_with fail
     refine bodyPost_ret (v := .tuple #[.agg #[.int .i64 0, .slice none 0 0], .bool false]) (by simp [results, Tryz.results70, go_sem]) rfl ?_
     exact ⟨_, _, _, _, _, rfl, by (repeat (first | exact Below.refl _ _ | assumption | refine bel_al ?_ _ | refine Below.drew ?_ | refine bel_dn ?_ _ | refine bel_set ?_ (Nat.le_refl _) _)), HG.out _ _⟩
    ·by_cases h14 : x.op = 14
     ·have z0 := h14
      clear z0
      have x12e : ((x.op : Int) == 12) = false := opF (show ¬ x.op = 12 by omega)
      have x14e : ((x.op : Int) == 14) = true := opT (show x.op = 14 by omega)
      clear h12 h14
      clear g1
      go_enter Tryz.func70, Tryz.ntmps70
      go_wp2_with fail
      refine bodyPost_ret (v := .tuple #[.agg #[.int .i64 0, .slice none 0 0], .bool false]) (by simp [results, Tryz.results70, go_sem]) rfl ?_
      exact ⟨_, _, _, _, _, rfl, by (repeat (first | exact Below.refl _ _ | assumption | refine bel_al ?_ _ | refine Below.drew ?_ | refine bel_dn ?_ _ | refine bel_set ?_ (Nat.le_refl _) _)), HG.out _ _⟩
     ·by_cases h15 : x.op = 15
      ·have z0 := h15
       clear z0
       have x12e : ((x.op : Int) == 12) = false := opF (show ¬ x.op = 12 by omega)
       have x14e : ((x.op : Int) == 14) = false := opF (show ¬ x.op = 14 by omega)
       have x15e : ((x.op : Int) == 15) = true := opT (show x.op = 15 by omega)
       clear h12 h14 h15
       clear g1
       go_enter Tryz.func70, Tryz.ntmps70
       go_wp2_with fail
       refine bodyPost_ret (v := .tuple #[.agg #[.int .i64 0, .slice none 0 0], .bool false]) (by simp [results, Tryz.results70, go_sem]) rfl ?_
       exact ⟨_, _, _, _, _, rfl, by (repeat (first | exact Below.refl _ _ | assumption | refine bel_al ?_ _ | refine Below.drew ?_ | refine bel_dn ?_ _ | refine bel_set ?_ (Nat.le_refl _) _)), HG.out _ _⟩
      ·have z0 := h15
       clear z0
       have x12e : ((x.op : Int) == 12) = false := opF (show ¬ x.op = 12 by omega)
       have x14e : ((x.op : Int) == 14) = false := opF (show ¬ x.op = 14 by omega)
       have x15e : ((x.op : Int) == 15) = false := opF (show ¬ x.op = 15 by omega)
       have x0e : ((x.op : Int) == 0) = true := opT (show x.op = 0 by omega)
       clear h12 h14 h15
       clear g1
       go_enter Tryz.func70, Tryz.ntmps70
       go_wp2_with fail
       refine bodyPost_ret (v := .tuple #[.agg #[.int .i64 0, .slice none 0 0], .bool false]) (by simp [results, Tryz.results70, go_sem]) rfl ?_
       exact ⟨_, _, _, _, _, rfl, by (repeat (first | exact Below.refl _ _ | assumption | refine bel_al ?_ _ | refine Below.drew ?_ | refine bel_dn ?_ _ | refine bel_set ?_ (Nat.le_refl _) _)), HG.out _ _⟩
   ·have e11 : ((y.op : Int) == 11) = false := opF (show ¬ y.op = 11 by omega)
    have e5 : ((y.op : Int) == 5) = false := opF (show ¬ y.op = 5 by omega)
    obtain ⟨o, ho, hsl⟩ := run_lo elem_insv b off n cap 1 .i64 1 rfl (by omega)
    have hsh := fun w => run_hi elem_insv b off n cap 1 .i64 1 rfl (by omega) w
    have HB1 := h.drop 1 (by simp) ho
    have HX1 := h.take 1 (by simp)
    simp only [List.drop_succ_cons, List.drop_zero, List.take_succ_cons, List.take_zero] at HB1 HX1
    have HSp := hid (fun wx (hb : Below w.heap.size w wx) => span_any wx _ _ (HB1.below hb) (by simp only [List.length_cons] at h200 ⊢; omega))
    have hN : spanM (y :: r) ≤ 200 := Nat.le_trans (span_le _) (by simp only [List.length_cons] at h200 ⊢; omega)
    have HG := hid (fun w' (hb : Below w.heap.size w w') => show Gives w' (1 + (spanM (y :: r) : Int)) (.slice (some ⟨b, off, none⟩) 1 cap) true (r5 (x :: y :: r)) from by
     show Gives _ _ _ _ (if (x.op = 0 ∨ x.op = 12 ∨ x.op = 14 ∨ x.op = 15) ∧ y.op ≠ 5 ∧ y.op ≠ 11 then some (1 + spanM (y :: r), [x]) else none)
     rw [if_pos ⟨g1, gz, gy⟩]; exact ⟨rfl, by simp, HX1.below hb⟩)
    generalize spanM (y :: r) = N at *
    have hwr : IntKind.i64.wrap (1 + (N : Int)) = 1 + (N : Int) := IntWalk.i64_in _ (by omega)
    clear HB1 HX1 ho hN
    clear hn hcell hcell2 h hrun hok
    have hb0 : Below w.heap.size w (w.alloc (.cells #[.int .i64 0, .slice none 0 0] 127)) := by (repeat (first | exact Below.refl _ _ | assumption | refine bel_al ?_ _ | refine Below.drew ?_ | refine bel_dn ?_ _ | refine bel_set ?_ (Nat.le_refl _) _))
    obtain ⟨⟨c0, c1, c2, c3⟩, d0, d1, d2, d3⟩ := HC.out _ hb0
    obtain ⟨x0, x1, xf⟩ := turn_blk (Below.refl _ (w.alloc (.cells #[.int .i64 0, .slice none 0 0] 127)))
    clear gy gz
    by_cases h12 : x.op = 12
    ·have z0 := h12
     clear z0
     have x12e : ((x.op : Int) == 12) = true := opT (show x.op = 12 by omega)
     clear h12
     clear g1
     go_enter Tryz.func70, Tryz.ntmps70
     go_wp2_with fail
     refine wp_region_tail (S := (fun w' => Below w.heap.size w w')) 8 (by kernel_rfl) (by kernel_rfl) ?_ (fun hHeld => ?_)
     ·(repeat (first | exact Below.refl _ _ | assumption | refine bel_al ?_ _ | refine Below.drew ?_ | refine bel_dn ?_ _ | refine bel_set ?_ (Nat.le_refl _) _))
     repeat (first | ((first | refine tk 0 ?_ rfl ?_ ?_ | refine tk 1 ?_ rfl ?_ ?_ | refine tk 3 ?_ rfl ?_ ?_ | refine tk 4 ?_ rfl ?_ ?_ | refine tk 5 ?_ rfl ?_ ?_ | refine tk 6 ?_ rfl ?_ ?_); rotate_left; (intro wy hSw; (try dsimp only at hSw); (go_simp <;> with_reducible rfl)); (try simp only [List.getElem_toArray, List.getElem_cons_zero, List.getElem_cons_succ, Act.put, List.setIfInBounds_toArray, List.set_cons_zero, List.set_cons_succ])))
     refine wpT_one (k := 2) rfl (by kernel_rfl) (fun K hK => ?_)
     go_simp
     refine (HSp.out _ (by (repeat (first | exact Below.refl _ _ | assumption | refine bel_al ?_ _ | refine Below.drew ?_ | refine bel_dn ?_ _ | refine bel_set ?_ (Nat.le_refl _) _)))).mono ?_
     rintro r1 w1 ⟨rfl, hb1⟩
     have g1 := bel_tr (w := (w.alloc (.cells #[.int .i64 0, .slice none 0 0] 127))) (by (repeat (first | exact Below.refl _ _ | assumption | refine bel_al ?_ _ | refine Below.drew ?_ | refine bel_dn ?_ _ | refine bel_set ?_ (Nat.le_refl _) _))) hb1
     clear hb1 x0 x1 xf
     have s1 := bel_lt g1
     have b1 := bel_tr hb0 g1
     obtain ⟨x0, x1, xf⟩ := turn_blk g1
     obtain ⟨⟨c0, c1, c2, c3⟩, d0, d1, d2, d3⟩ := HC.out _ b1
     refine hK.out _ _ ?_ (fun hHeld => ?_)
     ·exact b1
     clear hK K
     (try simp only [Act.put, List.setIfInBounds_toArray, List.set_cons_zero, List.set_cons_succ])
     repeat (first | ((first | refine tk 0 ?_ rfl ?_ ?_ | refine tk 1 ?_ rfl ?_ ?_ | refine tk 3 ?_ rfl ?_ ?_ | refine tk 4 ?_ rfl ?_ ?_ | refine tk 5 ?_ rfl ?_ ?_ | refine tk 6 ?_ rfl ?_ ?_); rotate_left; (intro wy hSw; (try dsimp only at hSw); (go_simp <;> with_reducible rfl)); (try simp only [List.getElem_toArray, List.getElem_cons_zero, List.getElem_cons_succ, Act.put, List.setIfInBounds_toArray, List.set_cons_zero, List.set_cons_succ])))
     refine wpT_one (k := 7) rfl (by kernel_rfl) (fun K hK => ?_)
     go_simp
     refine hK.out _ _ ?_ (fun hHeld => ?_)
     ·(repeat (first | exact Below.refl _ _ | assumption | refine bel_al ?_ _ | refine Below.drew ?_ | refine bel_dn ?_ _ | refine bel_set ?_ (Nat.le_refl _) _))
     clear hK K
     (try simp only [Act.put, List.setIfInBounds_toArray, List.set_cons_zero, List.set_cons_succ])
     refine wpT_done (by kernel_rfl) ?_
     go_wp2_with fail
     refine bodyPost_ret (v := .tuple #[.agg #[.int .i64 (1 + (N : Int)), .slice (some ⟨b, off, none⟩) 1 cap], .bool true]) (by simp [results, Tryz.results70, go_sem, x0, x1]) rfl ?_
     exact ⟨_, _, _, _, _, rfl, by (repeat (first | exact Below.refl _ _ | assumption | refine bel_al ?_ _ | refine Below.drew ?_ | refine bel_dn ?_ _ | refine bel_set ?_ (Nat.le_refl _) _)), HG.out _ (by (repeat (first | exact Below.refl _ _ | assumption | refine bel_al ?_ _ | refine Below.drew ?_ | refine bel_dn ?_ _ | refine bel_set ?_ (Nat.le_refl _) _)))⟩
    ·by_cases h14 : x.op = 14
     ·have z0 := h14
      clear z0
      have x12e : ((x.op : Int) == 12) = false := opF (show ¬ x.op = 12 by omega)
      have x14e : ((x.op : Int) == 14) = true := opT (show x.op = 14 by omega)
      clear h12 h14
      clear g1
      go_enter Tryz.func70, Tryz.ntmps70
      go_wp2_with fail
      refine wp_region_tail (S := (fun w' => Below w.heap.size w w')) 8 (by kernel_rfl) (by kernel_rfl) ?_ (fun hHeld => ?_)
      ·(repeat (first | exact Below.refl _ _ | assumption | refine bel_al ?_ _ | refine Below.drew ?_ | refine bel_dn ?_ _ | refine bel_set ?_ (Nat.le_refl _) _))
      repeat (first | ((first | refine tk 0 ?_ rfl ?_ ?_ | refine tk 1 ?_ rfl ?_ ?_ | refine tk 3 ?_ rfl ?_ ?_ | refine tk 4 ?_ rfl ?_ ?_ | refine tk 5 ?_ rfl ?_ ?_ | refine tk 6 ?_ rfl ?_ ?_); rotate_left; (intro wy hSw; (try dsimp only at hSw); (go_simp <;> with_reducible rfl)); (try simp only [List.getElem_toArray, List.getElem_cons_zero, List.getElem_cons_succ, Act.put, List.setIfInBounds_toArray, List.set_cons_zero, List.set_cons_succ])))
      refine wpT_one (k := 2) rfl (by kernel_rfl) (fun K hK => ?_)
      go_simp
      refine (HSp.out _ (by (repeat (first | exact Below.refl _ _ | assumption | refine bel_al ?_ _ | refine Below.drew ?_ | refine bel_dn ?_ _ | refine bel_set ?_ (Nat.le_refl _) _)))).mono ?_
      rintro r1 w1 ⟨rfl, hb1⟩
      have g1 := bel_tr (w := (w.alloc (.cells #[.int .i64 0, .slice none 0 0] 127))) (by (repeat (first | exact Below.refl _ _ | assumption | refine bel_al ?_ _ | refine Below.drew ?_ | refine bel_dn ?_ _ | refine bel_set ?_ (Nat.le_refl _) _))) hb1
      clear hb1 x0 x1 xf
      have s1 := bel_lt g1
      have b1 := bel_tr hb0 g1
      obtain ⟨x0, x1, xf⟩ := turn_blk g1
      obtain ⟨⟨c0, c1, c2, c3⟩, d0, d1, d2, d3⟩ := HC.out _ b1
      refine hK.out _ _ ?_ (fun hHeld => ?_)
      ·exact b1
      clear hK K
      (try simp only [Act.put, List.setIfInBounds_toArray, List.set_cons_zero, List.set_cons_succ])
      repeat (first | ((first | refine tk 0 ?_ rfl ?_ ?_ | refine tk 1 ?_ rfl ?_ ?_ | refine tk 3 ?_ rfl ?_ ?_ | refine tk 4 ?_ rfl ?_ ?_ | refine tk 5 ?_ rfl ?_ ?_ | refine tk 6 ?_ rfl ?_ ?_); rotate_left; (intro wy hSw; (try dsimp only at hSw); (go_simp <;> with_reducible rfl)); (try simp only [List.getElem_toArray, List.getElem_cons_zero, List.getElem_cons_succ, Act.put, List.setIfInBounds_toArray, List.set_cons_zero, List.set_cons_succ])))
      refine wpT_one (k := 7) rfl (by kernel_rfl) (fun K hK => ?_)
      go_simp
      refine hK.out _ _ ?_ (fun hHeld => ?_)
      ·(repeat (first | exact Below.refl _ _ | assumption | refine bel_al ?_ _ | refine Below.drew ?_ | refine bel_dn ?_ _ | refine bel_set ?_ (Nat.le_refl _) _))
      clear hK K
      (try simp only [Act.put, List.setIfInBounds_toArray, List.set_cons_zero, List.set_cons_succ])
      refine wpT_done (by kernel_rfl) ?_
      go_wp2_with fail
      refine bodyPost_ret (v := .tuple #[.agg #[.int .i64 (1 + (N : Int)), .slice (some ⟨b, off, none⟩) 1 cap], .bool true]) (by simp [results, Tryz.results70, go_sem, x0, x1]) rfl ?_
      exact ⟨_, _, _, _, _, rfl, by (repeat (first | exact Below.refl _ _ | assumption | refine bel_al ?_ _ | refine Below.drew ?_ | refine bel_dn ?_ _ | refine bel_set ?_ (Nat.le_refl _) _)), HG.out _ (by (repeat (first | exact Below.refl _ _ | assumption | refine bel_al ?_ _ | refine Below.drew ?_ | refine bel_dn ?_ _ | refine bel_set ?_ (Nat.le_refl _) _)))⟩
     ·by_cases h15 : x.op = 15
      ·have z0 := h15
       clear z0
       have x12e : ((x.op : Int) == 12) = false := opF (show ¬ x.op = 12 by omega)
       have x14e : ((x.op : Int) == 14) = false := opF (show ¬ x.op = 14 by omega)
       have x15e : ((x.op : Int) == 15) = true := opT (show x.op = 15 by omega)
       clear h12 h14 h15
       clear g1
       go_enter Tryz.func70, Tryz.ntmps70
       go_wp2_with fail
       refine wp_region_tail (S := (fun w' => Below w.heap.size w w')) 8 (by kernel_rfl) (by kernel_rfl) ?_ (fun hHeld => ?_)
       ·(repeat (first | exact Below.refl _ _ | assumption | refine bel_al ?_ _ | refine Below.drew ?_ | refine bel_dn ?_ _ | refine bel_set ?_ (Nat.le_refl _) _))
       repeat (first | ((first | refine tk 0 ?_ rfl ?_ ?_ | refine tk 1 ?_ rfl ?_ ?_ | refine tk 3 ?_ rfl ?_ ?_ | refine tk 4 ?_ rfl ?_ ?_ | refine tk 5 ?_ rfl ?_ ?_ | refine tk 6 ?_ rfl ?_ ?_); rotate_left; (intro wy hSw; (try dsimp only at hSw); (go_simp <;> with_reducible rfl)); (try simp only [List.getElem_toArray, List.getElem_cons_zero, List.getElem_cons_succ, Act.put, List.setIfInBounds_toArray, List.set_cons_zero, List.set_cons_succ])))
       refine wpT_one (k := 2) rfl (by kernel_rfl) (fun K hK => ?_)
       go_simp
       refine (HSp.out _ (by (repeat (first | exact Below.refl _ _ | assumption | refine bel_al ?_ _ | refine Below.drew ?_ | refine bel_dn ?_ _ | refine bel_set ?_ (Nat.le_refl _) _)))).mono ?_
       rintro r1 w1 ⟨rfl, hb1⟩
       have g1 := bel_tr (w := (w.alloc (.cells #[.int .i64 0, .slice none 0 0] 127))) (by (repeat (first | exact Below.refl _ _ | assumption | refine bel_al ?_ _ | refine Below.drew ?_ | refine bel_dn ?_ _ | refine bel_set ?_ (Nat.le_refl _) _))) hb1
       clear hb1 x0 x1 xf
       have s1 := bel_lt g1
       have b1 := bel_tr hb0 g1
       obtain ⟨x0, x1, xf⟩ := turn_blk g1
       obtain ⟨⟨c0, c1, c2, c3⟩, d0, d1, d2, d3⟩ := HC.out _ b1
       refine hK.out _ _ ?_ (fun hHeld => ?_)
       ·exact b1
       clear hK K
       (try simp only [Act.put, List.setIfInBounds_toArray, List.set_cons_zero, List.set_cons_succ])
       repeat (first | ((first | refine tk 0 ?_ rfl ?_ ?_ | refine tk 1 ?_ rfl ?_ ?_ | refine tk 3 ?_ rfl ?_ ?_ | refine tk 4 ?_ rfl ?_ ?_ | refine tk 5 ?_ rfl ?_ ?_ | refine tk 6 ?_ rfl ?_ ?_); rotate_left; (intro wy hSw; (try dsimp only at hSw); (go_simp <;> with_reducible rfl)); (try simp only [List.getElem_toArray, List.getElem_cons_zero, List.getElem_cons_succ, Act.put, List.setIfInBounds_toArray, List.set_cons_zero, List.set_cons_succ])))
       refine wpT_one (k := 7) rfl (by kernel_rfl) (fun K hK => ?_)
       go_simp
       refine hK.out _ _ ?_ (fun hHeld => ?_)
       ·(repeat (first | exact Below.refl _ _ | assumption | refine bel_al ?_ _ | refine Below.drew ?_ | refine bel_dn ?_ _ | refine bel_set ?_ (Nat.le_refl _) _))
       clear hK K
       (try simp only [Act.put, List.setIfInBounds_toArray, List.set_cons_zero, List.set_cons_succ])
       refine wpT_done (by kernel_rfl) ?_
       go_wp2_with fail
       refine bodyPost_ret (v := .tuple #[.agg #[.int .i64 (1 + (N : Int)), .slice (some ⟨b, off, none⟩) 1 cap], .bool true]) (by simp [results, Tryz.results70, go_sem, x0, x1]) rfl ?_
       exact ⟨_, _, _, _, _, rfl, by (repeat (first | exact Below.refl _ _ | assumption | refine bel_al ?_ _ | refine Below.drew ?_ | refine bel_dn ?_ _ | refine bel_set ?_ (Nat.le_refl _) _)), HG.out _ (by (repeat (first | exact Below.refl _ _ | assumption | refine bel_al ?_ _ | refine Below.drew ?_ | refine bel_dn ?_ _ | refine bel_set ?_ (Nat.le_refl _) _)))⟩
      ·have z0 := h15
       clear z0
       have x12e : ((x.op : Int) == 12) = false := opF (show ¬ x.op = 12 by omega)
       have x14e : ((x.op : Int) == 14) = false := opF (show ¬ x.op = 14 by omega)
       have x15e : ((x.op : Int) == 15) = false := opF (show ¬ x.op = 15 by omega)
       have x0e : ((x.op : Int) == 0) = true := opT (show x.op = 0 by omega)
       clear h12 h14 h15
       clear g1
       go_enter Tryz.func70, Tryz.ntmps70
       go_wp2_with fail
       refine wp_region_tail (S := (fun w' => Below w.heap.size w w')) 8 (by kernel_rfl) (by kernel_rfl) ?_ (fun hHeld => ?_)
       ·(repeat (first | exact Below.refl _ _ | assumption | refine bel_al ?_ _ | refine Below.drew ?_ | refine bel_dn ?_ _ | refine bel_set ?_ (Nat.le_refl _) _))
       repeat (first | ((first | refine tk 0 ?_ rfl ?_ ?_ | refine tk 1 ?_ rfl ?_ ?_ | refine tk 3 ?_ rfl ?_ ?_ | refine tk 4 ?_ rfl ?_ ?_ | refine tk 5 ?_ rfl ?_ ?_ | refine tk 6 ?_ rfl ?_ ?_); rotate_left; (intro wy hSw; (try dsimp only at hSw); (go_simp <;> with_reducible rfl)); (try simp only [List.getElem_toArray, List.getElem_cons_zero, List.getElem_cons_succ, Act.put, List.setIfInBounds_toArray, List.set_cons_zero, List.set_cons_succ])))
       refine wpT_one (k := 2) rfl (by kernel_rfl) (fun K hK => ?_)
       go_simp
       refine (HSp.out _ (by (repeat (first | exact Below.refl _ _ | assumption | refine bel_al ?_ _ | refine Below.drew ?_ | refine bel_dn ?_ _ | refine bel_set ?_ (Nat.le_refl _) _)))).mono ?_
       rintro r1 w1 ⟨rfl, hb1⟩
       have g1 := bel_tr (w := (w.alloc (.cells #[.int .i64 0, .slice none 0 0] 127))) (by (repeat (first | exact Below.refl _ _ | assumption | refine bel_al ?_ _ | refine Below.drew ?_ | refine bel_dn ?_ _ | refine bel_set ?_ (Nat.le_refl _) _))) hb1
       clear hb1 x0 x1 xf
       have s1 := bel_lt g1
       have b1 := bel_tr hb0 g1
       obtain ⟨x0, x1, xf⟩ := turn_blk g1
       obtain ⟨⟨c0, c1, c2, c3⟩, d0, d1, d2, d3⟩ := HC.out _ b1
       refine hK.out _ _ ?_ (fun hHeld => ?_)
       ·exact b1
       clear hK K
       (try simp only [Act.put, List.setIfInBounds_toArray, List.set_cons_zero, List.set_cons_succ])
       repeat (first | ((first | refine tk 0 ?_ rfl ?_ ?_ | refine tk 1 ?_ rfl ?_ ?_ | refine tk 3 ?_ rfl ?_ ?_ | refine tk 4 ?_ rfl ?_ ?_ | refine tk 5 ?_ rfl ?_ ?_ | refine tk 6 ?_ rfl ?_ ?_); rotate_left; (intro wy hSw; (try dsimp only at hSw); (go_simp <;> with_reducible rfl)); (try simp only [List.getElem_toArray, List.getElem_cons_zero, List.getElem_cons_succ, Act.put, List.setIfInBounds_toArray, List.set_cons_zero, List.set_cons_succ])))
       refine wpT_one (k := 7) rfl (by kernel_rfl) (fun K hK => ?_)
       go_simp
       refine hK.out _ _ ?_ (fun hHeld => ?_)
       ·(repeat (first | exact Below.refl _ _ | assumption | refine bel_al ?_ _ | refine Below.drew ?_ | refine bel_dn ?_ _ | refine bel_set ?_ (Nat.le_refl _) _))
       clear hK K
       (try simp only [Act.put, List.setIfInBounds_toArray, List.set_cons_zero, List.set_cons_succ])
       refine wpT_done (by kernel_rfl) ?_
       go_wp2_with fail
       refine bodyPost_ret (v := .tuple #[.agg #[.int .i64 (1 + (N : Int)), .slice (some ⟨b, off, none⟩) 1 cap], .bool true]) (by simp [results, Tryz.results70, go_sem, x0, x1]) rfl ?_
       exact ⟨_, _, _, _, _, rfl, by (repeat (first | exact Below.refl _ _ | assumption | refine bel_al ?_ _ | refine Below.drew ?_ | refine bel_dn ?_ _ | refine bel_set ?_ (Nat.le_refl _) _)), HG.out _ (by (repeat (first | exact Below.refl _ _ | assumption | refine bel_al ?_ _ | refine Below.drew ?_ | refine bel_dn ?_ _ | refine bel_set ?_ (Nat.le_refl _) _)))⟩
 ·have g0 := g1
  have x0e : ((x.op : Int) == 0) = false := opF (show ¬ x.op = 0 by omega)
  have x12e : ((x.op : Int) == 12) = false := opF (show ¬ x.op = 12 by omega)
  have x14e : ((x.op : Int) == 14) = false := opF (show ¬ x.op = 14 by omega)
  have x15e : ((x.op : Int) == 15) = false := opF (show ¬ x.op = 15 by omega)
  have HG := hid (fun w' nv => show Gives w' 0 nv false (r5 (x :: t)) from by
   cases t with
   | nil => rfl
   | cons y r =>
    show Gives _ _ _ _ (if (x.op = 0 ∨ x.op = 12 ∨ x.op = 14 ∨ x.op = 15) ∧ y.op ≠ 5 ∧ y.op ≠ 11 then some (1 + spanM (y :: r), [x]) else none)
    rw [if_neg (fun h => g1 h.1)]; rfl)
  obtain ⟨b, off, n, cap, rfl, hn, hc1, hc2, u, hcell⟩ := h.one
  have HC := hid hcell
  have hp : 0 < n := by omega
  have hq : (0 : Int) < (n : Int) := by omega
  clear hn hcell h hrun hok
  clear g1
  obtain ⟨c0, c1, c2, c3⟩ := HC.out _ (show Below w.heap.size w (w.alloc (.cells #[.int .i64 0, .slice none 0 0] 127)) by (repeat (first | exact Below.refl _ _ | assumption | refine bel_al ?_ _ | refine Below.drew ?_ | refine bel_dn ?_ _ | refine bel_set ?_ (Nat.le_refl _) _)))
  go_enter Tryz.func70, Tryz.ntmps70
  go_wp2_with fail
  refine bodyPost_ret (v := .tuple #[.agg #[.int .i64 0, .slice none 0 0], .bool false]) (by simp [results, Tryz.results70, go_sem]) rfl ?_
  exact ⟨_, _, _, _, _, rfl, by (repeat (first | exact Below.refl _ _ | assumption | refine bel_al ?_ _ | refine Below.drew ?_ | refine bel_dn ?_ _ | refine bel_set ?_ (Nat.le_refl _) _)), HG.out _ _⟩
end Go.Proofs.YtakfineljffoaaaGreatDoor
