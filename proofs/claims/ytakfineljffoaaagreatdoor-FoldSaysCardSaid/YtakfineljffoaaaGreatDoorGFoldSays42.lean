/-
  FOLDED BODIES: the program's rule two. No condition.
-/
import Derived.Test.YtakfineljffoaaaGreatDoorGFoldSays29
namespace Go.Proofs.YtakfineljffoaaaGreatDoor
open Go.RowKit Go.Lib


set_option maxRecDepth 100000 in
set_option maxHeartbeats 16000000 in
theorem two_any : RuleP 67 r2 := by
 intro w v x t k st hok hrun hT h _
 rcases t with _ | ⟨y, _ | ⟨z, r⟩⟩
 ·have g0 := hok
  obtain ⟨b, off, n, cap, rfl, hn, hc1, hc2, u, hcell⟩ := h.one
  have HC := hid hcell
  have hp : 0 < n := by omega
  have hq : (0 : Int) < (n : Int) := by omega
  have hq2 : (n : Int) < 3 := by rw [hn]; simp
  have HG := hid (fun w' nv => show Gives w' 0 nv false (r2 [x]) from rfl)
  clear hn hcell h hrun hok
  go_enter Tryz.func67, Tryz.ntmps67
  go_wp2_with fail
  go_quiet (fail)
  go_wp2_with fail
  refine bodyPost_ret (v := .tuple #[.agg #[.int .i64 0, .slice none 0 0], .bool false]) (by simp [results, Tryz.results67, go_sem]) rfl ?_
  exact ⟨_, _, _, _, _, rfl, by (repeat (first | exact Below.refl _ _ | assumption | refine bel_al ?_ _ | refine Below.drew ?_ | refine bel_dn ?_ _ | refine bel_set ?_ (Nat.le_refl _) _)), HG.out _ _⟩
 ·have g0 := hok
  obtain ⟨b, off, n, cap, rfl, hn, hc1, hc2, u, hcell⟩ := h.one
  have HC := hid hcell
  have hp : 0 < n := by omega
  have hq : (0 : Int) < (n : Int) := by omega
  have hq2 : (n : Int) < 3 := by rw [hn]; simp
  have HG := hid (fun w' nv => show Gives w' 0 nv false (r2 [x, y]) from rfl)
  clear hn hcell h hrun hok
  go_enter Tryz.func67, Tryz.ntmps67
  go_wp2_with fail
  go_quiet (fail)
  go_wp2_with fail
  refine bodyPost_ret (v := .tuple #[.agg #[.int .i64 0, .slice none 0 0], .bool false]) (by simp [results, Tryz.results67, go_sem]) rfl ?_
  exact ⟨_, _, _, _, _, rfl, by (repeat (first | exact Below.refl _ _ | assumption | refine bel_al ?_ _ | refine Below.drew ?_ | refine bel_dn ?_ _ | refine bel_set ?_ (Nat.le_refl _) _)), HG.out _ _⟩
 ·have g0 := hok
  obtain ⟨b, off, n, cap, rfl, hn, hc1, hc2, u, hcell⟩ := h.one
  obtain ⟨u2, hcell2⟩ := h.second
  obtain ⟨u3, hcell3⟩ := h.third
  have HC := hid (fun wx hb => show (_ ∧ _) ∧ _ from ⟨⟨hcell wx hb, hcell2 wx hb⟩, hcell3 wx hb⟩)
  have hp : 0 < n := by omega
  have hp1 : 1 < n := by rw [hn]; simp
  have hp2 : 2 < n := by rw [hn]; simp
  have hq : (0 : Int) < (n : Int) := by omega
  have hq1 : (1 : Int) < (n : Int) := by omega
  have hq1b : (2 : Int) < (n : Int) := by omega
  have hq2 : ¬ (n : Int) < 3 := by omega
  have hq3 : decide ((n : Int) < 3) = false := decide_eq_false hq2
  have HN2 := hid (fun w => isConst_any w x.op x.A x.B u)
  by_cases g1 : x.op = 65 ∨ x.op = 66
  ·rw [show decide (x.op = 65 ∨ x.op = 66) = true from decide_eq_true g1] at HN2
   by_cases gy : y.op = x.op
   ·have ey : ((y.op : Int) == (x.op : Int)) = true := opT gy
    have hx := (hok x (by simp)).in64
    have hy := (hok y (by simp)).in64
    have hop := (hok z (by simp)).1
    have HO := hid (fun wx (hb : Below w.heap.size w wx) => ptwo_any z.op hop x.A y.A hx hy wx)
    have HK := hid (fun wx => kindOf_any wx x.op x.A x.B u)
    rw [kof_cast] at HK
    by_cases ge : twoE z.op x.A y.A = 0
    ·have ht := two_tt hop ge
     obtain ⟨hki, hko, hkd⟩ := ki_two ht
     have HP := hid (fun wx => show Calls Tryz.prog 99 #[.int .u8 z.op] wx fun e w' => ∃ v u, e = .returned (.tuple #[v, u, .bool true]) ∧ Kinds w' v [(kIn (tT z.op) : Int), (kIn (tT z.op) : Int)] ∧ Kinds w' u [(kOn (tT z.op) : Int)] ∧ Below wx.heap.size wx w' from by have q := plain_any z.op hop wx; rw [hki, hko, hkd] at q; exact q)
     have HCo := hid (fun wx n => constant_any wx (kOn (tT z.op)) n)
     by_cases gm : kIn (tT z.op) = kOf x.op
     ·have gm2 := gm
      clear gm2
      have em : ((kIn (tT z.op) : Int) == (kOf x.op : Int)) = true := opT gm
      have HG := hid (fun w' nv (hB : BodS w' nv [⟨ci (kOn (tT z.op)), twoN z.op x.A y.A, 0, []⟩]) => show Gives w' 3 nv true (r2 (x :: y :: z :: r)) from by rw [two_yes g1 gy ge ht gm]; exact ⟨rfl, rfl, hB⟩)
      have eE : twoE z.op x.A y.A = 0 := ge
      generalize kIn (tT z.op) = KI at *
      generalize kOn (tT z.op) = KO at *
      generalize kOf x.op = KX at *
      generalize twoE z.op x.A y.A = E at *
      generalize twoN z.op x.A y.A = N at *
      subst eE
      clear hn hcell hcell2 hcell3 h hrun hok
      clear g1 gm ge ht hki hko hkd hx hop gy hy
      have hb0 : Below w.heap.size w (w.alloc (.cells #[.int .i64 0, .slice none 0 0] 127)) := by (repeat (first | exact Below.refl _ _ | assumption | refine bel_al ?_ _ | refine Below.drew ?_ | refine bel_dn ?_ _ | refine bel_set ?_ (Nat.le_refl _) _))
      obtain ⟨⟨⟨c0, c1, c2, c3⟩, d0, d1, d2, d3⟩, f0, f1, f2, f3⟩ := HC.out _ hb0
      go_enter Tryz.func67, Tryz.ntmps67
      go_wp2_with fail
      refine wp_region_tail (S := (fun w' => Below (w.alloc (.cells #[.int .i64 0, .slice none 0 0] 127)).heap.size (w.alloc (.cells #[.int .i64 0, .slice none 0 0] 127)) w')) 20 (by kernel_rfl) (by kernel_rfl) ?_ (fun hHeld => ?_)
      ·(repeat (first | exact Below.refl _ _ | assumption | refine bel_al ?_ _ | refine Below.drew ?_ | refine bel_dn ?_ _ | refine bel_set ?_ (Nat.le_refl _) _))
      refine tk 0 ?_ rfl ?_ ?_
      rotate_left
      ·intro wy hSw; (try dsimp only at hSw); obtain ⟨⟨⟨c0, c1, c2, c3⟩, d0, d1, d2, d3⟩, f0, f1, f2, f3⟩ := HC.out wy (bel_tr hb0 hSw); (go_simp <;> with_reducible rfl)
      (try simp only [List.getElem_toArray, List.getElem_cons_zero, Act.put, List.setIfInBounds_toArray, List.set_cons_zero, List.set_cons_succ])
      refine tk 1 ?_ rfl ?_ ?_
      rotate_left
      ·intro wy hSw; (try dsimp only at hSw); obtain ⟨⟨⟨c0, c1, c2, c3⟩, d0, d1, d2, d3⟩, f0, f1, f2, f3⟩ := HC.out wy (bel_tr hb0 hSw); (go_simp <;> with_reducible rfl)
      (try simp only [List.getElem_toArray, List.getElem_cons_zero, List.getElem_cons_succ, Act.put, List.setIfInBounds_toArray, List.set_cons_zero, List.set_cons_succ])
      refine tk 2 ?_ rfl ?_ ?_
      rotate_left
      ·intro wy hSw; (try dsimp only at hSw); obtain ⟨⟨⟨c0, c1, c2, c3⟩, d0, d1, d2, d3⟩, f0, f1, f2, f3⟩ := HC.out wy (bel_tr hb0 hSw); (go_simp <;> with_reducible rfl)
      (try simp only [List.getElem_toArray, List.getElem_cons_zero, List.getElem_cons_succ, Act.put, List.setIfInBounds_toArray, List.set_cons_zero, List.set_cons_succ])
      refine tk 3 ?_ rfl ?_ ?_
      rotate_left
      ·intro wy hSw; (try dsimp only at hSw); obtain ⟨⟨⟨c0, c1, c2, c3⟩, d0, d1, d2, d3⟩, f0, f1, f2, f3⟩ := HC.out wy (bel_tr hb0 hSw); (go_simp <;> with_reducible rfl)
      (try simp only [List.getElem_toArray, List.getElem_cons_zero, List.getElem_cons_succ, Act.put, List.setIfInBounds_toArray, List.set_cons_zero, List.set_cons_succ])
      refine tk 4 ?_ rfl ?_ ?_
      rotate_left
      ·intro wy hSw; (try dsimp only at hSw); obtain ⟨⟨⟨c0, c1, c2, c3⟩, d0, d1, d2, d3⟩, f0, f1, f2, f3⟩ := HC.out wy (bel_tr hb0 hSw); (go_simp <;> with_reducible rfl)
      (try simp only [List.getElem_toArray, List.getElem_cons_zero, List.getElem_cons_succ, Act.put, List.setIfInBounds_toArray, List.set_cons_zero, List.set_cons_succ])
      refine tk 5 ?_ rfl ?_ ?_
      rotate_left
      ·intro wy hSw; (try dsimp only at hSw); obtain ⟨⟨⟨c0, c1, c2, c3⟩, d0, d1, d2, d3⟩, f0, f1, f2, f3⟩ := HC.out wy (bel_tr hb0 hSw); (go_simp <;> with_reducible rfl)
      (try simp only [List.getElem_toArray, List.getElem_cons_zero, List.getElem_cons_succ, Act.put, List.setIfInBounds_toArray, List.set_cons_zero, List.set_cons_succ])
      refine tk 6 ?_ rfl ?_ ?_
      rotate_left
      ·intro wy hSw; (try dsimp only at hSw); obtain ⟨⟨⟨c0, c1, c2, c3⟩, d0, d1, d2, d3⟩, f0, f1, f2, f3⟩ := HC.out wy (bel_tr hb0 hSw); (go_simp <;> with_reducible rfl)
      (try simp only [List.getElem_toArray, List.getElem_cons_zero, List.getElem_cons_succ, Act.put, List.setIfInBounds_toArray, List.set_cons_zero, List.set_cons_succ])
      refine wpT_one (k := 7) rfl (by kernel_rfl) (fun K hK => ?_)
      go_simp
      refine (HN2.out _).mono ?_
      rintro r1 w1 ⟨rfl, hb1⟩
      have g1 := bel_tr (w := (w.alloc (.cells #[.int .i64 0, .slice none 0 0] 127))) (by (repeat (first | exact Below.refl _ _ | assumption | refine bel_al ?_ _ | refine Below.drew ?_ | refine bel_dn ?_ _ | refine bel_set ?_ (Nat.le_refl _) _))) hb1
      clear hb1
      have s1 := bel_lt g1
      have b1 := bel_tr hb0 g1
      obtain ⟨x0, x1, xf⟩ := turn_blk g1
      obtain ⟨⟨⟨c0, c1, c2, c3⟩, d0, d1, d2, d3⟩, f0, f1, f2, f3⟩ := HC.out _ b1
      refine hK.out _ _ ?_ (fun hHeld => ?_)
      ·exact g1
      clear hK K
      (try simp only [Act.put, List.setIfInBounds_toArray, List.set_cons_zero, List.set_cons_succ])
      refine tk 8 ?_ rfl ?_ ?_
      rotate_left
      ·intro wy hSw; (try dsimp only at hSw); obtain ⟨⟨⟨c0, c1, c2, c3⟩, d0, d1, d2, d3⟩, f0, f1, f2, f3⟩ := HC.out wy (bel_tr hb0 hSw); (go_simp <;> with_reducible rfl)
      (try simp only [List.getElem_toArray, List.getElem_cons_zero, List.getElem_cons_succ, Act.put, List.setIfInBounds_toArray, List.set_cons_zero, List.set_cons_succ])
      refine tk 9 ?_ rfl ?_ ?_
      rotate_left
      ·intro wy hSw; (try dsimp only at hSw); obtain ⟨⟨⟨c0, c1, c2, c3⟩, d0, d1, d2, d3⟩, f0, f1, f2, f3⟩ := HC.out wy (bel_tr hb0 hSw); (go_simp <;> with_reducible rfl)
      (try simp only [List.getElem_toArray, List.getElem_cons_zero, List.getElem_cons_succ, Act.put, List.setIfInBounds_toArray, List.set_cons_zero, List.set_cons_succ])
      refine tk 10 ?_ rfl ?_ ?_
      rotate_left
      ·intro wy hSw; (try dsimp only at hSw); obtain ⟨⟨⟨c0, c1, c2, c3⟩, d0, d1, d2, d3⟩, f0, f1, f2, f3⟩ := HC.out wy (bel_tr hb0 hSw); (go_simp <;> with_reducible rfl)
      (try simp only [List.getElem_toArray, List.getElem_cons_zero, List.getElem_cons_succ, Act.put, List.setIfInBounds_toArray, List.set_cons_zero, List.set_cons_succ])
      refine tk 11 ?_ rfl ?_ ?_
      rotate_left
      ·intro wy hSw; (try dsimp only at hSw); obtain ⟨⟨⟨c0, c1, c2, c3⟩, d0, d1, d2, d3⟩, f0, f1, f2, f3⟩ := HC.out wy (bel_tr hb0 hSw); (go_simp <;> with_reducible rfl)
      (try simp only [List.getElem_toArray, List.getElem_cons_zero, List.getElem_cons_succ, Act.put, List.setIfInBounds_toArray, List.set_cons_zero, List.set_cons_succ])
      refine tk 12 ?_ rfl ?_ ?_
      rotate_left
      ·intro wy hSw; (try dsimp only at hSw); obtain ⟨⟨⟨c0, c1, c2, c3⟩, d0, d1, d2, d3⟩, f0, f1, f2, f3⟩ := HC.out wy (bel_tr hb0 hSw); (go_simp <;> with_reducible rfl)
      (try simp only [List.getElem_toArray, List.getElem_cons_zero, List.getElem_cons_succ, Act.put, List.setIfInBounds_toArray, List.set_cons_zero, List.set_cons_succ])
      refine tk 13 ?_ rfl ?_ ?_
      rotate_left
      ·intro wy hSw; (try dsimp only at hSw); obtain ⟨⟨⟨c0, c1, c2, c3⟩, d0, d1, d2, d3⟩, f0, f1, f2, f3⟩ := HC.out wy (bel_tr hb0 hSw); (go_simp <;> with_reducible rfl)
      (try simp only [List.getElem_toArray, List.getElem_cons_zero, List.getElem_cons_succ, Act.put, List.setIfInBounds_toArray, List.set_cons_zero, List.set_cons_succ])
      refine tk 14 ?_ rfl ?_ ?_
      rotate_left
      ·intro wy hSw; (try dsimp only at hSw); obtain ⟨⟨⟨c0, c1, c2, c3⟩, d0, d1, d2, d3⟩, f0, f1, f2, f3⟩ := HC.out wy (bel_tr hb0 hSw); (go_simp <;> with_reducible rfl)
      (try simp only [List.getElem_toArray, List.getElem_cons_zero, List.getElem_cons_succ, Act.put, List.setIfInBounds_toArray, List.set_cons_zero, List.set_cons_succ])
      refine tk 15 ?_ rfl ?_ ?_
      rotate_left
      ·intro wy hSw; (try dsimp only at hSw); obtain ⟨⟨⟨c0, c1, c2, c3⟩, d0, d1, d2, d3⟩, f0, f1, f2, f3⟩ := HC.out wy (bel_tr hb0 hSw); (go_simp <;> with_reducible rfl)
      (try simp only [List.getElem_toArray, List.getElem_cons_zero, List.getElem_cons_succ, Act.put, List.setIfInBounds_toArray, List.set_cons_zero, List.set_cons_succ])
      refine tk 16 ?_ rfl ?_ ?_
      rotate_left
      ·intro wy hSw; (try dsimp only at hSw); obtain ⟨⟨⟨c0, c1, c2, c3⟩, d0, d1, d2, d3⟩, f0, f1, f2, f3⟩ := HC.out wy (bel_tr hb0 hSw); (go_simp <;> with_reducible rfl)
      (try simp only [List.getElem_toArray, List.getElem_cons_zero, List.getElem_cons_succ, Act.put, List.setIfInBounds_toArray, List.set_cons_zero, List.set_cons_succ])
      refine tk 17 ?_ rfl ?_ ?_
      rotate_left
      ·intro wy hSw; (try dsimp only at hSw); obtain ⟨⟨⟨c0, c1, c2, c3⟩, d0, d1, d2, d3⟩, f0, f1, f2, f3⟩ := HC.out wy (bel_tr hb0 hSw); (go_simp <;> with_reducible rfl)
      (try simp only [List.getElem_toArray, List.getElem_cons_zero, List.getElem_cons_succ, Act.put, List.setIfInBounds_toArray, List.set_cons_zero, List.set_cons_succ])
      refine tk 18 ?_ rfl ?_ ?_
      rotate_left
      ·intro wy hSw; (try dsimp only at hSw); obtain ⟨⟨⟨c0, c1, c2, c3⟩, d0, d1, d2, d3⟩, f0, f1, f2, f3⟩ := HC.out wy (bel_tr hb0 hSw); (go_simp <;> with_reducible rfl)
      (try simp only [List.getElem_toArray, List.getElem_cons_zero, List.getElem_cons_succ, Act.put, List.setIfInBounds_toArray, List.set_cons_zero, List.set_cons_succ])
      refine tk 19 ?_ rfl ?_ ?_
      rotate_left
      ·intro wy hSw; (try dsimp only at hSw); obtain ⟨⟨⟨c0, c1, c2, c3⟩, d0, d1, d2, d3⟩, f0, f1, f2, f3⟩ := HC.out wy (bel_tr hb0 hSw); (go_simp <;> with_reducible rfl)
      (try simp only [List.getElem_toArray, List.getElem_cons_zero, List.getElem_cons_succ, Act.put, List.setIfInBounds_toArray, List.set_cons_zero, List.set_cons_succ])
      refine wpT_done (by kernel_rfl) ?_
      go_wp2_with fail
      refine wp_region_tail (S := (fun w' => Below (w.alloc (.cells #[.int .i64 0, .slice none 0 0] 127)).heap.size (w.alloc (.cells #[.int .i64 0, .slice none 0 0] 127)) w')) 17 (by kernel_rfl) (by kernel_rfl) ?_ (fun hHeld => ?_)
      ·(repeat (first | exact Below.refl _ _ | assumption | refine bel_al ?_ _ | refine Below.drew ?_ | refine bel_dn ?_ _ | refine bel_set ?_ (Nat.le_refl _) _))
      refine tk 0 ?_ rfl ?_ ?_
      rotate_left
      ·intro wy hSw; (try dsimp only at hSw); obtain ⟨⟨⟨c0, c1, c2, c3⟩, d0, d1, d2, d3⟩, f0, f1, f2, f3⟩ := HC.out wy (bel_tr hb0 hSw); (go_simp <;> with_reducible rfl)
      (try simp only [List.getElem_toArray, List.getElem_cons_zero, Act.put, List.setIfInBounds_toArray, List.set_cons_zero, List.set_cons_succ])
      refine tk 1 ?_ rfl ?_ ?_
      rotate_left
      ·intro wy hSw; (try dsimp only at hSw); obtain ⟨⟨⟨c0, c1, c2, c3⟩, d0, d1, d2, d3⟩, f0, f1, f2, f3⟩ := HC.out wy (bel_tr hb0 hSw); (go_simp <;> with_reducible rfl)
      (try simp only [List.getElem_toArray, List.getElem_cons_zero, List.getElem_cons_succ, Act.put, List.setIfInBounds_toArray, List.set_cons_zero, List.set_cons_succ])
      refine tk 2 ?_ rfl ?_ ?_
      rotate_left
      ·intro wy hSw; (try dsimp only at hSw); obtain ⟨⟨⟨c0, c1, c2, c3⟩, d0, d1, d2, d3⟩, f0, f1, f2, f3⟩ := HC.out wy (bel_tr hb0 hSw); (go_simp <;> with_reducible rfl)
      (try simp only [List.getElem_toArray, List.getElem_cons_zero, List.getElem_cons_succ, Act.put, List.setIfInBounds_toArray, List.set_cons_zero, List.set_cons_succ])
      refine tk 3 ?_ rfl ?_ ?_
      rotate_left
      ·intro wy hSw; (try dsimp only at hSw); obtain ⟨⟨⟨c0, c1, c2, c3⟩, d0, d1, d2, d3⟩, f0, f1, f2, f3⟩ := HC.out wy (bel_tr hb0 hSw); (go_simp <;> with_reducible rfl)
      (try simp only [List.getElem_toArray, List.getElem_cons_zero, List.getElem_cons_succ, Act.put, List.setIfInBounds_toArray, List.set_cons_zero, List.set_cons_succ])
      refine tk 4 ?_ rfl ?_ ?_
      rotate_left
      ·intro wy hSw; (try dsimp only at hSw); obtain ⟨⟨⟨c0, c1, c2, c3⟩, d0, d1, d2, d3⟩, f0, f1, f2, f3⟩ := HC.out wy (bel_tr hb0 hSw); (go_simp <;> with_reducible rfl)
      (try simp only [List.getElem_toArray, List.getElem_cons_zero, List.getElem_cons_succ, Act.put, List.setIfInBounds_toArray, List.set_cons_zero, List.set_cons_succ])
      refine tk 5 ?_ rfl ?_ ?_
      rotate_left
      ·intro wy hSw; (try dsimp only at hSw); obtain ⟨⟨⟨c0, c1, c2, c3⟩, d0, d1, d2, d3⟩, f0, f1, f2, f3⟩ := HC.out wy (bel_tr hb0 hSw); (go_simp <;> with_reducible rfl)
      (try simp only [List.getElem_toArray, List.getElem_cons_zero, List.getElem_cons_succ, Act.put, List.setIfInBounds_toArray, List.set_cons_zero, List.set_cons_succ])
      refine tk 6 ?_ rfl ?_ ?_
      rotate_left
      ·intro wy hSw; (try dsimp only at hSw); obtain ⟨⟨⟨c0, c1, c2, c3⟩, d0, d1, d2, d3⟩, f0, f1, f2, f3⟩ := HC.out wy (bel_tr hb0 hSw); (go_simp <;> with_reducible rfl)
      (try simp only [List.getElem_toArray, List.getElem_cons_zero, List.getElem_cons_succ, Act.put, List.setIfInBounds_toArray, List.set_cons_zero, List.set_cons_succ])
      refine tk 7 ?_ rfl ?_ ?_
      rotate_left
      ·intro wy hSw; (try dsimp only at hSw); obtain ⟨⟨⟨c0, c1, c2, c3⟩, d0, d1, d2, d3⟩, f0, f1, f2, f3⟩ := HC.out wy (bel_tr hb0 hSw); (go_simp <;> with_reducible rfl)
      (try simp only [List.getElem_toArray, List.getElem_cons_zero, List.getElem_cons_succ, Act.put, List.setIfInBounds_toArray, List.set_cons_zero, List.set_cons_succ])
      refine tk 8 ?_ rfl ?_ ?_
      rotate_left
      ·intro wy hSw; (try dsimp only at hSw); obtain ⟨⟨⟨c0, c1, c2, c3⟩, d0, d1, d2, d3⟩, f0, f1, f2, f3⟩ := HC.out wy (bel_tr hb0 hSw); (go_simp <;> with_reducible rfl)
      (try simp only [List.getElem_toArray, List.getElem_cons_zero, List.getElem_cons_succ, Act.put, List.setIfInBounds_toArray, List.set_cons_zero, List.set_cons_succ])
      refine tk 9 ?_ rfl ?_ ?_
      rotate_left
      ·intro wy hSw; (try dsimp only at hSw); obtain ⟨⟨⟨c0, c1, c2, c3⟩, d0, d1, d2, d3⟩, f0, f1, f2, f3⟩ := HC.out wy (bel_tr hb0 hSw); (go_simp <;> with_reducible rfl)
      (try simp only [List.getElem_toArray, List.getElem_cons_zero, List.getElem_cons_succ, Act.put, List.setIfInBounds_toArray, List.set_cons_zero, List.set_cons_succ])
      refine tk 10 ?_ rfl ?_ ?_
      rotate_left
      ·intro wy hSw; (try dsimp only at hSw); obtain ⟨⟨⟨c0, c1, c2, c3⟩, d0, d1, d2, d3⟩, f0, f1, f2, f3⟩ := HC.out wy (bel_tr hb0 hSw); (go_simp <;> with_reducible rfl)
      (try simp only [List.getElem_toArray, List.getElem_cons_zero, List.getElem_cons_succ, Act.put, List.setIfInBounds_toArray, List.set_cons_zero, List.set_cons_succ])
      refine tk 11 ?_ rfl ?_ ?_
      rotate_left
      ·intro wy hSw; (try dsimp only at hSw); obtain ⟨⟨⟨c0, c1, c2, c3⟩, d0, d1, d2, d3⟩, f0, f1, f2, f3⟩ := HC.out wy (bel_tr hb0 hSw); (go_simp <;> with_reducible rfl)
      (try simp only [List.getElem_toArray, List.getElem_cons_zero, List.getElem_cons_succ, Act.put, List.setIfInBounds_toArray, List.set_cons_zero, List.set_cons_succ])
      refine wpT_one (k := 12) rfl (by kernel_rfl) (fun K hK => ?_)
      go_simp
      refine (HO.out _ (by (repeat (first | exact Below.refl _ _ | assumption | refine bel_al ?_ _ | refine Below.drew ?_ | refine bel_dn ?_ _ | refine bel_set ?_ (Nat.le_refl _) _)))).mono ?_
      rintro r2 w2 ⟨rfl, hb2⟩
      have g2 := bel_tr (w := (w.alloc (.cells #[.int .i64 0, .slice none 0 0] 127))) (by (repeat (first | exact Below.refl _ _ | assumption | refine bel_al ?_ _ | refine Below.drew ?_ | refine bel_dn ?_ _ | refine bel_set ?_ (Nat.le_refl _) _))) hb2
      clear hb2
      have s2 := bel_lt g2
      have b2 := bel_tr hb0 g2
      obtain ⟨x0, x1, xf⟩ := turn_blk g2
      obtain ⟨⟨⟨c0, c1, c2, c3⟩, d0, d1, d2, d3⟩, f0, f1, f2, f3⟩ := HC.out _ b2
      refine hK.out _ _ ?_ (fun hHeld => ?_)
      ·exact g2
      clear hK K
      (try simp only [Act.put, List.setIfInBounds_toArray, List.set_cons_zero, List.set_cons_succ])
      refine tk 13 ?_ rfl ?_ ?_
      rotate_left
      ·intro wy hSw; (try dsimp only at hSw); obtain ⟨⟨⟨c0, c1, c2, c3⟩, d0, d1, d2, d3⟩, f0, f1, f2, f3⟩ := HC.out wy (bel_tr hb0 hSw); (go_simp <;> with_reducible rfl)
      (try simp only [List.getElem_toArray, List.getElem_cons_zero, List.getElem_cons_succ, Act.put, List.setIfInBounds_toArray, List.set_cons_zero, List.set_cons_succ])
      refine tk 14 ?_ rfl ?_ ?_
      rotate_left
      ·intro wy hSw; (try dsimp only at hSw); obtain ⟨⟨⟨c0, c1, c2, c3⟩, d0, d1, d2, d3⟩, f0, f1, f2, f3⟩ := HC.out wy (bel_tr hb0 hSw); (go_simp <;> with_reducible rfl)
      (try simp only [List.getElem_toArray, List.getElem_cons_zero, List.getElem_cons_succ, Act.put, List.setIfInBounds_toArray, List.set_cons_zero, List.set_cons_succ])
      refine tk 15 ?_ rfl ?_ ?_
      rotate_left
      ·intro wy hSw; (try dsimp only at hSw); obtain ⟨⟨⟨c0, c1, c2, c3⟩, d0, d1, d2, d3⟩, f0, f1, f2, f3⟩ := HC.out wy (bel_tr hb0 hSw); (go_simp <;> with_reducible rfl)
      (try simp only [List.getElem_toArray, List.getElem_cons_zero, List.getElem_cons_succ, Act.put, List.setIfInBounds_toArray, List.set_cons_zero, List.set_cons_succ])
      refine tk 16 ?_ rfl ?_ ?_
      rotate_left
      ·intro wy hSw; (try dsimp only at hSw); obtain ⟨⟨⟨c0, c1, c2, c3⟩, d0, d1, d2, d3⟩, f0, f1, f2, f3⟩ := HC.out wy (bel_tr hb0 hSw); (go_simp <;> with_reducible rfl)
      (try simp only [List.getElem_toArray, List.getElem_cons_zero, List.getElem_cons_succ, Act.put, List.setIfInBounds_toArray, List.set_cons_zero, List.set_cons_succ])
      refine wpT_done (by kernel_rfl) ?_
      go_wp2_with (go_at_call 99; refine (HP.out _).mono ?_; rintro r3 w3 ⟨vi, vo, rfl, hk1, hk2, hb3⟩; have g3 := bel_tr g2 hb3; clear hb3; have s3 := bel_lt g3; have b3 := bel_tr hb0 g3; obtain ⟨x0, x1, xf⟩ := turn_blk g3; obtain ⟨⟨⟨c0, c1, c2, c3⟩, d0, d1, d2, d3⟩, f0, f1, f2, f3⟩ := HC.out _ b3; obtain ⟨bi, oi, ni, ki, rfl, hni, hni2, hqi⟩ := kind_first hk1; obtain ⟨bo, oo, no, ko, rfl, hno, hno2, hqo⟩ := kind_first hk2; have HI := hid hqi; have HO2 := hid hqo; clear hk1 hk2 hqi hqo)
      refine wp_region_tail (S := (fun w' => Below w3.heap.size w3 w')) 15 (by kernel_rfl) (by kernel_rfl) ?_ (fun hHeld => ?_)
      ·(repeat (first | exact Below.refl _ _ | assumption | refine bel_al ?_ _ | refine Below.drew ?_ | refine bel_dn ?_ _ | refine bel_set ?_ (Nat.le_refl _) _))
      refine tk 0 ?_ rfl ?_ ?_
      rotate_left
      ·intro wy hSw; (try dsimp only at hSw); obtain ⟨⟨⟨c0, c1, c2, c3⟩, d0, d1, d2, d3⟩, f0, f1, f2, f3⟩ := HC.out wy (bel_tr b3 hSw); have qi := HI.out wy hSw; (go_simp <;> with_reducible rfl)
      (try simp only [List.getElem_toArray, List.getElem_cons_zero, Act.put, List.setIfInBounds_toArray, List.set_cons_zero, List.set_cons_succ])
      refine tk 1 ?_ rfl ?_ ?_
      rotate_left
      ·intro wy hSw; (try dsimp only at hSw); obtain ⟨⟨⟨c0, c1, c2, c3⟩, d0, d1, d2, d3⟩, f0, f1, f2, f3⟩ := HC.out wy (bel_tr b3 hSw); have qi := HI.out wy hSw; (go_simp <;> with_reducible rfl)
      (try simp only [List.getElem_toArray, List.getElem_cons_zero, List.getElem_cons_succ, Act.put, List.setIfInBounds_toArray, List.set_cons_zero, List.set_cons_succ])
      refine tk 2 ?_ rfl ?_ ?_
      rotate_left
      ·intro wy hSw; (try dsimp only at hSw); obtain ⟨⟨⟨c0, c1, c2, c3⟩, d0, d1, d2, d3⟩, f0, f1, f2, f3⟩ := HC.out wy (bel_tr b3 hSw); have qi := HI.out wy hSw; (go_simp <;> with_reducible rfl)
      (try simp only [List.getElem_toArray, List.getElem_cons_zero, List.getElem_cons_succ, Act.put, List.setIfInBounds_toArray, List.set_cons_zero, List.set_cons_succ])
      refine tk 3 ?_ rfl ?_ ?_
      rotate_left
      ·intro wy hSw; (try dsimp only at hSw); obtain ⟨⟨⟨c0, c1, c2, c3⟩, d0, d1, d2, d3⟩, f0, f1, f2, f3⟩ := HC.out wy (bel_tr b3 hSw); have qi := HI.out wy hSw; (go_simp <;> with_reducible rfl)
      (try simp only [List.getElem_toArray, List.getElem_cons_zero, List.getElem_cons_succ, Act.put, List.setIfInBounds_toArray, List.set_cons_zero, List.set_cons_succ])
      refine tk 4 ?_ rfl ?_ ?_
      rotate_left
      ·intro wy hSw; (try dsimp only at hSw); obtain ⟨⟨⟨c0, c1, c2, c3⟩, d0, d1, d2, d3⟩, f0, f1, f2, f3⟩ := HC.out wy (bel_tr b3 hSw); have qi := HI.out wy hSw; (go_simp <;> with_reducible rfl)
      (try simp only [List.getElem_toArray, List.getElem_cons_zero, List.getElem_cons_succ, Act.put, List.setIfInBounds_toArray, List.set_cons_zero, List.set_cons_succ])
      refine tk 5 ?_ rfl ?_ ?_
      rotate_left
      ·intro wy hSw; (try dsimp only at hSw); obtain ⟨⟨⟨c0, c1, c2, c3⟩, d0, d1, d2, d3⟩, f0, f1, f2, f3⟩ := HC.out wy (bel_tr b3 hSw); have qi := HI.out wy hSw; (go_simp <;> with_reducible rfl)
      (try simp only [List.getElem_toArray, List.getElem_cons_zero, List.getElem_cons_succ, Act.put, List.setIfInBounds_toArray, List.set_cons_zero, List.set_cons_succ])
      refine tk 6 ?_ rfl ?_ ?_
      rotate_left
      ·intro wy hSw; (try dsimp only at hSw); obtain ⟨⟨⟨c0, c1, c2, c3⟩, d0, d1, d2, d3⟩, f0, f1, f2, f3⟩ := HC.out wy (bel_tr b3 hSw); have qi := HI.out wy hSw; (go_simp <;> with_reducible rfl)
      (try simp only [List.getElem_toArray, List.getElem_cons_zero, List.getElem_cons_succ, Act.put, List.setIfInBounds_toArray, List.set_cons_zero, List.set_cons_succ])
      refine tk 7 ?_ rfl ?_ ?_
      rotate_left
      ·intro wy hSw; (try dsimp only at hSw); obtain ⟨⟨⟨c0, c1, c2, c3⟩, d0, d1, d2, d3⟩, f0, f1, f2, f3⟩ := HC.out wy (bel_tr b3 hSw); have qi := HI.out wy hSw; (go_simp <;> with_reducible rfl)
      (try simp only [List.getElem_toArray, List.getElem_cons_zero, List.getElem_cons_succ, Act.put, List.setIfInBounds_toArray, List.set_cons_zero, List.set_cons_succ])
      refine tk 8 ?_ rfl ?_ ?_
      rotate_left
      ·intro wy hSw; (try dsimp only at hSw); obtain ⟨⟨⟨c0, c1, c2, c3⟩, d0, d1, d2, d3⟩, f0, f1, f2, f3⟩ := HC.out wy (bel_tr b3 hSw); have qi := HI.out wy hSw; (go_simp <;> with_reducible rfl)
      (try simp only [List.getElem_toArray, List.getElem_cons_zero, List.getElem_cons_succ, Act.put, List.setIfInBounds_toArray, List.set_cons_zero, List.set_cons_succ])
      refine tk 9 ?_ rfl ?_ ?_
      rotate_left
      ·intro wy hSw; (try dsimp only at hSw); obtain ⟨⟨⟨c0, c1, c2, c3⟩, d0, d1, d2, d3⟩, f0, f1, f2, f3⟩ := HC.out wy (bel_tr b3 hSw); have qi := HI.out wy hSw; (go_simp <;> with_reducible rfl)
      (try simp only [List.getElem_toArray, List.getElem_cons_zero, List.getElem_cons_succ, Act.put, List.setIfInBounds_toArray, List.set_cons_zero, List.set_cons_succ])
      refine tk 10 ?_ rfl ?_ ?_
      rotate_left
      ·intro wy hSw; (try dsimp only at hSw); obtain ⟨⟨⟨c0, c1, c2, c3⟩, d0, d1, d2, d3⟩, f0, f1, f2, f3⟩ := HC.out wy (bel_tr b3 hSw); have qi := HI.out wy hSw; (go_simp <;> with_reducible rfl)
      (try simp only [List.getElem_toArray, List.getElem_cons_zero, List.getElem_cons_succ, Act.put, List.setIfInBounds_toArray, List.set_cons_zero, List.set_cons_succ])
      refine tk 11 ?_ rfl ?_ ?_
      rotate_left
      ·intro wy hSw; (try dsimp only at hSw); obtain ⟨⟨⟨c0, c1, c2, c3⟩, d0, d1, d2, d3⟩, f0, f1, f2, f3⟩ := HC.out wy (bel_tr b3 hSw); have qi := HI.out wy hSw; (go_simp <;> with_reducible rfl)
      (try simp only [List.getElem_toArray, List.getElem_cons_zero, List.getElem_cons_succ, Act.put, List.setIfInBounds_toArray, List.set_cons_zero, List.set_cons_succ])
      refine tk 12 ?_ rfl ?_ ?_
      rotate_left
      ·intro wy hSw; (try dsimp only at hSw); obtain ⟨⟨⟨c0, c1, c2, c3⟩, d0, d1, d2, d3⟩, f0, f1, f2, f3⟩ := HC.out wy (bel_tr b3 hSw); have qi := HI.out wy hSw; (go_simp <;> with_reducible rfl)
      (try simp only [List.getElem_toArray, List.getElem_cons_zero, List.getElem_cons_succ, Act.put, List.setIfInBounds_toArray, List.set_cons_zero, List.set_cons_succ])
      refine wpT_one (k := 13) rfl (by kernel_rfl) (fun K hK => ?_)
      go_simp
      refine (HK.out _).mono ?_
      rintro r4 w4 ⟨rfl, hb4⟩
      have h34 := bel_tr (w := w3) (by (repeat (first | exact Below.refl _ _ | assumption | refine bel_al ?_ _ | refine Below.drew ?_ | refine bel_dn ?_ _ | refine bel_set ?_ (Nat.le_refl _) _))) hb4
      have g4 := bel_tr g3 h34
      clear hb4
      have s4 := bel_lt g4
      have b4 := bel_tr hb0 g4
      obtain ⟨x0, x1, xf⟩ := turn_blk g4
      obtain ⟨⟨⟨c0, c1, c2, c3⟩, d0, d1, d2, d3⟩, f0, f1, f2, f3⟩ := HC.out _ b4
      refine hK.out _ _ ?_ (fun hHeld => ?_)
      ·exact h34
      clear hK K
      (try simp only [Act.put, List.setIfInBounds_toArray, List.set_cons_zero, List.set_cons_succ])
      refine tk 14 ?_ rfl ?_ ?_
      rotate_left
      ·intro wy hSw; (try dsimp only at hSw); obtain ⟨⟨⟨c0, c1, c2, c3⟩, d0, d1, d2, d3⟩, f0, f1, f2, f3⟩ := HC.out wy (bel_tr b3 hSw); have qi := HI.out wy hSw; (go_simp <;> with_reducible rfl)
      (try simp only [List.getElem_toArray, List.getElem_cons_zero, List.getElem_cons_succ, Act.put, List.setIfInBounds_toArray, List.set_cons_zero, List.set_cons_succ])
      refine wpT_done (by kernel_rfl) ?_
      have qo := HO2.out _ h34
      go_wp2_with (go_at_call 101; refine (HCo.out _ _).mono ?_; rintro r5 w5 ⟨rfl, rfl⟩)
      obtain ⟨z0, z1⟩ := turn_read x0 x1 (.int .i64 3) (.slice (some ⟨w4.heap.size, 0, none⟩) 1 1)
      refine bodyPost_ret (v := .tuple #[.agg #[.int .i64 3, .slice (some ⟨w4.heap.size, 0, none⟩) 1 1], .bool true]) (by simp [results, Tryz.results67, go_sem, z0, z1]) rfl ?_
      exact ⟨_, _, _, _, _, rfl, by (repeat (first | exact Below.refl _ _ | assumption | refine bel_al ?_ _ | refine Below.drew ?_ | refine bel_dn ?_ _ | refine bel_set ?_ (Nat.le_refl _) _)), HG.out _ _ (BodS.made _ _ _ _ (by simp))⟩
     ·have gm2 := gm
      clear gm2
      have em : ((kIn (tT z.op) : Int) == (kOf x.op : Int)) = false := opF gm
      have HG := hid (fun w' nv => show Gives w' 0 nv false (r2 (x :: y :: z :: r)) from by rw [two_no (fun h => gm h.2.2.2)]; rfl)
      have eE : twoE z.op x.A y.A = 0 := ge
      generalize kIn (tT z.op) = KI at *
      generalize kOn (tT z.op) = KO at *
      generalize kOf x.op = KX at *
      generalize twoE z.op x.A y.A = E at *
      generalize twoN z.op x.A y.A = N at *
      subst eE
      clear hn hcell hcell2 hcell3 h hrun hok
      clear g1 gm ge ht hki hko hkd hx hop gy hy
      have hb0 : Below w.heap.size w (w.alloc (.cells #[.int .i64 0, .slice none 0 0] 127)) := by (repeat (first | exact Below.refl _ _ | assumption | refine bel_al ?_ _ | refine Below.drew ?_ | refine bel_dn ?_ _ | refine bel_set ?_ (Nat.le_refl _) _))
      obtain ⟨⟨⟨c0, c1, c2, c3⟩, d0, d1, d2, d3⟩, f0, f1, f2, f3⟩ := HC.out _ hb0
      go_enter Tryz.func67, Tryz.ntmps67
      go_wp2_with fail
      refine wp_region_tail (S := (fun w' => Below (w.alloc (.cells #[.int .i64 0, .slice none 0 0] 127)).heap.size (w.alloc (.cells #[.int .i64 0, .slice none 0 0] 127)) w')) 20 (by kernel_rfl) (by kernel_rfl) ?_ (fun hHeld => ?_)
      ·(repeat (first | exact Below.refl _ _ | assumption | refine bel_al ?_ _ | refine Below.drew ?_ | refine bel_dn ?_ _ | refine bel_set ?_ (Nat.le_refl _) _))
      refine tk 0 ?_ rfl ?_ ?_
      rotate_left
      ·intro wy hSw; (try dsimp only at hSw); obtain ⟨⟨⟨c0, c1, c2, c3⟩, d0, d1, d2, d3⟩, f0, f1, f2, f3⟩ := HC.out wy (bel_tr hb0 hSw); (go_simp <;> with_reducible rfl)
      (try simp only [List.getElem_toArray, List.getElem_cons_zero, Act.put, List.setIfInBounds_toArray, List.set_cons_zero, List.set_cons_succ])
      refine tk 1 ?_ rfl ?_ ?_
      rotate_left
      ·intro wy hSw; (try dsimp only at hSw); obtain ⟨⟨⟨c0, c1, c2, c3⟩, d0, d1, d2, d3⟩, f0, f1, f2, f3⟩ := HC.out wy (bel_tr hb0 hSw); (go_simp <;> with_reducible rfl)
      (try simp only [List.getElem_toArray, List.getElem_cons_zero, List.getElem_cons_succ, Act.put, List.setIfInBounds_toArray, List.set_cons_zero, List.set_cons_succ])
      refine tk 2 ?_ rfl ?_ ?_
      rotate_left
      ·intro wy hSw; (try dsimp only at hSw); obtain ⟨⟨⟨c0, c1, c2, c3⟩, d0, d1, d2, d3⟩, f0, f1, f2, f3⟩ := HC.out wy (bel_tr hb0 hSw); (go_simp <;> with_reducible rfl)
      (try simp only [List.getElem_toArray, List.getElem_cons_zero, List.getElem_cons_succ, Act.put, List.setIfInBounds_toArray, List.set_cons_zero, List.set_cons_succ])
      refine tk 3 ?_ rfl ?_ ?_
      rotate_left
      ·intro wy hSw; (try dsimp only at hSw); obtain ⟨⟨⟨c0, c1, c2, c3⟩, d0, d1, d2, d3⟩, f0, f1, f2, f3⟩ := HC.out wy (bel_tr hb0 hSw); (go_simp <;> with_reducible rfl)
      (try simp only [List.getElem_toArray, List.getElem_cons_zero, List.getElem_cons_succ, Act.put, List.setIfInBounds_toArray, List.set_cons_zero, List.set_cons_succ])
      refine tk 4 ?_ rfl ?_ ?_
      rotate_left
      ·intro wy hSw; (try dsimp only at hSw); obtain ⟨⟨⟨c0, c1, c2, c3⟩, d0, d1, d2, d3⟩, f0, f1, f2, f3⟩ := HC.out wy (bel_tr hb0 hSw); (go_simp <;> with_reducible rfl)
      (try simp only [List.getElem_toArray, List.getElem_cons_zero, List.getElem_cons_succ, Act.put, List.setIfInBounds_toArray, List.set_cons_zero, List.set_cons_succ])
      refine tk 5 ?_ rfl ?_ ?_
      rotate_left
      ·intro wy hSw; (try dsimp only at hSw); obtain ⟨⟨⟨c0, c1, c2, c3⟩, d0, d1, d2, d3⟩, f0, f1, f2, f3⟩ := HC.out wy (bel_tr hb0 hSw); (go_simp <;> with_reducible rfl)
      (try simp only [List.getElem_toArray, List.getElem_cons_zero, List.getElem_cons_succ, Act.put, List.setIfInBounds_toArray, List.set_cons_zero, List.set_cons_succ])
      refine tk 6 ?_ rfl ?_ ?_
      rotate_left
      ·intro wy hSw; (try dsimp only at hSw); obtain ⟨⟨⟨c0, c1, c2, c3⟩, d0, d1, d2, d3⟩, f0, f1, f2, f3⟩ := HC.out wy (bel_tr hb0 hSw); (go_simp <;> with_reducible rfl)
      (try simp only [List.getElem_toArray, List.getElem_cons_zero, List.getElem_cons_succ, Act.put, List.setIfInBounds_toArray, List.set_cons_zero, List.set_cons_succ])
      refine wpT_one (k := 7) rfl (by kernel_rfl) (fun K hK => ?_)
      go_simp
      refine (HN2.out _).mono ?_
      rintro r1 w1 ⟨rfl, hb1⟩
      have g1 := bel_tr (w := (w.alloc (.cells #[.int .i64 0, .slice none 0 0] 127))) (by (repeat (first | exact Below.refl _ _ | assumption | refine bel_al ?_ _ | refine Below.drew ?_ | refine bel_dn ?_ _ | refine bel_set ?_ (Nat.le_refl _) _))) hb1
      clear hb1
      have s1 := bel_lt g1
      have b1 := bel_tr hb0 g1
      obtain ⟨x0, x1, xf⟩ := turn_blk g1
      obtain ⟨⟨⟨c0, c1, c2, c3⟩, d0, d1, d2, d3⟩, f0, f1, f2, f3⟩ := HC.out _ b1
      refine hK.out _ _ ?_ (fun hHeld => ?_)
      ·exact g1
      clear hK K
      (try simp only [Act.put, List.setIfInBounds_toArray, List.set_cons_zero, List.set_cons_succ])
      refine tk 8 ?_ rfl ?_ ?_
      rotate_left
      ·intro wy hSw; (try dsimp only at hSw); obtain ⟨⟨⟨c0, c1, c2, c3⟩, d0, d1, d2, d3⟩, f0, f1, f2, f3⟩ := HC.out wy (bel_tr hb0 hSw); (go_simp <;> with_reducible rfl)
      (try simp only [List.getElem_toArray, List.getElem_cons_zero, List.getElem_cons_succ, Act.put, List.setIfInBounds_toArray, List.set_cons_zero, List.set_cons_succ])
      refine tk 9 ?_ rfl ?_ ?_
      rotate_left
      ·intro wy hSw; (try dsimp only at hSw); obtain ⟨⟨⟨c0, c1, c2, c3⟩, d0, d1, d2, d3⟩, f0, f1, f2, f3⟩ := HC.out wy (bel_tr hb0 hSw); (go_simp <;> with_reducible rfl)
      (try simp only [List.getElem_toArray, List.getElem_cons_zero, List.getElem_cons_succ, Act.put, List.setIfInBounds_toArray, List.set_cons_zero, List.set_cons_succ])
      refine tk 10 ?_ rfl ?_ ?_
      rotate_left
      ·intro wy hSw; (try dsimp only at hSw); obtain ⟨⟨⟨c0, c1, c2, c3⟩, d0, d1, d2, d3⟩, f0, f1, f2, f3⟩ := HC.out wy (bel_tr hb0 hSw); (go_simp <;> with_reducible rfl)
      (try simp only [List.getElem_toArray, List.getElem_cons_zero, List.getElem_cons_succ, Act.put, List.setIfInBounds_toArray, List.set_cons_zero, List.set_cons_succ])
      refine tk 11 ?_ rfl ?_ ?_
      rotate_left
      ·intro wy hSw; (try dsimp only at hSw); obtain ⟨⟨⟨c0, c1, c2, c3⟩, d0, d1, d2, d3⟩, f0, f1, f2, f3⟩ := HC.out wy (bel_tr hb0 hSw); (go_simp <;> with_reducible rfl)
      (try simp only [List.getElem_toArray, List.getElem_cons_zero, List.getElem_cons_succ, Act.put, List.setIfInBounds_toArray, List.set_cons_zero, List.set_cons_succ])
      refine tk 12 ?_ rfl ?_ ?_
      rotate_left
      ·intro wy hSw; (try dsimp only at hSw); obtain ⟨⟨⟨c0, c1, c2, c3⟩, d0, d1, d2, d3⟩, f0, f1, f2, f3⟩ := HC.out wy (bel_tr hb0 hSw); (go_simp <;> with_reducible rfl)
      (try simp only [List.getElem_toArray, List.getElem_cons_zero, List.getElem_cons_succ, Act.put, List.setIfInBounds_toArray, List.set_cons_zero, List.set_cons_succ])
      refine tk 13 ?_ rfl ?_ ?_
      rotate_left
      ·intro wy hSw; (try dsimp only at hSw); obtain ⟨⟨⟨c0, c1, c2, c3⟩, d0, d1, d2, d3⟩, f0, f1, f2, f3⟩ := HC.out wy (bel_tr hb0 hSw); (go_simp <;> with_reducible rfl)
      (try simp only [List.getElem_toArray, List.getElem_cons_zero, List.getElem_cons_succ, Act.put, List.setIfInBounds_toArray, List.set_cons_zero, List.set_cons_succ])
      refine tk 14 ?_ rfl ?_ ?_
      rotate_left
      ·intro wy hSw; (try dsimp only at hSw); obtain ⟨⟨⟨c0, c1, c2, c3⟩, d0, d1, d2, d3⟩, f0, f1, f2, f3⟩ := HC.out wy (bel_tr hb0 hSw); (go_simp <;> with_reducible rfl)
      (try simp only [List.getElem_toArray, List.getElem_cons_zero, List.getElem_cons_succ, Act.put, List.setIfInBounds_toArray, List.set_cons_zero, List.set_cons_succ])
      refine tk 15 ?_ rfl ?_ ?_
      rotate_left
      ·intro wy hSw; (try dsimp only at hSw); obtain ⟨⟨⟨c0, c1, c2, c3⟩, d0, d1, d2, d3⟩, f0, f1, f2, f3⟩ := HC.out wy (bel_tr hb0 hSw); (go_simp <;> with_reducible rfl)
      (try simp only [List.getElem_toArray, List.getElem_cons_zero, List.getElem_cons_succ, Act.put, List.setIfInBounds_toArray, List.set_cons_zero, List.set_cons_succ])
      refine tk 16 ?_ rfl ?_ ?_
      rotate_left
      ·intro wy hSw; (try dsimp only at hSw); obtain ⟨⟨⟨c0, c1, c2, c3⟩, d0, d1, d2, d3⟩, f0, f1, f2, f3⟩ := HC.out wy (bel_tr hb0 hSw); (go_simp <;> with_reducible rfl)
      (try simp only [List.getElem_toArray, List.getElem_cons_zero, List.getElem_cons_succ, Act.put, List.setIfInBounds_toArray, List.set_cons_zero, List.set_cons_succ])
      refine tk 17 ?_ rfl ?_ ?_
      rotate_left
      ·intro wy hSw; (try dsimp only at hSw); obtain ⟨⟨⟨c0, c1, c2, c3⟩, d0, d1, d2, d3⟩, f0, f1, f2, f3⟩ := HC.out wy (bel_tr hb0 hSw); (go_simp <;> with_reducible rfl)
      (try simp only [List.getElem_toArray, List.getElem_cons_zero, List.getElem_cons_succ, Act.put, List.setIfInBounds_toArray, List.set_cons_zero, List.set_cons_succ])
      refine tk 18 ?_ rfl ?_ ?_
      rotate_left
      ·intro wy hSw; (try dsimp only at hSw); obtain ⟨⟨⟨c0, c1, c2, c3⟩, d0, d1, d2, d3⟩, f0, f1, f2, f3⟩ := HC.out wy (bel_tr hb0 hSw); (go_simp <;> with_reducible rfl)
      (try simp only [List.getElem_toArray, List.getElem_cons_zero, List.getElem_cons_succ, Act.put, List.setIfInBounds_toArray, List.set_cons_zero, List.set_cons_succ])
      refine tk 19 ?_ rfl ?_ ?_
      rotate_left
      ·intro wy hSw; (try dsimp only at hSw); obtain ⟨⟨⟨c0, c1, c2, c3⟩, d0, d1, d2, d3⟩, f0, f1, f2, f3⟩ := HC.out wy (bel_tr hb0 hSw); (go_simp <;> with_reducible rfl)
      (try simp only [List.getElem_toArray, List.getElem_cons_zero, List.getElem_cons_succ, Act.put, List.setIfInBounds_toArray, List.set_cons_zero, List.set_cons_succ])
      refine wpT_done (by kernel_rfl) ?_
      go_wp2_with fail
      refine wp_region_tail (S := (fun w' => Below (w.alloc (.cells #[.int .i64 0, .slice none 0 0] 127)).heap.size (w.alloc (.cells #[.int .i64 0, .slice none 0 0] 127)) w')) 17 (by kernel_rfl) (by kernel_rfl) ?_ (fun hHeld => ?_)
      ·(repeat (first | exact Below.refl _ _ | assumption | refine bel_al ?_ _ | refine Below.drew ?_ | refine bel_dn ?_ _ | refine bel_set ?_ (Nat.le_refl _) _))
      refine tk 0 ?_ rfl ?_ ?_
      rotate_left
      ·intro wy hSw; (try dsimp only at hSw); obtain ⟨⟨⟨c0, c1, c2, c3⟩, d0, d1, d2, d3⟩, f0, f1, f2, f3⟩ := HC.out wy (bel_tr hb0 hSw); (go_simp <;> with_reducible rfl)
      (try simp only [List.getElem_toArray, List.getElem_cons_zero, Act.put, List.setIfInBounds_toArray, List.set_cons_zero, List.set_cons_succ])
      refine tk 1 ?_ rfl ?_ ?_
      rotate_left
      ·intro wy hSw; (try dsimp only at hSw); obtain ⟨⟨⟨c0, c1, c2, c3⟩, d0, d1, d2, d3⟩, f0, f1, f2, f3⟩ := HC.out wy (bel_tr hb0 hSw); (go_simp <;> with_reducible rfl)
      (try simp only [List.getElem_toArray, List.getElem_cons_zero, List.getElem_cons_succ, Act.put, List.setIfInBounds_toArray, List.set_cons_zero, List.set_cons_succ])
      refine tk 2 ?_ rfl ?_ ?_
      rotate_left
      ·intro wy hSw; (try dsimp only at hSw); obtain ⟨⟨⟨c0, c1, c2, c3⟩, d0, d1, d2, d3⟩, f0, f1, f2, f3⟩ := HC.out wy (bel_tr hb0 hSw); (go_simp <;> with_reducible rfl)
      (try simp only [List.getElem_toArray, List.getElem_cons_zero, List.getElem_cons_succ, Act.put, List.setIfInBounds_toArray, List.set_cons_zero, List.set_cons_succ])
      refine tk 3 ?_ rfl ?_ ?_
      rotate_left
      ·intro wy hSw; (try dsimp only at hSw); obtain ⟨⟨⟨c0, c1, c2, c3⟩, d0, d1, d2, d3⟩, f0, f1, f2, f3⟩ := HC.out wy (bel_tr hb0 hSw); (go_simp <;> with_reducible rfl)
      (try simp only [List.getElem_toArray, List.getElem_cons_zero, List.getElem_cons_succ, Act.put, List.setIfInBounds_toArray, List.set_cons_zero, List.set_cons_succ])
      refine tk 4 ?_ rfl ?_ ?_
      rotate_left
      ·intro wy hSw; (try dsimp only at hSw); obtain ⟨⟨⟨c0, c1, c2, c3⟩, d0, d1, d2, d3⟩, f0, f1, f2, f3⟩ := HC.out wy (bel_tr hb0 hSw); (go_simp <;> with_reducible rfl)
      (try simp only [List.getElem_toArray, List.getElem_cons_zero, List.getElem_cons_succ, Act.put, List.setIfInBounds_toArray, List.set_cons_zero, List.set_cons_succ])
      refine tk 5 ?_ rfl ?_ ?_
      rotate_left
      ·intro wy hSw; (try dsimp only at hSw); obtain ⟨⟨⟨c0, c1, c2, c3⟩, d0, d1, d2, d3⟩, f0, f1, f2, f3⟩ := HC.out wy (bel_tr hb0 hSw); (go_simp <;> with_reducible rfl)
      (try simp only [List.getElem_toArray, List.getElem_cons_zero, List.getElem_cons_succ, Act.put, List.setIfInBounds_toArray, List.set_cons_zero, List.set_cons_succ])
      refine tk 6 ?_ rfl ?_ ?_
      rotate_left
      ·intro wy hSw; (try dsimp only at hSw); obtain ⟨⟨⟨c0, c1, c2, c3⟩, d0, d1, d2, d3⟩, f0, f1, f2, f3⟩ := HC.out wy (bel_tr hb0 hSw); (go_simp <;> with_reducible rfl)
      (try simp only [List.getElem_toArray, List.getElem_cons_zero, List.getElem_cons_succ, Act.put, List.setIfInBounds_toArray, List.set_cons_zero, List.set_cons_succ])
      refine tk 7 ?_ rfl ?_ ?_
      rotate_left
      ·intro wy hSw; (try dsimp only at hSw); obtain ⟨⟨⟨c0, c1, c2, c3⟩, d0, d1, d2, d3⟩, f0, f1, f2, f3⟩ := HC.out wy (bel_tr hb0 hSw); (go_simp <;> with_reducible rfl)
      (try simp only [List.getElem_toArray, List.getElem_cons_zero, List.getElem_cons_succ, Act.put, List.setIfInBounds_toArray, List.set_cons_zero, List.set_cons_succ])
      refine tk 8 ?_ rfl ?_ ?_
      rotate_left
      ·intro wy hSw; (try dsimp only at hSw); obtain ⟨⟨⟨c0, c1, c2, c3⟩, d0, d1, d2, d3⟩, f0, f1, f2, f3⟩ := HC.out wy (bel_tr hb0 hSw); (go_simp <;> with_reducible rfl)
      (try simp only [List.getElem_toArray, List.getElem_cons_zero, List.getElem_cons_succ, Act.put, List.setIfInBounds_toArray, List.set_cons_zero, List.set_cons_succ])
      refine tk 9 ?_ rfl ?_ ?_
      rotate_left
      ·intro wy hSw; (try dsimp only at hSw); obtain ⟨⟨⟨c0, c1, c2, c3⟩, d0, d1, d2, d3⟩, f0, f1, f2, f3⟩ := HC.out wy (bel_tr hb0 hSw); (go_simp <;> with_reducible rfl)
      (try simp only [List.getElem_toArray, List.getElem_cons_zero, List.getElem_cons_succ, Act.put, List.setIfInBounds_toArray, List.set_cons_zero, List.set_cons_succ])
      refine tk 10 ?_ rfl ?_ ?_
      rotate_left
      ·intro wy hSw; (try dsimp only at hSw); obtain ⟨⟨⟨c0, c1, c2, c3⟩, d0, d1, d2, d3⟩, f0, f1, f2, f3⟩ := HC.out wy (bel_tr hb0 hSw); (go_simp <;> with_reducible rfl)
      (try simp only [List.getElem_toArray, List.getElem_cons_zero, List.getElem_cons_succ, Act.put, List.setIfInBounds_toArray, List.set_cons_zero, List.set_cons_succ])
      refine tk 11 ?_ rfl ?_ ?_
      rotate_left
      ·intro wy hSw; (try dsimp only at hSw); obtain ⟨⟨⟨c0, c1, c2, c3⟩, d0, d1, d2, d3⟩, f0, f1, f2, f3⟩ := HC.out wy (bel_tr hb0 hSw); (go_simp <;> with_reducible rfl)
      (try simp only [List.getElem_toArray, List.getElem_cons_zero, List.getElem_cons_succ, Act.put, List.setIfInBounds_toArray, List.set_cons_zero, List.set_cons_succ])
      refine wpT_one (k := 12) rfl (by kernel_rfl) (fun K hK => ?_)
      go_simp
      refine (HO.out _ (by (repeat (first | exact Below.refl _ _ | assumption | refine bel_al ?_ _ | refine Below.drew ?_ | refine bel_dn ?_ _ | refine bel_set ?_ (Nat.le_refl _) _)))).mono ?_
      rintro r2 w2 ⟨rfl, hb2⟩
      have g2 := bel_tr (w := (w.alloc (.cells #[.int .i64 0, .slice none 0 0] 127))) (by (repeat (first | exact Below.refl _ _ | assumption | refine bel_al ?_ _ | refine Below.drew ?_ | refine bel_dn ?_ _ | refine bel_set ?_ (Nat.le_refl _) _))) hb2
      clear hb2
      have s2 := bel_lt g2
      have b2 := bel_tr hb0 g2
      obtain ⟨x0, x1, xf⟩ := turn_blk g2
      obtain ⟨⟨⟨c0, c1, c2, c3⟩, d0, d1, d2, d3⟩, f0, f1, f2, f3⟩ := HC.out _ b2
      refine hK.out _ _ ?_ (fun hHeld => ?_)
      ·exact g2
      clear hK K
      (try simp only [Act.put, List.setIfInBounds_toArray, List.set_cons_zero, List.set_cons_succ])
      refine tk 13 ?_ rfl ?_ ?_
      rotate_left
      ·intro wy hSw; (try dsimp only at hSw); obtain ⟨⟨⟨c0, c1, c2, c3⟩, d0, d1, d2, d3⟩, f0, f1, f2, f3⟩ := HC.out wy (bel_tr hb0 hSw); (go_simp <;> with_reducible rfl)
      (try simp only [List.getElem_toArray, List.getElem_cons_zero, List.getElem_cons_succ, Act.put, List.setIfInBounds_toArray, List.set_cons_zero, List.set_cons_succ])
      refine tk 14 ?_ rfl ?_ ?_
      rotate_left
      ·intro wy hSw; (try dsimp only at hSw); obtain ⟨⟨⟨c0, c1, c2, c3⟩, d0, d1, d2, d3⟩, f0, f1, f2, f3⟩ := HC.out wy (bel_tr hb0 hSw); (go_simp <;> with_reducible rfl)
      (try simp only [List.getElem_toArray, List.getElem_cons_zero, List.getElem_cons_succ, Act.put, List.setIfInBounds_toArray, List.set_cons_zero, List.set_cons_succ])
      refine tk 15 ?_ rfl ?_ ?_
      rotate_left
      ·intro wy hSw; (try dsimp only at hSw); obtain ⟨⟨⟨c0, c1, c2, c3⟩, d0, d1, d2, d3⟩, f0, f1, f2, f3⟩ := HC.out wy (bel_tr hb0 hSw); (go_simp <;> with_reducible rfl)
      (try simp only [List.getElem_toArray, List.getElem_cons_zero, List.getElem_cons_succ, Act.put, List.setIfInBounds_toArray, List.set_cons_zero, List.set_cons_succ])
      refine tk 16 ?_ rfl ?_ ?_
      rotate_left
      ·intro wy hSw; (try dsimp only at hSw); obtain ⟨⟨⟨c0, c1, c2, c3⟩, d0, d1, d2, d3⟩, f0, f1, f2, f3⟩ := HC.out wy (bel_tr hb0 hSw); (go_simp <;> with_reducible rfl)
      (try simp only [List.getElem_toArray, List.getElem_cons_zero, List.getElem_cons_succ, Act.put, List.setIfInBounds_toArray, List.set_cons_zero, List.set_cons_succ])
      refine wpT_done (by kernel_rfl) ?_
      go_wp2_with (go_at_call 99; refine (HP.out _).mono ?_; rintro r3 w3 ⟨vi, vo, rfl, hk1, hk2, hb3⟩; have g3 := bel_tr g2 hb3; clear hb3; have s3 := bel_lt g3; have b3 := bel_tr hb0 g3; obtain ⟨x0, x1, xf⟩ := turn_blk g3; obtain ⟨⟨⟨c0, c1, c2, c3⟩, d0, d1, d2, d3⟩, f0, f1, f2, f3⟩ := HC.out _ b3; obtain ⟨bi, oi, ni, ki, rfl, hni, hni2, hqi⟩ := kind_first hk1; obtain ⟨bo, oo, no, ko, rfl, hno, hno2, hqo⟩ := kind_first hk2; have HI := hid hqi; have HO2 := hid hqo; clear hk1 hk2 hqi hqo)
      refine wp_region_tail (S := (fun w' => Below w3.heap.size w3 w')) 15 (by kernel_rfl) (by kernel_rfl) ?_ (fun hHeld => ?_)
      ·(repeat (first | exact Below.refl _ _ | assumption | refine bel_al ?_ _ | refine Below.drew ?_ | refine bel_dn ?_ _ | refine bel_set ?_ (Nat.le_refl _) _))
      refine tk 0 ?_ rfl ?_ ?_
      rotate_left
      ·intro wy hSw; (try dsimp only at hSw); obtain ⟨⟨⟨c0, c1, c2, c3⟩, d0, d1, d2, d3⟩, f0, f1, f2, f3⟩ := HC.out wy (bel_tr b3 hSw); have qi := HI.out wy hSw; (go_simp <;> with_reducible rfl)
      (try simp only [List.getElem_toArray, List.getElem_cons_zero, Act.put, List.setIfInBounds_toArray, List.set_cons_zero, List.set_cons_succ])
      refine tk 1 ?_ rfl ?_ ?_
      rotate_left
      ·intro wy hSw; (try dsimp only at hSw); obtain ⟨⟨⟨c0, c1, c2, c3⟩, d0, d1, d2, d3⟩, f0, f1, f2, f3⟩ := HC.out wy (bel_tr b3 hSw); have qi := HI.out wy hSw; (go_simp <;> with_reducible rfl)
      (try simp only [List.getElem_toArray, List.getElem_cons_zero, List.getElem_cons_succ, Act.put, List.setIfInBounds_toArray, List.set_cons_zero, List.set_cons_succ])
      refine tk 2 ?_ rfl ?_ ?_
      rotate_left
      ·intro wy hSw; (try dsimp only at hSw); obtain ⟨⟨⟨c0, c1, c2, c3⟩, d0, d1, d2, d3⟩, f0, f1, f2, f3⟩ := HC.out wy (bel_tr b3 hSw); have qi := HI.out wy hSw; (go_simp <;> with_reducible rfl)
      (try simp only [List.getElem_toArray, List.getElem_cons_zero, List.getElem_cons_succ, Act.put, List.setIfInBounds_toArray, List.set_cons_zero, List.set_cons_succ])
      refine tk 3 ?_ rfl ?_ ?_
      rotate_left
      ·intro wy hSw; (try dsimp only at hSw); obtain ⟨⟨⟨c0, c1, c2, c3⟩, d0, d1, d2, d3⟩, f0, f1, f2, f3⟩ := HC.out wy (bel_tr b3 hSw); have qi := HI.out wy hSw; (go_simp <;> with_reducible rfl)
      (try simp only [List.getElem_toArray, List.getElem_cons_zero, List.getElem_cons_succ, Act.put, List.setIfInBounds_toArray, List.set_cons_zero, List.set_cons_succ])
      refine tk 4 ?_ rfl ?_ ?_
      rotate_left
      ·intro wy hSw; (try dsimp only at hSw); obtain ⟨⟨⟨c0, c1, c2, c3⟩, d0, d1, d2, d3⟩, f0, f1, f2, f3⟩ := HC.out wy (bel_tr b3 hSw); have qi := HI.out wy hSw; (go_simp <;> with_reducible rfl)
      (try simp only [List.getElem_toArray, List.getElem_cons_zero, List.getElem_cons_succ, Act.put, List.setIfInBounds_toArray, List.set_cons_zero, List.set_cons_succ])
      refine tk 5 ?_ rfl ?_ ?_
      rotate_left
      ·intro wy hSw; (try dsimp only at hSw); obtain ⟨⟨⟨c0, c1, c2, c3⟩, d0, d1, d2, d3⟩, f0, f1, f2, f3⟩ := HC.out wy (bel_tr b3 hSw); have qi := HI.out wy hSw; (go_simp <;> with_reducible rfl)
      (try simp only [List.getElem_toArray, List.getElem_cons_zero, List.getElem_cons_succ, Act.put, List.setIfInBounds_toArray, List.set_cons_zero, List.set_cons_succ])
      refine tk 6 ?_ rfl ?_ ?_
      rotate_left
      ·intro wy hSw; (try dsimp only at hSw); obtain ⟨⟨⟨c0, c1, c2, c3⟩, d0, d1, d2, d3⟩, f0, f1, f2, f3⟩ := HC.out wy (bel_tr b3 hSw); have qi := HI.out wy hSw; (go_simp <;> with_reducible rfl)
      (try simp only [List.getElem_toArray, List.getElem_cons_zero, List.getElem_cons_succ, Act.put, List.setIfInBounds_toArray, List.set_cons_zero, List.set_cons_succ])
      refine tk 7 ?_ rfl ?_ ?_
      rotate_left
      ·intro wy hSw; (try dsimp only at hSw); obtain ⟨⟨⟨c0, c1, c2, c3⟩, d0, d1, d2, d3⟩, f0, f1, f2, f3⟩ := HC.out wy (bel_tr b3 hSw); have qi := HI.out wy hSw; (go_simp <;> with_reducible rfl)
      (try simp only [List.getElem_toArray, List.getElem_cons_zero, List.getElem_cons_succ, Act.put, List.setIfInBounds_toArray, List.set_cons_zero, List.set_cons_succ])
      refine tk 8 ?_ rfl ?_ ?_
      rotate_left
      ·intro wy hSw; (try dsimp only at hSw); obtain ⟨⟨⟨c0, c1, c2, c3⟩, d0, d1, d2, d3⟩, f0, f1, f2, f3⟩ := HC.out wy (bel_tr b3 hSw); have qi := HI.out wy hSw; (go_simp <;> with_reducible rfl)
      (try simp only [List.getElem_toArray, List.getElem_cons_zero, List.getElem_cons_succ, Act.put, List.setIfInBounds_toArray, List.set_cons_zero, List.set_cons_succ])
      refine tk 9 ?_ rfl ?_ ?_
      rotate_left
      ·intro wy hSw; (try dsimp only at hSw); obtain ⟨⟨⟨c0, c1, c2, c3⟩, d0, d1, d2, d3⟩, f0, f1, f2, f3⟩ := HC.out wy (bel_tr b3 hSw); have qi := HI.out wy hSw; (go_simp <;> with_reducible rfl)
      (try simp only [List.getElem_toArray, List.getElem_cons_zero, List.getElem_cons_succ, Act.put, List.setIfInBounds_toArray, List.set_cons_zero, List.set_cons_succ])
      refine tk 10 ?_ rfl ?_ ?_
      rotate_left
      ·intro wy hSw; (try dsimp only at hSw); obtain ⟨⟨⟨c0, c1, c2, c3⟩, d0, d1, d2, d3⟩, f0, f1, f2, f3⟩ := HC.out wy (bel_tr b3 hSw); have qi := HI.out wy hSw; (go_simp <;> with_reducible rfl)
      (try simp only [List.getElem_toArray, List.getElem_cons_zero, List.getElem_cons_succ, Act.put, List.setIfInBounds_toArray, List.set_cons_zero, List.set_cons_succ])
      refine tk 11 ?_ rfl ?_ ?_
      rotate_left
      ·intro wy hSw; (try dsimp only at hSw); obtain ⟨⟨⟨c0, c1, c2, c3⟩, d0, d1, d2, d3⟩, f0, f1, f2, f3⟩ := HC.out wy (bel_tr b3 hSw); have qi := HI.out wy hSw; (go_simp <;> with_reducible rfl)
      (try simp only [List.getElem_toArray, List.getElem_cons_zero, List.getElem_cons_succ, Act.put, List.setIfInBounds_toArray, List.set_cons_zero, List.set_cons_succ])
      refine tk 12 ?_ rfl ?_ ?_
      rotate_left
      ·intro wy hSw; (try dsimp only at hSw); obtain ⟨⟨⟨c0, c1, c2, c3⟩, d0, d1, d2, d3⟩, f0, f1, f2, f3⟩ := HC.out wy (bel_tr b3 hSw); have qi := HI.out wy hSw; (go_simp <;> with_reducible rfl)
      (try simp only [List.getElem_toArray, List.getElem_cons_zero, List.getElem_cons_succ, Act.put, List.setIfInBounds_toArray, List.set_cons_zero, List.set_cons_succ])
      refine wpT_one (k := 13) rfl (by kernel_rfl) (fun K hK => ?_)
      go_simp
      refine (HK.out _).mono ?_
      rintro r4 w4 ⟨rfl, hb4⟩
      have h34 := bel_tr (w := w3) (by (repeat (first | exact Below.refl _ _ | assumption | refine bel_al ?_ _ | refine Below.drew ?_ | refine bel_dn ?_ _ | refine bel_set ?_ (Nat.le_refl _) _))) hb4
      have g4 := bel_tr g3 h34
      clear hb4
      have s4 := bel_lt g4
      have b4 := bel_tr hb0 g4
      obtain ⟨x0, x1, xf⟩ := turn_blk g4
      obtain ⟨⟨⟨c0, c1, c2, c3⟩, d0, d1, d2, d3⟩, f0, f1, f2, f3⟩ := HC.out _ b4
      refine hK.out _ _ ?_ (fun hHeld => ?_)
      ·exact h34
      clear hK K
      (try simp only [Act.put, List.setIfInBounds_toArray, List.set_cons_zero, List.set_cons_succ])
      refine tk 14 ?_ rfl ?_ ?_
      rotate_left
      ·intro wy hSw; (try dsimp only at hSw); obtain ⟨⟨⟨c0, c1, c2, c3⟩, d0, d1, d2, d3⟩, f0, f1, f2, f3⟩ := HC.out wy (bel_tr b3 hSw); have qi := HI.out wy hSw; (go_simp <;> with_reducible rfl)
      (try simp only [List.getElem_toArray, List.getElem_cons_zero, List.getElem_cons_succ, Act.put, List.setIfInBounds_toArray, List.set_cons_zero, List.set_cons_succ])
      refine wpT_done (by kernel_rfl) ?_
      go_wp2_with fail
      refine bodyPost_ret (v := .tuple #[.agg #[.int .i64 0, .slice none 0 0], .bool false]) (by simp [results, Tryz.results67, go_sem, x0, x1]) rfl ?_
      exact ⟨_, _, _, _, _, rfl, by (repeat (first | exact Below.refl _ _ | assumption | refine bel_al ?_ _ | refine Below.drew ?_ | refine bel_dn ?_ _ | refine bel_set ?_ (Nat.le_refl _) _)), HG.out _ _⟩
    ·have HP := hid (fun wx => plain_any z.op hop wx)
     have HG := hid (fun w' nv => show Gives w' 0 nv false (r2 (x :: y :: z :: r)) from by rw [two_no (fun h => ge h.2.2.1)]; rfl)
     have eE : ((twoE z.op x.A y.A : Int) != 0) = true := by simp [ge]
     generalize decide (tT z.op ≠ 0) = dt at *
     generalize kI (tT z.op) = li at *
     generalize kO (tT z.op) = lo at *
     generalize kOf x.op = KX at *
     generalize twoE z.op x.A y.A = E at *
     generalize twoN z.op x.A y.A = N at *
     clear hn hcell hcell2 hcell3 h hrun hok
     clear g1 ge hx hop gy hy
     have hb0 : Below w.heap.size w (w.alloc (.cells #[.int .i64 0, .slice none 0 0] 127)) := by (repeat (first | exact Below.refl _ _ | assumption | refine bel_al ?_ _ | refine Below.drew ?_ | refine bel_dn ?_ _ | refine bel_set ?_ (Nat.le_refl _) _))
     obtain ⟨⟨⟨c0, c1, c2, c3⟩, d0, d1, d2, d3⟩, f0, f1, f2, f3⟩ := HC.out _ hb0
     go_enter Tryz.func67, Tryz.ntmps67
     go_wp2_with fail
     refine wp_region_tail (S := (fun w' => Below (w.alloc (.cells #[.int .i64 0, .slice none 0 0] 127)).heap.size (w.alloc (.cells #[.int .i64 0, .slice none 0 0] 127)) w')) 20 (by kernel_rfl) (by kernel_rfl) ?_ (fun hHeld => ?_)
     ·(repeat (first | exact Below.refl _ _ | assumption | refine bel_al ?_ _ | refine Below.drew ?_ | refine bel_dn ?_ _ | refine bel_set ?_ (Nat.le_refl _) _))
     refine tk 0 ?_ rfl ?_ ?_
     rotate_left
     ·intro wy hSw; (try dsimp only at hSw); obtain ⟨⟨⟨c0, c1, c2, c3⟩, d0, d1, d2, d3⟩, f0, f1, f2, f3⟩ := HC.out wy (bel_tr hb0 hSw); (go_simp <;> with_reducible rfl)
     (try simp only [List.getElem_toArray, List.getElem_cons_zero, Act.put, List.setIfInBounds_toArray, List.set_cons_zero, List.set_cons_succ])
     refine tk 1 ?_ rfl ?_ ?_
     rotate_left
     ·intro wy hSw; (try dsimp only at hSw); obtain ⟨⟨⟨c0, c1, c2, c3⟩, d0, d1, d2, d3⟩, f0, f1, f2, f3⟩ := HC.out wy (bel_tr hb0 hSw); (go_simp <;> with_reducible rfl)
     (try simp only [List.getElem_toArray, List.getElem_cons_zero, List.getElem_cons_succ, Act.put, List.setIfInBounds_toArray, List.set_cons_zero, List.set_cons_succ])
     refine tk 2 ?_ rfl ?_ ?_
     rotate_left
     ·intro wy hSw; (try dsimp only at hSw); obtain ⟨⟨⟨c0, c1, c2, c3⟩, d0, d1, d2, d3⟩, f0, f1, f2, f3⟩ := HC.out wy (bel_tr hb0 hSw); (go_simp <;> with_reducible rfl)
     (try simp only [List.getElem_toArray, List.getElem_cons_zero, List.getElem_cons_succ, Act.put, List.setIfInBounds_toArray, List.set_cons_zero, List.set_cons_succ])
     refine tk 3 ?_ rfl ?_ ?_
     rotate_left
     ·intro wy hSw; (try dsimp only at hSw); obtain ⟨⟨⟨c0, c1, c2, c3⟩, d0, d1, d2, d3⟩, f0, f1, f2, f3⟩ := HC.out wy (bel_tr hb0 hSw); (go_simp <;> with_reducible rfl)
     (try simp only [List.getElem_toArray, List.getElem_cons_zero, List.getElem_cons_succ, Act.put, List.setIfInBounds_toArray, List.set_cons_zero, List.set_cons_succ])
     refine tk 4 ?_ rfl ?_ ?_
     rotate_left
     ·intro wy hSw; (try dsimp only at hSw); obtain ⟨⟨⟨c0, c1, c2, c3⟩, d0, d1, d2, d3⟩, f0, f1, f2, f3⟩ := HC.out wy (bel_tr hb0 hSw); (go_simp <;> with_reducible rfl)
     (try simp only [List.getElem_toArray, List.getElem_cons_zero, List.getElem_cons_succ, Act.put, List.setIfInBounds_toArray, List.set_cons_zero, List.set_cons_succ])
     refine tk 5 ?_ rfl ?_ ?_
     rotate_left
     ·intro wy hSw; (try dsimp only at hSw); obtain ⟨⟨⟨c0, c1, c2, c3⟩, d0, d1, d2, d3⟩, f0, f1, f2, f3⟩ := HC.out wy (bel_tr hb0 hSw); (go_simp <;> with_reducible rfl)
     (try simp only [List.getElem_toArray, List.getElem_cons_zero, List.getElem_cons_succ, Act.put, List.setIfInBounds_toArray, List.set_cons_zero, List.set_cons_succ])
     refine tk 6 ?_ rfl ?_ ?_
     rotate_left
     ·intro wy hSw; (try dsimp only at hSw); obtain ⟨⟨⟨c0, c1, c2, c3⟩, d0, d1, d2, d3⟩, f0, f1, f2, f3⟩ := HC.out wy (bel_tr hb0 hSw); (go_simp <;> with_reducible rfl)
     (try simp only [List.getElem_toArray, List.getElem_cons_zero, List.getElem_cons_succ, Act.put, List.setIfInBounds_toArray, List.set_cons_zero, List.set_cons_succ])
     refine wpT_one (k := 7) rfl (by kernel_rfl) (fun K hK => ?_)
     go_simp
     refine (HN2.out _).mono ?_
     rintro r1 w1 ⟨rfl, hb1⟩
     have g1 := bel_tr (w := (w.alloc (.cells #[.int .i64 0, .slice none 0 0] 127))) (by (repeat (first | exact Below.refl _ _ | assumption | refine bel_al ?_ _ | refine Below.drew ?_ | refine bel_dn ?_ _ | refine bel_set ?_ (Nat.le_refl _) _))) hb1
     clear hb1
     have s1 := bel_lt g1
     have b1 := bel_tr hb0 g1
     obtain ⟨x0, x1, xf⟩ := turn_blk g1
     obtain ⟨⟨⟨c0, c1, c2, c3⟩, d0, d1, d2, d3⟩, f0, f1, f2, f3⟩ := HC.out _ b1
     refine hK.out _ _ ?_ (fun hHeld => ?_)
     ·exact g1
     clear hK K
     (try simp only [Act.put, List.setIfInBounds_toArray, List.set_cons_zero, List.set_cons_succ])
     refine tk 8 ?_ rfl ?_ ?_
     rotate_left
     ·intro wy hSw; (try dsimp only at hSw); obtain ⟨⟨⟨c0, c1, c2, c3⟩, d0, d1, d2, d3⟩, f0, f1, f2, f3⟩ := HC.out wy (bel_tr hb0 hSw); (go_simp <;> with_reducible rfl)
     (try simp only [List.getElem_toArray, List.getElem_cons_zero, List.getElem_cons_succ, Act.put, List.setIfInBounds_toArray, List.set_cons_zero, List.set_cons_succ])
     refine tk 9 ?_ rfl ?_ ?_
     rotate_left
     ·intro wy hSw; (try dsimp only at hSw); obtain ⟨⟨⟨c0, c1, c2, c3⟩, d0, d1, d2, d3⟩, f0, f1, f2, f3⟩ := HC.out wy (bel_tr hb0 hSw); (go_simp <;> with_reducible rfl)
     (try simp only [List.getElem_toArray, List.getElem_cons_zero, List.getElem_cons_succ, Act.put, List.setIfInBounds_toArray, List.set_cons_zero, List.set_cons_succ])
     refine tk 10 ?_ rfl ?_ ?_
     rotate_left
     ·intro wy hSw; (try dsimp only at hSw); obtain ⟨⟨⟨c0, c1, c2, c3⟩, d0, d1, d2, d3⟩, f0, f1, f2, f3⟩ := HC.out wy (bel_tr hb0 hSw); (go_simp <;> with_reducible rfl)
     (try simp only [List.getElem_toArray, List.getElem_cons_zero, List.getElem_cons_succ, Act.put, List.setIfInBounds_toArray, List.set_cons_zero, List.set_cons_succ])
     refine tk 11 ?_ rfl ?_ ?_
     rotate_left
     ·intro wy hSw; (try dsimp only at hSw); obtain ⟨⟨⟨c0, c1, c2, c3⟩, d0, d1, d2, d3⟩, f0, f1, f2, f3⟩ := HC.out wy (bel_tr hb0 hSw); (go_simp <;> with_reducible rfl)
     (try simp only [List.getElem_toArray, List.getElem_cons_zero, List.getElem_cons_succ, Act.put, List.setIfInBounds_toArray, List.set_cons_zero, List.set_cons_succ])
     refine tk 12 ?_ rfl ?_ ?_
     rotate_left
     ·intro wy hSw; (try dsimp only at hSw); obtain ⟨⟨⟨c0, c1, c2, c3⟩, d0, d1, d2, d3⟩, f0, f1, f2, f3⟩ := HC.out wy (bel_tr hb0 hSw); (go_simp <;> with_reducible rfl)
     (try simp only [List.getElem_toArray, List.getElem_cons_zero, List.getElem_cons_succ, Act.put, List.setIfInBounds_toArray, List.set_cons_zero, List.set_cons_succ])
     refine tk 13 ?_ rfl ?_ ?_
     rotate_left
     ·intro wy hSw; (try dsimp only at hSw); obtain ⟨⟨⟨c0, c1, c2, c3⟩, d0, d1, d2, d3⟩, f0, f1, f2, f3⟩ := HC.out wy (bel_tr hb0 hSw); (go_simp <;> with_reducible rfl)
     (try simp only [List.getElem_toArray, List.getElem_cons_zero, List.getElem_cons_succ, Act.put, List.setIfInBounds_toArray, List.set_cons_zero, List.set_cons_succ])
     refine tk 14 ?_ rfl ?_ ?_
     rotate_left
     ·intro wy hSw; (try dsimp only at hSw); obtain ⟨⟨⟨c0, c1, c2, c3⟩, d0, d1, d2, d3⟩, f0, f1, f2, f3⟩ := HC.out wy (bel_tr hb0 hSw); (go_simp <;> with_reducible rfl)
     (try simp only [List.getElem_toArray, List.getElem_cons_zero, List.getElem_cons_succ, Act.put, List.setIfInBounds_toArray, List.set_cons_zero, List.set_cons_succ])
     refine tk 15 ?_ rfl ?_ ?_
     rotate_left
     ·intro wy hSw; (try dsimp only at hSw); obtain ⟨⟨⟨c0, c1, c2, c3⟩, d0, d1, d2, d3⟩, f0, f1, f2, f3⟩ := HC.out wy (bel_tr hb0 hSw); (go_simp <;> with_reducible rfl)
     (try simp only [List.getElem_toArray, List.getElem_cons_zero, List.getElem_cons_succ, Act.put, List.setIfInBounds_toArray, List.set_cons_zero, List.set_cons_succ])
     refine tk 16 ?_ rfl ?_ ?_
     rotate_left
     ·intro wy hSw; (try dsimp only at hSw); obtain ⟨⟨⟨c0, c1, c2, c3⟩, d0, d1, d2, d3⟩, f0, f1, f2, f3⟩ := HC.out wy (bel_tr hb0 hSw); (go_simp <;> with_reducible rfl)
     (try simp only [List.getElem_toArray, List.getElem_cons_zero, List.getElem_cons_succ, Act.put, List.setIfInBounds_toArray, List.set_cons_zero, List.set_cons_succ])
     refine tk 17 ?_ rfl ?_ ?_
     rotate_left
     ·intro wy hSw; (try dsimp only at hSw); obtain ⟨⟨⟨c0, c1, c2, c3⟩, d0, d1, d2, d3⟩, f0, f1, f2, f3⟩ := HC.out wy (bel_tr hb0 hSw); (go_simp <;> with_reducible rfl)
     (try simp only [List.getElem_toArray, List.getElem_cons_zero, List.getElem_cons_succ, Act.put, List.setIfInBounds_toArray, List.set_cons_zero, List.set_cons_succ])
     refine tk 18 ?_ rfl ?_ ?_
     rotate_left
     ·intro wy hSw; (try dsimp only at hSw); obtain ⟨⟨⟨c0, c1, c2, c3⟩, d0, d1, d2, d3⟩, f0, f1, f2, f3⟩ := HC.out wy (bel_tr hb0 hSw); (go_simp <;> with_reducible rfl)
     (try simp only [List.getElem_toArray, List.getElem_cons_zero, List.getElem_cons_succ, Act.put, List.setIfInBounds_toArray, List.set_cons_zero, List.set_cons_succ])
     refine tk 19 ?_ rfl ?_ ?_
     rotate_left
     ·intro wy hSw; (try dsimp only at hSw); obtain ⟨⟨⟨c0, c1, c2, c3⟩, d0, d1, d2, d3⟩, f0, f1, f2, f3⟩ := HC.out wy (bel_tr hb0 hSw); (go_simp <;> with_reducible rfl)
     (try simp only [List.getElem_toArray, List.getElem_cons_zero, List.getElem_cons_succ, Act.put, List.setIfInBounds_toArray, List.set_cons_zero, List.set_cons_succ])
     refine wpT_done (by kernel_rfl) ?_
     go_wp2_with fail
     refine wp_region_tail (S := (fun w' => Below (w.alloc (.cells #[.int .i64 0, .slice none 0 0] 127)).heap.size (w.alloc (.cells #[.int .i64 0, .slice none 0 0] 127)) w')) 17 (by kernel_rfl) (by kernel_rfl) ?_ (fun hHeld => ?_)
     ·(repeat (first | exact Below.refl _ _ | assumption | refine bel_al ?_ _ | refine Below.drew ?_ | refine bel_dn ?_ _ | refine bel_set ?_ (Nat.le_refl _) _))
     refine tk 0 ?_ rfl ?_ ?_
     rotate_left
     ·intro wy hSw; (try dsimp only at hSw); obtain ⟨⟨⟨c0, c1, c2, c3⟩, d0, d1, d2, d3⟩, f0, f1, f2, f3⟩ := HC.out wy (bel_tr hb0 hSw); (go_simp <;> with_reducible rfl)
     (try simp only [List.getElem_toArray, List.getElem_cons_zero, Act.put, List.setIfInBounds_toArray, List.set_cons_zero, List.set_cons_succ])
     refine tk 1 ?_ rfl ?_ ?_
     rotate_left
     ·intro wy hSw; (try dsimp only at hSw); obtain ⟨⟨⟨c0, c1, c2, c3⟩, d0, d1, d2, d3⟩, f0, f1, f2, f3⟩ := HC.out wy (bel_tr hb0 hSw); (go_simp <;> with_reducible rfl)
     (try simp only [List.getElem_toArray, List.getElem_cons_zero, List.getElem_cons_succ, Act.put, List.setIfInBounds_toArray, List.set_cons_zero, List.set_cons_succ])
     refine tk 2 ?_ rfl ?_ ?_
     rotate_left
     ·intro wy hSw; (try dsimp only at hSw); obtain ⟨⟨⟨c0, c1, c2, c3⟩, d0, d1, d2, d3⟩, f0, f1, f2, f3⟩ := HC.out wy (bel_tr hb0 hSw); (go_simp <;> with_reducible rfl)
     (try simp only [List.getElem_toArray, List.getElem_cons_zero, List.getElem_cons_succ, Act.put, List.setIfInBounds_toArray, List.set_cons_zero, List.set_cons_succ])
     refine tk 3 ?_ rfl ?_ ?_
     rotate_left
     ·intro wy hSw; (try dsimp only at hSw); obtain ⟨⟨⟨c0, c1, c2, c3⟩, d0, d1, d2, d3⟩, f0, f1, f2, f3⟩ := HC.out wy (bel_tr hb0 hSw); (go_simp <;> with_reducible rfl)
     (try simp only [List.getElem_toArray, List.getElem_cons_zero, List.getElem_cons_succ, Act.put, List.setIfInBounds_toArray, List.set_cons_zero, List.set_cons_succ])
     refine tk 4 ?_ rfl ?_ ?_
     rotate_left
     ·intro wy hSw; (try dsimp only at hSw); obtain ⟨⟨⟨c0, c1, c2, c3⟩, d0, d1, d2, d3⟩, f0, f1, f2, f3⟩ := HC.out wy (bel_tr hb0 hSw); (go_simp <;> with_reducible rfl)
     (try simp only [List.getElem_toArray, List.getElem_cons_zero, List.getElem_cons_succ, Act.put, List.setIfInBounds_toArray, List.set_cons_zero, List.set_cons_succ])
     refine tk 5 ?_ rfl ?_ ?_
     rotate_left
     ·intro wy hSw; (try dsimp only at hSw); obtain ⟨⟨⟨c0, c1, c2, c3⟩, d0, d1, d2, d3⟩, f0, f1, f2, f3⟩ := HC.out wy (bel_tr hb0 hSw); (go_simp <;> with_reducible rfl)
     (try simp only [List.getElem_toArray, List.getElem_cons_zero, List.getElem_cons_succ, Act.put, List.setIfInBounds_toArray, List.set_cons_zero, List.set_cons_succ])
     refine tk 6 ?_ rfl ?_ ?_
     rotate_left
     ·intro wy hSw; (try dsimp only at hSw); obtain ⟨⟨⟨c0, c1, c2, c3⟩, d0, d1, d2, d3⟩, f0, f1, f2, f3⟩ := HC.out wy (bel_tr hb0 hSw); (go_simp <;> with_reducible rfl)
     (try simp only [List.getElem_toArray, List.getElem_cons_zero, List.getElem_cons_succ, Act.put, List.setIfInBounds_toArray, List.set_cons_zero, List.set_cons_succ])
     refine tk 7 ?_ rfl ?_ ?_
     rotate_left
     ·intro wy hSw; (try dsimp only at hSw); obtain ⟨⟨⟨c0, c1, c2, c3⟩, d0, d1, d2, d3⟩, f0, f1, f2, f3⟩ := HC.out wy (bel_tr hb0 hSw); (go_simp <;> with_reducible rfl)
     (try simp only [List.getElem_toArray, List.getElem_cons_zero, List.getElem_cons_succ, Act.put, List.setIfInBounds_toArray, List.set_cons_zero, List.set_cons_succ])
     refine tk 8 ?_ rfl ?_ ?_
     rotate_left
     ·intro wy hSw; (try dsimp only at hSw); obtain ⟨⟨⟨c0, c1, c2, c3⟩, d0, d1, d2, d3⟩, f0, f1, f2, f3⟩ := HC.out wy (bel_tr hb0 hSw); (go_simp <;> with_reducible rfl)
     (try simp only [List.getElem_toArray, List.getElem_cons_zero, List.getElem_cons_succ, Act.put, List.setIfInBounds_toArray, List.set_cons_zero, List.set_cons_succ])
     refine tk 9 ?_ rfl ?_ ?_
     rotate_left
     ·intro wy hSw; (try dsimp only at hSw); obtain ⟨⟨⟨c0, c1, c2, c3⟩, d0, d1, d2, d3⟩, f0, f1, f2, f3⟩ := HC.out wy (bel_tr hb0 hSw); (go_simp <;> with_reducible rfl)
     (try simp only [List.getElem_toArray, List.getElem_cons_zero, List.getElem_cons_succ, Act.put, List.setIfInBounds_toArray, List.set_cons_zero, List.set_cons_succ])
     refine tk 10 ?_ rfl ?_ ?_
     rotate_left
     ·intro wy hSw; (try dsimp only at hSw); obtain ⟨⟨⟨c0, c1, c2, c3⟩, d0, d1, d2, d3⟩, f0, f1, f2, f3⟩ := HC.out wy (bel_tr hb0 hSw); (go_simp <;> with_reducible rfl)
     (try simp only [List.getElem_toArray, List.getElem_cons_zero, List.getElem_cons_succ, Act.put, List.setIfInBounds_toArray, List.set_cons_zero, List.set_cons_succ])
     refine tk 11 ?_ rfl ?_ ?_
     rotate_left
     ·intro wy hSw; (try dsimp only at hSw); obtain ⟨⟨⟨c0, c1, c2, c3⟩, d0, d1, d2, d3⟩, f0, f1, f2, f3⟩ := HC.out wy (bel_tr hb0 hSw); (go_simp <;> with_reducible rfl)
     (try simp only [List.getElem_toArray, List.getElem_cons_zero, List.getElem_cons_succ, Act.put, List.setIfInBounds_toArray, List.set_cons_zero, List.set_cons_succ])
     refine wpT_one (k := 12) rfl (by kernel_rfl) (fun K hK => ?_)
     go_simp
     refine (HO.out _ (by (repeat (first | exact Below.refl _ _ | assumption | refine bel_al ?_ _ | refine Below.drew ?_ | refine bel_dn ?_ _ | refine bel_set ?_ (Nat.le_refl _) _)))).mono ?_
     rintro r2 w2 ⟨rfl, hb2⟩
     have g2 := bel_tr (w := (w.alloc (.cells #[.int .i64 0, .slice none 0 0] 127))) (by (repeat (first | exact Below.refl _ _ | assumption | refine bel_al ?_ _ | refine Below.drew ?_ | refine bel_dn ?_ _ | refine bel_set ?_ (Nat.le_refl _) _))) hb2
     clear hb2
     have s2 := bel_lt g2
     have b2 := bel_tr hb0 g2
     obtain ⟨x0, x1, xf⟩ := turn_blk g2
     obtain ⟨⟨⟨c0, c1, c2, c3⟩, d0, d1, d2, d3⟩, f0, f1, f2, f3⟩ := HC.out _ b2
     refine hK.out _ _ ?_ (fun hHeld => ?_)
     ·exact g2
     clear hK K
     (try simp only [Act.put, List.setIfInBounds_toArray, List.set_cons_zero, List.set_cons_succ])
     refine tk 13 ?_ rfl ?_ ?_
     rotate_left
     ·intro wy hSw; (try dsimp only at hSw); obtain ⟨⟨⟨c0, c1, c2, c3⟩, d0, d1, d2, d3⟩, f0, f1, f2, f3⟩ := HC.out wy (bel_tr hb0 hSw); (go_simp <;> with_reducible rfl)
     (try simp only [List.getElem_toArray, List.getElem_cons_zero, List.getElem_cons_succ, Act.put, List.setIfInBounds_toArray, List.set_cons_zero, List.set_cons_succ])
     refine tk 14 ?_ rfl ?_ ?_
     rotate_left
     ·intro wy hSw; (try dsimp only at hSw); obtain ⟨⟨⟨c0, c1, c2, c3⟩, d0, d1, d2, d3⟩, f0, f1, f2, f3⟩ := HC.out wy (bel_tr hb0 hSw); (go_simp <;> with_reducible rfl)
     (try simp only [List.getElem_toArray, List.getElem_cons_zero, List.getElem_cons_succ, Act.put, List.setIfInBounds_toArray, List.set_cons_zero, List.set_cons_succ])
     refine tk 15 ?_ rfl ?_ ?_
     rotate_left
     ·intro wy hSw; (try dsimp only at hSw); obtain ⟨⟨⟨c0, c1, c2, c3⟩, d0, d1, d2, d3⟩, f0, f1, f2, f3⟩ := HC.out wy (bel_tr hb0 hSw); (go_simp <;> with_reducible rfl)
     (try simp only [List.getElem_toArray, List.getElem_cons_zero, List.getElem_cons_succ, Act.put, List.setIfInBounds_toArray, List.set_cons_zero, List.set_cons_succ])
     refine tk 16 ?_ rfl ?_ ?_
     rotate_left
     ·intro wy hSw; (try dsimp only at hSw); obtain ⟨⟨⟨c0, c1, c2, c3⟩, d0, d1, d2, d3⟩, f0, f1, f2, f3⟩ := HC.out wy (bel_tr hb0 hSw); (go_simp <;> with_reducible rfl)
     (try simp only [List.getElem_toArray, List.getElem_cons_zero, List.getElem_cons_succ, Act.put, List.setIfInBounds_toArray, List.set_cons_zero, List.set_cons_succ])
     refine wpT_done (by kernel_rfl) ?_
     go_wp2_with (go_at_call 99; refine (HP.out _).mono ?_; rintro r3 w3 ⟨vi, vo, rfl, hk1, hk2, hb3⟩; have g3 := bel_tr g2 hb3; clear hb3; have s3 := bel_lt g3; have b3 := bel_tr hb0 g3; obtain ⟨x0, x1, xf⟩ := turn_blk g3; obtain ⟨⟨⟨c0, c1, c2, c3⟩, d0, d1, d2, d3⟩, f0, f1, f2, f3⟩ := HC.out _ b3; clear hk1 hk2)
     go_quiet (fail)
     go_wp2_with fail
     refine bodyPost_ret (v := .tuple #[.agg #[.int .i64 0, .slice none 0 0], .bool false]) (by simp [results, Tryz.results67, go_sem, x0, x1]) rfl ?_
     exact ⟨_, _, _, _, _, rfl, by (repeat (first | exact Below.refl _ _ | assumption | refine bel_al ?_ _ | refine Below.drew ?_ | refine bel_dn ?_ _ | refine bel_set ?_ (Nat.le_refl _) _)), HG.out _ _⟩
   ·have ey : ((y.op : Int) == (x.op : Int)) = false := opF gy
    have HG := hid (fun w' nv => show Gives w' 0 nv false (r2 (x :: y :: z :: r)) from by rw [two_no (fun h => gy h.2.1)]; rfl)
    clear hn hcell hcell2 hcell3 h hrun hok
    have hb0 : Below w.heap.size w (w.alloc (.cells #[.int .i64 0, .slice none 0 0] 127)) := by (repeat (first | exact Below.refl _ _ | assumption | refine bel_al ?_ _ | refine Below.drew ?_ | refine bel_dn ?_ _ | refine bel_set ?_ (Nat.le_refl _) _))
    obtain ⟨⟨⟨c0, c1, c2, c3⟩, d0, d1, d2, d3⟩, f0, f1, f2, f3⟩ := HC.out _ hb0
    clear g1 gy
    go_enter Tryz.func67, Tryz.ntmps67
    go_wp2_with fail
    refine wp_region_tail (S := (fun w' => Below (w.alloc (.cells #[.int .i64 0, .slice none 0 0] 127)).heap.size (w.alloc (.cells #[.int .i64 0, .slice none 0 0] 127)) w')) 20 (by kernel_rfl) (by kernel_rfl) ?_ (fun hHeld => ?_)
    ·(repeat (first | exact Below.refl _ _ | assumption | refine bel_al ?_ _ | refine Below.drew ?_ | refine bel_dn ?_ _ | refine bel_set ?_ (Nat.le_refl _) _))
    refine tk 0 ?_ rfl ?_ ?_
    rotate_left
    ·intro wy hSw; (try dsimp only at hSw); obtain ⟨⟨⟨c0, c1, c2, c3⟩, d0, d1, d2, d3⟩, f0, f1, f2, f3⟩ := HC.out wy (bel_tr hb0 hSw); (go_simp <;> with_reducible rfl)
    (try simp only [List.getElem_toArray, List.getElem_cons_zero, Act.put, List.setIfInBounds_toArray, List.set_cons_zero, List.set_cons_succ])
    refine tk 1 ?_ rfl ?_ ?_
    rotate_left
    ·intro wy hSw; (try dsimp only at hSw); obtain ⟨⟨⟨c0, c1, c2, c3⟩, d0, d1, d2, d3⟩, f0, f1, f2, f3⟩ := HC.out wy (bel_tr hb0 hSw); (go_simp <;> with_reducible rfl)
    (try simp only [List.getElem_toArray, List.getElem_cons_zero, List.getElem_cons_succ, Act.put, List.setIfInBounds_toArray, List.set_cons_zero, List.set_cons_succ])
    refine tk 2 ?_ rfl ?_ ?_
    rotate_left
    ·intro wy hSw; (try dsimp only at hSw); obtain ⟨⟨⟨c0, c1, c2, c3⟩, d0, d1, d2, d3⟩, f0, f1, f2, f3⟩ := HC.out wy (bel_tr hb0 hSw); (go_simp <;> with_reducible rfl)
    (try simp only [List.getElem_toArray, List.getElem_cons_zero, List.getElem_cons_succ, Act.put, List.setIfInBounds_toArray, List.set_cons_zero, List.set_cons_succ])
    refine tk 3 ?_ rfl ?_ ?_
    rotate_left
    ·intro wy hSw; (try dsimp only at hSw); obtain ⟨⟨⟨c0, c1, c2, c3⟩, d0, d1, d2, d3⟩, f0, f1, f2, f3⟩ := HC.out wy (bel_tr hb0 hSw); (go_simp <;> with_reducible rfl)
    (try simp only [List.getElem_toArray, List.getElem_cons_zero, List.getElem_cons_succ, Act.put, List.setIfInBounds_toArray, List.set_cons_zero, List.set_cons_succ])
    refine tk 4 ?_ rfl ?_ ?_
    rotate_left
    ·intro wy hSw; (try dsimp only at hSw); obtain ⟨⟨⟨c0, c1, c2, c3⟩, d0, d1, d2, d3⟩, f0, f1, f2, f3⟩ := HC.out wy (bel_tr hb0 hSw); (go_simp <;> with_reducible rfl)
    (try simp only [List.getElem_toArray, List.getElem_cons_zero, List.getElem_cons_succ, Act.put, List.setIfInBounds_toArray, List.set_cons_zero, List.set_cons_succ])
    refine tk 5 ?_ rfl ?_ ?_
    rotate_left
    ·intro wy hSw; (try dsimp only at hSw); obtain ⟨⟨⟨c0, c1, c2, c3⟩, d0, d1, d2, d3⟩, f0, f1, f2, f3⟩ := HC.out wy (bel_tr hb0 hSw); (go_simp <;> with_reducible rfl)
    (try simp only [List.getElem_toArray, List.getElem_cons_zero, List.getElem_cons_succ, Act.put, List.setIfInBounds_toArray, List.set_cons_zero, List.set_cons_succ])
    refine tk 6 ?_ rfl ?_ ?_
    rotate_left
    ·intro wy hSw; (try dsimp only at hSw); obtain ⟨⟨⟨c0, c1, c2, c3⟩, d0, d1, d2, d3⟩, f0, f1, f2, f3⟩ := HC.out wy (bel_tr hb0 hSw); (go_simp <;> with_reducible rfl)
    (try simp only [List.getElem_toArray, List.getElem_cons_zero, List.getElem_cons_succ, Act.put, List.setIfInBounds_toArray, List.set_cons_zero, List.set_cons_succ])
    refine wpT_one (k := 7) rfl (by kernel_rfl) (fun K hK => ?_)
    go_simp
    refine (HN2.out _).mono ?_
    rintro r1 w1 ⟨rfl, hb1⟩
    have g1 := bel_tr (w := (w.alloc (.cells #[.int .i64 0, .slice none 0 0] 127))) (by (repeat (first | exact Below.refl _ _ | assumption | refine bel_al ?_ _ | refine Below.drew ?_ | refine bel_dn ?_ _ | refine bel_set ?_ (Nat.le_refl _) _))) hb1
    clear hb1
    have s1 := bel_lt g1
    have b1 := bel_tr hb0 g1
    obtain ⟨x0, x1, xf⟩ := turn_blk g1
    obtain ⟨⟨⟨c0, c1, c2, c3⟩, d0, d1, d2, d3⟩, f0, f1, f2, f3⟩ := HC.out _ b1
    refine hK.out _ _ ?_ (fun hHeld => ?_)
    ·exact g1
    clear hK K
    (try simp only [Act.put, List.setIfInBounds_toArray, List.set_cons_zero, List.set_cons_succ])
    refine tk 8 ?_ rfl ?_ ?_
    rotate_left
    ·intro wy hSw; (try dsimp only at hSw); obtain ⟨⟨⟨c0, c1, c2, c3⟩, d0, d1, d2, d3⟩, f0, f1, f2, f3⟩ := HC.out wy (bel_tr hb0 hSw); (go_simp <;> with_reducible rfl)
    (try simp only [List.getElem_toArray, List.getElem_cons_zero, List.getElem_cons_succ, Act.put, List.setIfInBounds_toArray, List.set_cons_zero, List.set_cons_succ])
    refine tk 9 ?_ rfl ?_ ?_
    rotate_left
    ·intro wy hSw; (try dsimp only at hSw); obtain ⟨⟨⟨c0, c1, c2, c3⟩, d0, d1, d2, d3⟩, f0, f1, f2, f3⟩ := HC.out wy (bel_tr hb0 hSw); (go_simp <;> with_reducible rfl)
    (try simp only [List.getElem_toArray, List.getElem_cons_zero, List.getElem_cons_succ, Act.put, List.setIfInBounds_toArray, List.set_cons_zero, List.set_cons_succ])
    refine tk 10 ?_ rfl ?_ ?_
    rotate_left
    ·intro wy hSw; (try dsimp only at hSw); obtain ⟨⟨⟨c0, c1, c2, c3⟩, d0, d1, d2, d3⟩, f0, f1, f2, f3⟩ := HC.out wy (bel_tr hb0 hSw); (go_simp <;> with_reducible rfl)
    (try simp only [List.getElem_toArray, List.getElem_cons_zero, List.getElem_cons_succ, Act.put, List.setIfInBounds_toArray, List.set_cons_zero, List.set_cons_succ])
    refine tk 11 ?_ rfl ?_ ?_
    rotate_left
    ·intro wy hSw; (try dsimp only at hSw); obtain ⟨⟨⟨c0, c1, c2, c3⟩, d0, d1, d2, d3⟩, f0, f1, f2, f3⟩ := HC.out wy (bel_tr hb0 hSw); (go_simp <;> with_reducible rfl)
    (try simp only [List.getElem_toArray, List.getElem_cons_zero, List.getElem_cons_succ, Act.put, List.setIfInBounds_toArray, List.set_cons_zero, List.set_cons_succ])
    refine tk 12 ?_ rfl ?_ ?_
    rotate_left
    ·intro wy hSw; (try dsimp only at hSw); obtain ⟨⟨⟨c0, c1, c2, c3⟩, d0, d1, d2, d3⟩, f0, f1, f2, f3⟩ := HC.out wy (bel_tr hb0 hSw); (go_simp <;> with_reducible rfl)
    (try simp only [List.getElem_toArray, List.getElem_cons_zero, List.getElem_cons_succ, Act.put, List.setIfInBounds_toArray, List.set_cons_zero, List.set_cons_succ])
    refine tk 13 ?_ rfl ?_ ?_
    rotate_left
    ·intro wy hSw; (try dsimp only at hSw); obtain ⟨⟨⟨c0, c1, c2, c3⟩, d0, d1, d2, d3⟩, f0, f1, f2, f3⟩ := HC.out wy (bel_tr hb0 hSw); (go_simp <;> with_reducible rfl)
    (try simp only [List.getElem_toArray, List.getElem_cons_zero, List.getElem_cons_succ, Act.put, List.setIfInBounds_toArray, List.set_cons_zero, List.set_cons_succ])
    refine tk 14 ?_ rfl ?_ ?_
    rotate_left
    ·intro wy hSw; (try dsimp only at hSw); obtain ⟨⟨⟨c0, c1, c2, c3⟩, d0, d1, d2, d3⟩, f0, f1, f2, f3⟩ := HC.out wy (bel_tr hb0 hSw); (go_simp <;> with_reducible rfl)
    (try simp only [List.getElem_toArray, List.getElem_cons_zero, List.getElem_cons_succ, Act.put, List.setIfInBounds_toArray, List.set_cons_zero, List.set_cons_succ])
    refine tk 15 ?_ rfl ?_ ?_
    rotate_left
    ·intro wy hSw; (try dsimp only at hSw); obtain ⟨⟨⟨c0, c1, c2, c3⟩, d0, d1, d2, d3⟩, f0, f1, f2, f3⟩ := HC.out wy (bel_tr hb0 hSw); (go_simp <;> with_reducible rfl)
    (try simp only [List.getElem_toArray, List.getElem_cons_zero, List.getElem_cons_succ, Act.put, List.setIfInBounds_toArray, List.set_cons_zero, List.set_cons_succ])
    refine tk 16 ?_ rfl ?_ ?_
    rotate_left
    ·intro wy hSw; (try dsimp only at hSw); obtain ⟨⟨⟨c0, c1, c2, c3⟩, d0, d1, d2, d3⟩, f0, f1, f2, f3⟩ := HC.out wy (bel_tr hb0 hSw); (go_simp <;> with_reducible rfl)
    (try simp only [List.getElem_toArray, List.getElem_cons_zero, List.getElem_cons_succ, Act.put, List.setIfInBounds_toArray, List.set_cons_zero, List.set_cons_succ])
    refine tk 17 ?_ rfl ?_ ?_
    rotate_left
    ·intro wy hSw; (try dsimp only at hSw); obtain ⟨⟨⟨c0, c1, c2, c3⟩, d0, d1, d2, d3⟩, f0, f1, f2, f3⟩ := HC.out wy (bel_tr hb0 hSw); (go_simp <;> with_reducible rfl)
    (try simp only [List.getElem_toArray, List.getElem_cons_zero, List.getElem_cons_succ, Act.put, List.setIfInBounds_toArray, List.set_cons_zero, List.set_cons_succ])
    refine tk 18 ?_ rfl ?_ ?_
    rotate_left
    ·intro wy hSw; (try dsimp only at hSw); obtain ⟨⟨⟨c0, c1, c2, c3⟩, d0, d1, d2, d3⟩, f0, f1, f2, f3⟩ := HC.out wy (bel_tr hb0 hSw); (go_simp <;> with_reducible rfl)
    (try simp only [List.getElem_toArray, List.getElem_cons_zero, List.getElem_cons_succ, Act.put, List.setIfInBounds_toArray, List.set_cons_zero, List.set_cons_succ])
    refine tk 19 ?_ rfl ?_ ?_
    rotate_left
    ·intro wy hSw; (try dsimp only at hSw); obtain ⟨⟨⟨c0, c1, c2, c3⟩, d0, d1, d2, d3⟩, f0, f1, f2, f3⟩ := HC.out wy (bel_tr hb0 hSw); (go_simp <;> with_reducible rfl)
    (try simp only [List.getElem_toArray, List.getElem_cons_zero, List.getElem_cons_succ, Act.put, List.setIfInBounds_toArray, List.set_cons_zero, List.set_cons_succ])
    refine wpT_done (by kernel_rfl) ?_
    go_wp2_with fail
    refine bodyPost_ret (v := .tuple #[.agg #[.int .i64 0, .slice none 0 0], .bool false]) (by simp [results, Tryz.results67, go_sem, x0, x1]) rfl ?_
    exact ⟨_, _, _, _, _, rfl, by (repeat (first | exact Below.refl _ _ | assumption | refine bel_al ?_ _ | refine Below.drew ?_ | refine bel_dn ?_ _ | refine bel_set ?_ (Nat.le_refl _) _)), HG.out _ _⟩
  ·rw [show decide (x.op = 65 ∨ x.op = 66) = false from decide_eq_false g1] at HN2
   have HG := hid (fun w' nv => show Gives w' 0 nv false (r2 (x :: y :: z :: r)) from by rw [two_no (fun h => g1 h.1)]; rfl)
   clear hn hcell hcell2 hcell3 h hrun hok
   have hb0 : Below w.heap.size w (w.alloc (.cells #[.int .i64 0, .slice none 0 0] 127)) := by (repeat (first | exact Below.refl _ _ | assumption | refine bel_al ?_ _ | refine Below.drew ?_ | refine bel_dn ?_ _ | refine bel_set ?_ (Nat.le_refl _) _))
   obtain ⟨⟨⟨c0, c1, c2, c3⟩, d0, d1, d2, d3⟩, f0, f1, f2, f3⟩ := HC.out _ hb0
   clear g1
   go_enter Tryz.func67, Tryz.ntmps67
   go_wp2_with fail
   refine wp_region_tail (S := (fun w' => Below (w.alloc (.cells #[.int .i64 0, .slice none 0 0] 127)).heap.size (w.alloc (.cells #[.int .i64 0, .slice none 0 0] 127)) w')) 20 (by kernel_rfl) (by kernel_rfl) ?_ (fun hHeld => ?_)
   ·(repeat (first | exact Below.refl _ _ | assumption | refine bel_al ?_ _ | refine Below.drew ?_ | refine bel_dn ?_ _ | refine bel_set ?_ (Nat.le_refl _) _))
   refine tk 0 ?_ rfl ?_ ?_
   rotate_left
   ·intro wy hSw; (try dsimp only at hSw); obtain ⟨⟨⟨c0, c1, c2, c3⟩, d0, d1, d2, d3⟩, f0, f1, f2, f3⟩ := HC.out wy (bel_tr hb0 hSw); (go_simp <;> with_reducible rfl)
   (try simp only [List.getElem_toArray, List.getElem_cons_zero, Act.put, List.setIfInBounds_toArray, List.set_cons_zero, List.set_cons_succ])
   refine tk 1 ?_ rfl ?_ ?_
   rotate_left
   ·intro wy hSw; (try dsimp only at hSw); obtain ⟨⟨⟨c0, c1, c2, c3⟩, d0, d1, d2, d3⟩, f0, f1, f2, f3⟩ := HC.out wy (bel_tr hb0 hSw); (go_simp <;> with_reducible rfl)
   (try simp only [List.getElem_toArray, List.getElem_cons_zero, List.getElem_cons_succ, Act.put, List.setIfInBounds_toArray, List.set_cons_zero, List.set_cons_succ])
   refine tk 2 ?_ rfl ?_ ?_
   rotate_left
   ·intro wy hSw; (try dsimp only at hSw); obtain ⟨⟨⟨c0, c1, c2, c3⟩, d0, d1, d2, d3⟩, f0, f1, f2, f3⟩ := HC.out wy (bel_tr hb0 hSw); (go_simp <;> with_reducible rfl)
   (try simp only [List.getElem_toArray, List.getElem_cons_zero, List.getElem_cons_succ, Act.put, List.setIfInBounds_toArray, List.set_cons_zero, List.set_cons_succ])
   refine tk 3 ?_ rfl ?_ ?_
   rotate_left
   ·intro wy hSw; (try dsimp only at hSw); obtain ⟨⟨⟨c0, c1, c2, c3⟩, d0, d1, d2, d3⟩, f0, f1, f2, f3⟩ := HC.out wy (bel_tr hb0 hSw); (go_simp <;> with_reducible rfl)
   (try simp only [List.getElem_toArray, List.getElem_cons_zero, List.getElem_cons_succ, Act.put, List.setIfInBounds_toArray, List.set_cons_zero, List.set_cons_succ])
   refine tk 4 ?_ rfl ?_ ?_
   rotate_left
   ·intro wy hSw; (try dsimp only at hSw); obtain ⟨⟨⟨c0, c1, c2, c3⟩, d0, d1, d2, d3⟩, f0, f1, f2, f3⟩ := HC.out wy (bel_tr hb0 hSw); (go_simp <;> with_reducible rfl)
   (try simp only [List.getElem_toArray, List.getElem_cons_zero, List.getElem_cons_succ, Act.put, List.setIfInBounds_toArray, List.set_cons_zero, List.set_cons_succ])
   refine tk 5 ?_ rfl ?_ ?_
   rotate_left
   ·intro wy hSw; (try dsimp only at hSw); obtain ⟨⟨⟨c0, c1, c2, c3⟩, d0, d1, d2, d3⟩, f0, f1, f2, f3⟩ := HC.out wy (bel_tr hb0 hSw); (go_simp <;> with_reducible rfl)
   (try simp only [List.getElem_toArray, List.getElem_cons_zero, List.getElem_cons_succ, Act.put, List.setIfInBounds_toArray, List.set_cons_zero, List.set_cons_succ])
   refine tk 6 ?_ rfl ?_ ?_
   rotate_left
   ·intro wy hSw; (try dsimp only at hSw); obtain ⟨⟨⟨c0, c1, c2, c3⟩, d0, d1, d2, d3⟩, f0, f1, f2, f3⟩ := HC.out wy (bel_tr hb0 hSw); (go_simp <;> with_reducible rfl)
   (try simp only [List.getElem_toArray, List.getElem_cons_zero, List.getElem_cons_succ, Act.put, List.setIfInBounds_toArray, List.set_cons_zero, List.set_cons_succ])
   refine wpT_one (k := 7) rfl (by kernel_rfl) (fun K hK => ?_)
   go_simp
   refine (HN2.out _).mono ?_
   rintro r1 w1 ⟨rfl, hb1⟩
   have g1 := bel_tr (w := (w.alloc (.cells #[.int .i64 0, .slice none 0 0] 127))) (by (repeat (first | exact Below.refl _ _ | assumption | refine bel_al ?_ _ | refine Below.drew ?_ | refine bel_dn ?_ _ | refine bel_set ?_ (Nat.le_refl _) _))) hb1
   clear hb1
   have s1 := bel_lt g1
   have b1 := bel_tr hb0 g1
   obtain ⟨x0, x1, xf⟩ := turn_blk g1
   obtain ⟨⟨⟨c0, c1, c2, c3⟩, d0, d1, d2, d3⟩, f0, f1, f2, f3⟩ := HC.out _ b1
   refine hK.out _ _ ?_ (fun hHeld => ?_)
   ·exact g1
   clear hK K
   (try simp only [Act.put, List.setIfInBounds_toArray, List.set_cons_zero, List.set_cons_succ])
   refine tk 8 ?_ rfl ?_ ?_
   rotate_left
   ·intro wy hSw; (try dsimp only at hSw); obtain ⟨⟨⟨c0, c1, c2, c3⟩, d0, d1, d2, d3⟩, f0, f1, f2, f3⟩ := HC.out wy (bel_tr hb0 hSw); (go_simp <;> with_reducible rfl)
   (try simp only [List.getElem_toArray, List.getElem_cons_zero, List.getElem_cons_succ, Act.put, List.setIfInBounds_toArray, List.set_cons_zero, List.set_cons_succ])
   refine tk 9 ?_ rfl ?_ ?_
   rotate_left
   ·intro wy hSw; (try dsimp only at hSw); obtain ⟨⟨⟨c0, c1, c2, c3⟩, d0, d1, d2, d3⟩, f0, f1, f2, f3⟩ := HC.out wy (bel_tr hb0 hSw); (go_simp <;> with_reducible rfl)
   (try simp only [List.getElem_toArray, List.getElem_cons_zero, List.getElem_cons_succ, Act.put, List.setIfInBounds_toArray, List.set_cons_zero, List.set_cons_succ])
   refine tk 10 ?_ rfl ?_ ?_
   rotate_left
   ·intro wy hSw; (try dsimp only at hSw); obtain ⟨⟨⟨c0, c1, c2, c3⟩, d0, d1, d2, d3⟩, f0, f1, f2, f3⟩ := HC.out wy (bel_tr hb0 hSw); (go_simp <;> with_reducible rfl)
   (try simp only [List.getElem_toArray, List.getElem_cons_zero, List.getElem_cons_succ, Act.put, List.setIfInBounds_toArray, List.set_cons_zero, List.set_cons_succ])
   refine tku 11 rfl ?_
   (try simp only [List.getElem_toArray, List.getElem_cons_zero, List.getElem_cons_succ, Act.put, List.setIfInBounds_toArray, List.set_cons_zero, List.set_cons_succ])
   refine tku 12 rfl ?_
   (try simp only [List.getElem_toArray, List.getElem_cons_zero, List.getElem_cons_succ, Act.put, List.setIfInBounds_toArray, List.set_cons_zero, List.set_cons_succ])
   refine tku 13 rfl ?_
   (try simp only [List.getElem_toArray, List.getElem_cons_zero, List.getElem_cons_succ, Act.put, List.setIfInBounds_toArray, List.set_cons_zero, List.set_cons_succ])
   refine tku 14 rfl ?_
   (try simp only [List.getElem_toArray, List.getElem_cons_zero, List.getElem_cons_succ, Act.put, List.setIfInBounds_toArray, List.set_cons_zero, List.set_cons_succ])
   refine tku 15 rfl ?_
   (try simp only [List.getElem_toArray, List.getElem_cons_zero, List.getElem_cons_succ, Act.put, List.setIfInBounds_toArray, List.set_cons_zero, List.set_cons_succ])
   refine tku 16 rfl ?_
   (try simp only [List.getElem_toArray, List.getElem_cons_zero, List.getElem_cons_succ, Act.put, List.setIfInBounds_toArray, List.set_cons_zero, List.set_cons_succ])
   refine tku 17 rfl ?_
   (try simp only [List.getElem_toArray, List.getElem_cons_zero, List.getElem_cons_succ, Act.put, List.setIfInBounds_toArray, List.set_cons_zero, List.set_cons_succ])
   refine tku 18 rfl ?_
   (try simp only [List.getElem_toArray, List.getElem_cons_zero, List.getElem_cons_succ, Act.put, List.setIfInBounds_toArray, List.set_cons_zero, List.set_cons_succ])
   refine tku 19 rfl ?_
   (try simp only [List.getElem_toArray, List.getElem_cons_zero, List.getElem_cons_succ, Act.put, List.setIfInBounds_toArray, List.set_cons_zero, List.set_cons_succ])
   refine wpT_done (by kernel_rfl) ?_
   go_wp2_with fail
   refine bodyPost_ret (v := .tuple #[.agg #[.int .i64 0, .slice none 0 0], .bool false]) (by simp [results, Tryz.results67, go_sem, x0, x1]) rfl ?_
   exact ⟨_, _, _, _, _, rfl, by (repeat (first | exact Below.refl _ _ | assumption | refine bel_al ?_ _ | refine Below.drew ?_ | refine bel_dn ?_ _ | refine bel_set ?_ (Nat.le_refl _) _)), HG.out _ _⟩
end Go.Proofs.YtakfineljffoaaaGreatDoor
