/-
  FOLDED BODIES: the program's rules one, two. Condition: math/bits' tables (in RuleP).
-/
import Derived.Test.YtakfineljffoaaaGreatDoorGFoldSays27
namespace Go.Proofs.YtakfineljffoaaaGreatDoor
open Go.RowKit Go.Lib


def kIn (t : Nat) : Nat := if t = 1 ∨ t = 3 ∨ t = 7 then 127 else 126
def kOn (t : Nat) : Nat := if t = 1 ∨ t = 2 ∨ t = 3 ∨ t = 4 then 127 else 126
def kOf (op : Nat) : Nat := if op = 65 then 127 else 126
theorem ki_one {t : Nat} (h : t = 1 ∨ t = 2 ∨ t = 5 ∨ t = 7) : kI t = [(kIn t : Int)] ∧ kO t = [(kOn t : Int)] ∧ decide (t ≠ 0) = true := by rcases h with rfl | rfl | rfl | rfl <;> exact ⟨rfl, rfl, rfl⟩
theorem ki_two {t : Nat} (h : t = 3 ∨ t = 4 ∨ t = 6) : kI t = [(kIn t : Int), (kIn t : Int)] ∧ kO t = [(kOn t : Int)] ∧ decide (t ≠ 0) = true := by rcases h with rfl | rfl | rfl <;> exact ⟨rfl, rfl, rfl⟩
theorem kof_cast (op : Nat) : (if op = 65 then (127 : Int) else 126) = ((kOf op : Nat) : Int) := by unfold kOf; split <;> rfl
theorem one_yes {x y : It} {r : List It} (hc : x.op = 65 ∨ x.op = 66) (he : (oneR y.op x.A).2 = 0) (ht : tT y.op = 1 ∨ tT y.op = 2 ∨ tT y.op = 5 ∨ tT y.op = 7) (hm : kIn (tT y.op) = kOf x.op) : r1 (x :: y :: r) = some (2, [⟨ci (kOn (tT y.op)), (oneR y.op x.A).1, 0, []⟩]) := by
 have h1 : (x.op = 65 ∧ (tT y.op = 1 ∨ tT y.op = 7) ∨ x.op = 66 ∧ (tT y.op = 2 ∨ tT y.op = 5)) ∧ (oneR y.op x.A).2 = 0 := by
  refine ⟨?_, he⟩
  unfold kIn kOf at hm
  split at hm <;> split at hm <;> omega
 have h2 : ci (kOn (tT y.op)) = if tT y.op = 1 ∨ tT y.op = 2 then 65 else 66 := by rcases ht with h | h | h | h <;> rw [h] <;> rfl
 rw [r1, oM, if_pos h1, h2]
 rfl
theorem one_no {x y : It} {r : List It} (h : ¬ ((x.op = 65 ∨ x.op = 66) ∧ (oneR y.op x.A).2 = 0 ∧ kIn (tT y.op) = kOf x.op)) : r1 (x :: y :: r) = none := by
 rw [r1, oM, if_neg (fun g => h ⟨by omega, g.2, ?_⟩)]
 ·rfl
 ·unfold kIn kOf
  rcases g.1 with ⟨h1, h2 | h2⟩ | ⟨h1, h2 | h2⟩ <;> rw [h1, h2] <;> rfl
theorem two_yes {x y z : It} {r : List It} (hc : x.op = 65 ∨ x.op = 66) (hy : y.op = x.op) (he : twoE z.op x.A y.A = 0) (ht : tT z.op = 3 ∨ tT z.op = 4 ∨ tT z.op = 6) (hm : kIn (tT z.op) = kOf x.op) : r2 (x :: y :: z :: r) = some (3, [⟨ci (kOn (tT z.op)), twoN z.op x.A y.A, 0, []⟩]) := by
 have h1 : (x.op = 65 ∧ tT z.op = 3 ∨ x.op = 66 ∧ (tT z.op = 4 ∨ tT z.op = 6)) ∧ y.op = x.op ∧ twoE z.op x.A y.A = 0 := by
  refine ⟨?_, hy, he⟩
  unfold kIn kOf at hm
  split at hm <;> split at hm <;> omega
 have h2 : ci (kOn (tT z.op)) = if tT z.op = 3 ∨ tT z.op = 4 then 65 else 66 := by rcases ht with h | h | h <;> rw [h] <;> rfl
 rw [r2, pM, if_pos h1, h2]
 rfl
theorem two_no {x y z : It} {r : List It} (h : ¬ ((x.op = 65 ∨ x.op = 66) ∧ y.op = x.op ∧ twoE z.op x.A y.A = 0 ∧ kIn (tT z.op) = kOf x.op)) : r2 (x :: y :: z :: r) = none := by
 rw [r2, pM, if_neg (fun g => h ⟨by omega, g.2.1, g.2.2, ?_⟩)]
 ·rfl
 ·unfold kIn kOf
  rcases g.1 with ⟨h1, h2⟩ | ⟨h1, h2 | h2⟩ <;> rw [h1, h2] <;> rfl
theorem kind_first {w : World} {v : Value} {a : Int} {bs : List Int} (h : Kinds w v (a :: bs)) : ∃ b off n cap, v = .slice (some ⟨b, off, none⟩) n cap ∧ 0 < n ∧ (0 : Int) < (n : Int) ∧ ∀ wx, Below w.heap.size w wx → wx.cell? ⟨b, off, none⟩ = some (.int .u8 a) := by
 obtain ⟨ao, cap, rfl, hc1, hc2, hl, hcs⟩ := h
 rcases hcs with hcs | ⟨b, off, rfl, hat⟩
 ·simp at hcs
 ·refine ⟨b, off, _, cap, rfl, by simp, by simp, fun wx hb => ?_⟩
  have := hat 0 (by simp)
  simp only [Nat.add_zero, List.map_cons, List.getElem_cons_zero] at this
  exact cell_below hb this

set_option maxRecDepth 100000 in
set_option maxHeartbeats 16000000 in
theorem one_any : RuleP 66 r1 := by
 intro w v x t k st hok hrun hT h _
 rcases t with _ | ⟨y, r⟩
 ·have g0 := hok
  obtain ⟨b, off, n, cap, rfl, hn, hc1, hc2, u, hcell⟩ := h.one
  have HC := hid hcell
  have hp : 0 < n := by omega
  have hq : (0 : Int) < (n : Int) := by omega
  have hq2 : (n : Int) < 2 := by rw [hn]; simp
  have HG := hid (fun w' nv => show Gives w' 0 nv false (r1 [x]) from rfl)
  clear hn hcell h hrun hok
  go_enter Tryz.func66, Tryz.ntmps66
  go_wp2_with fail
  refine bodyPost_ret (v := .tuple #[.agg #[.int .i64 0, .slice none 0 0], .bool false]) (by simp [results, Tryz.results66, go_sem]) rfl ?_
  exact ⟨_, _, _, _, _, rfl, by (repeat (first | exact Below.refl _ _ | assumption | refine bel_al ?_ _ | refine Below.drew ?_ | refine bel_dn ?_ _ | refine bel_set ?_ (Nat.le_refl _) _)), HG.out _ _⟩
 ·have g0 := hok
  obtain ⟨b, off, n, cap, rfl, hn, hc1, hc2, u, hcell⟩ := h.one
  obtain ⟨u2, hcell2⟩ := h.second
  have HC := hid (fun wx hb => show _ ∧ _ from ⟨hcell wx hb, hcell2 wx hb⟩)
  have hp : 0 < n := by omega
  have hp1 : 1 < n := by rw [hn]; simp
  have hq : (0 : Int) < (n : Int) := by omega
  have hq1 : (1 : Int) < (n : Int) := by omega
  have hq2 : ¬ (n : Int) < 2 := by omega
  have HN2 := hid (fun w => isConst_any w x.op x.A x.B u)
  by_cases g1 : x.op = 65 ∨ x.op = 66
  ·rw [show decide (x.op = 65 ∨ x.op = 66) = true from decide_eq_true g1] at HN2
   have hx := (hok x (by simp)).in64
   have hop := (hok y (by simp)).1
   have HO := hid (fun wx (hb : Below w.heap.size w wx) => pone_any y.op hx wx (hT.below hb))
   have HK := hid (fun wx => kindOf_any wx x.op x.A x.B u)
   rw [kof_cast] at HK
   by_cases ge : (oneR y.op x.A).2 = 0
   ·have ht := one_tt hx ge
    obtain ⟨hki, hko, hkd⟩ := ki_one ht
    have HP := hid (fun wx => show Calls Tryz.prog 99 #[.int .u8 y.op] wx fun e w' => ∃ v u, e = .returned (.tuple #[v, u, .bool true]) ∧ Kinds w' v [(kIn (tT y.op) : Int)] ∧ Kinds w' u [(kOn (tT y.op) : Int)] ∧ Below wx.heap.size wx w' from by have q := plain_any y.op hop wx; rw [hki, hko, hkd] at q; exact q)
    have HCo := hid (fun wx n => constant_any wx (kOn (tT y.op)) n)
    by_cases gm : kIn (tT y.op) = kOf x.op
    ·have gm2 := gm
     clear gm2
     have em : ((kIn (tT y.op) : Int) == (kOf x.op : Int)) = true := opT gm
     have HG := hid (fun w' nv (hB : BodS w' nv [⟨ci (kOn (tT y.op)), (oneR y.op x.A).1, 0, []⟩]) => show Gives w' 2 nv true (r1 (x :: y :: r)) from by rw [one_yes g1 ge ht gm]; exact ⟨rfl, rfl, hB⟩)
     have eE : (oneR y.op x.A).2 = 0 := ge
     generalize kIn (tT y.op) = KI at *
     generalize kOn (tT y.op) = KO at *
     generalize kOf x.op = KX at *
     generalize oneR y.op x.A = p at *
     obtain ⟨N, E⟩ := p
     simp only at eE HO HG
     subst eE
     clear hn hcell hcell2 h hrun hok
     clear g1 gm ge ht hki hko hkd hx hop
     have hb0 : Below w.heap.size w (w.alloc (.cells #[.int .i64 0, .slice none 0 0] 127)) := by (repeat (first | exact Below.refl _ _ | assumption | refine bel_al ?_ _ | refine Below.drew ?_ | refine bel_dn ?_ _ | refine bel_set ?_ (Nat.le_refl _) _))
     obtain ⟨⟨c0, c1, c2, c3⟩, d0, d1, d2, d3⟩ := HC.out _ hb0
     go_enter Tryz.func66, Tryz.ntmps66
     go_wp2_with (go_at_call 97; refine (HN2.out _).mono ?_; rintro r1 w1 ⟨rfl, g1⟩; have s1 := bel_lt g1; have b1 := bel_tr hb0 g1; obtain ⟨x0, x1, xf⟩ := turn_blk g1; obtain ⟨⟨c0, c1, c2, c3⟩, d0, d1, d2, d3⟩ := HC.out _ b1)
     refine wp_region_tail (S := (fun w' => Below (w.alloc (.cells #[.int .i64 0, .slice none 0 0] 127)).heap.size (w.alloc (.cells #[.int .i64 0, .slice none 0 0] 127)) w')) 13 (by kernel_rfl) (by kernel_rfl) ?_ (fun hHeld => ?_)
     ·(repeat (first | exact Below.refl _ _ | assumption | refine bel_al ?_ _ | refine Below.drew ?_ | refine bel_dn ?_ _ | refine bel_set ?_ (Nat.le_refl _) _))
     refine tk 0 ?_ rfl ?_ ?_
     rotate_left
     ·intro wy hSw; (try dsimp only at hSw); obtain ⟨⟨c0, c1, c2, c3⟩, d0, d1, d2, d3⟩ := HC.out wy (bel_tr hb0 hSw); (go_simp <;> with_reducible rfl)
     (try simp only [List.getElem_toArray, List.getElem_cons_zero, Act.put, List.setIfInBounds_toArray, List.set_cons_zero, List.set_cons_succ])
     refine tk 1 ?_ rfl ?_ ?_
     rotate_left
     ·intro wy hSw; (try dsimp only at hSw); obtain ⟨⟨c0, c1, c2, c3⟩, d0, d1, d2, d3⟩ := HC.out wy (bel_tr hb0 hSw); (go_simp <;> with_reducible rfl)
     (try simp only [List.getElem_toArray, List.getElem_cons_zero, List.getElem_cons_succ, Act.put, List.setIfInBounds_toArray, List.set_cons_zero, List.set_cons_succ])
     refine tk 2 ?_ rfl ?_ ?_
     rotate_left
     ·intro wy hSw; (try dsimp only at hSw); obtain ⟨⟨c0, c1, c2, c3⟩, d0, d1, d2, d3⟩ := HC.out wy (bel_tr hb0 hSw); (go_simp <;> with_reducible rfl)
     (try simp only [List.getElem_toArray, List.getElem_cons_zero, List.getElem_cons_succ, Act.put, List.setIfInBounds_toArray, List.set_cons_zero, List.set_cons_succ])
     refine tk 3 ?_ rfl ?_ ?_
     rotate_left
     ·intro wy hSw; (try dsimp only at hSw); obtain ⟨⟨c0, c1, c2, c3⟩, d0, d1, d2, d3⟩ := HC.out wy (bel_tr hb0 hSw); (go_simp <;> with_reducible rfl)
     (try simp only [List.getElem_toArray, List.getElem_cons_zero, List.getElem_cons_succ, Act.put, List.setIfInBounds_toArray, List.set_cons_zero, List.set_cons_succ])
     refine tk 4 ?_ rfl ?_ ?_
     rotate_left
     ·intro wy hSw; (try dsimp only at hSw); obtain ⟨⟨c0, c1, c2, c3⟩, d0, d1, d2, d3⟩ := HC.out wy (bel_tr hb0 hSw); (go_simp <;> with_reducible rfl)
     (try simp only [List.getElem_toArray, List.getElem_cons_zero, List.getElem_cons_succ, Act.put, List.setIfInBounds_toArray, List.set_cons_zero, List.set_cons_succ])
     refine tk 5 ?_ rfl ?_ ?_
     rotate_left
     ·intro wy hSw; (try dsimp only at hSw); obtain ⟨⟨c0, c1, c2, c3⟩, d0, d1, d2, d3⟩ := HC.out wy (bel_tr hb0 hSw); (go_simp <;> with_reducible rfl)
     (try simp only [List.getElem_toArray, List.getElem_cons_zero, List.getElem_cons_succ, Act.put, List.setIfInBounds_toArray, List.set_cons_zero, List.set_cons_succ])
     refine tk 6 ?_ rfl ?_ ?_
     rotate_left
     ·intro wy hSw; (try dsimp only at hSw); obtain ⟨⟨c0, c1, c2, c3⟩, d0, d1, d2, d3⟩ := HC.out wy (bel_tr hb0 hSw); (go_simp <;> with_reducible rfl)
     (try simp only [List.getElem_toArray, List.getElem_cons_zero, List.getElem_cons_succ, Act.put, List.setIfInBounds_toArray, List.set_cons_zero, List.set_cons_succ])
     refine tk 7 ?_ rfl ?_ ?_
     rotate_left
     ·intro wy hSw; (try dsimp only at hSw); obtain ⟨⟨c0, c1, c2, c3⟩, d0, d1, d2, d3⟩ := HC.out wy (bel_tr hb0 hSw); (go_simp <;> with_reducible rfl)
     (try simp only [List.getElem_toArray, List.getElem_cons_zero, List.getElem_cons_succ, Act.put, List.setIfInBounds_toArray, List.set_cons_zero, List.set_cons_succ])
     refine wpT_one (k := 8) rfl (by kernel_rfl) (fun K hK => ?_)
     go_simp
     refine (HO.out _ (by (repeat (first | exact Below.refl _ _ | assumption | refine bel_al ?_ _ | refine Below.drew ?_ | refine bel_dn ?_ _ | refine bel_set ?_ (Nat.le_refl _) _)))).mono ?_
     rintro r2 w2 ⟨rfl, hb2⟩
     have g2 := bel_tr (w := (w.alloc (.cells #[.int .i64 0, .slice none 0 0] 127))) (by (repeat (first | exact Below.refl _ _ | assumption | refine bel_al ?_ _ | refine Below.drew ?_ | refine bel_dn ?_ _ | refine bel_set ?_ (Nat.le_refl _) _))) hb2
     clear hb2
     have s2 := bel_lt g2
     have b2 := bel_tr hb0 g2
     obtain ⟨x0, x1, xf⟩ := turn_blk g2
     obtain ⟨⟨c0, c1, c2, c3⟩, d0, d1, d2, d3⟩ := HC.out _ b2
     refine hK.out _ _ ?_ (fun hHeld => ?_)
     ·exact g2
     clear hK K
     (try simp only [Act.put, List.setIfInBounds_toArray, List.set_cons_zero, List.set_cons_succ])
     refine tk 9 ?_ rfl ?_ ?_
     rotate_left
     ·intro wy hSw; (try dsimp only at hSw); obtain ⟨⟨c0, c1, c2, c3⟩, d0, d1, d2, d3⟩ := HC.out wy (bel_tr hb0 hSw); (go_simp <;> with_reducible rfl)
     (try simp only [List.getElem_toArray, List.getElem_cons_zero, List.getElem_cons_succ, Act.put, List.setIfInBounds_toArray, List.set_cons_zero, List.set_cons_succ])
     refine tk 10 ?_ rfl ?_ ?_
     rotate_left
     ·intro wy hSw; (try dsimp only at hSw); obtain ⟨⟨c0, c1, c2, c3⟩, d0, d1, d2, d3⟩ := HC.out wy (bel_tr hb0 hSw); (go_simp <;> with_reducible rfl)
     (try simp only [List.getElem_toArray, List.getElem_cons_zero, List.getElem_cons_succ, Act.put, List.setIfInBounds_toArray, List.set_cons_zero, List.set_cons_succ])
     refine tk 11 ?_ rfl ?_ ?_
     rotate_left
     ·intro wy hSw; (try dsimp only at hSw); obtain ⟨⟨c0, c1, c2, c3⟩, d0, d1, d2, d3⟩ := HC.out wy (bel_tr hb0 hSw); (go_simp <;> with_reducible rfl)
     (try simp only [List.getElem_toArray, List.getElem_cons_zero, List.getElem_cons_succ, Act.put, List.setIfInBounds_toArray, List.set_cons_zero, List.set_cons_succ])
     refine tk 12 ?_ rfl ?_ ?_
     rotate_left
     ·intro wy hSw; (try dsimp only at hSw); obtain ⟨⟨c0, c1, c2, c3⟩, d0, d1, d2, d3⟩ := HC.out wy (bel_tr hb0 hSw); (go_simp <;> with_reducible rfl)
     (try simp only [List.getElem_toArray, List.getElem_cons_zero, List.getElem_cons_succ, Act.put, List.setIfInBounds_toArray, List.set_cons_zero, List.set_cons_succ])
     refine wpT_done (by kernel_rfl) ?_
     go_wp2_with (go_at_call 99; refine (HP.out _).mono ?_; rintro r3 w3 ⟨vi, vo, rfl, hk1, hk2, hb3⟩; have g3 := bel_tr g2 hb3; clear hb3; have s3 := bel_lt g3; have b3 := bel_tr hb0 g3; obtain ⟨x0, x1, xf⟩ := turn_blk g3; obtain ⟨⟨c0, c1, c2, c3⟩, d0, d1, d2, d3⟩ := HC.out _ b3; obtain ⟨bi, oi, ni, ki, rfl, hni, hni2, hqi⟩ := kind_first hk1; obtain ⟨bo, oo, no, ko, rfl, hno, hno2, hqo⟩ := kind_first hk2; have HI := hid hqi; have HO2 := hid hqo; clear hk1 hk2 hqi hqo)
     refine wp_region_tail (S := (fun w' => Below w3.heap.size w3 w')) 15 (by kernel_rfl) (by kernel_rfl) ?_ (fun hHeld => ?_)
     ·(repeat (first | exact Below.refl _ _ | assumption | refine bel_al ?_ _ | refine Below.drew ?_ | refine bel_dn ?_ _ | refine bel_set ?_ (Nat.le_refl _) _))
     refine tk 0 ?_ rfl ?_ ?_
     rotate_left
     ·intro wy hSw; (try dsimp only at hSw); obtain ⟨⟨c0, c1, c2, c3⟩, d0, d1, d2, d3⟩ := HC.out wy (bel_tr b3 hSw); have qi := HI.out wy hSw; (go_simp <;> with_reducible rfl)
     (try simp only [List.getElem_toArray, List.getElem_cons_zero, Act.put, List.setIfInBounds_toArray, List.set_cons_zero, List.set_cons_succ])
     refine tk 1 ?_ rfl ?_ ?_
     rotate_left
     ·intro wy hSw; (try dsimp only at hSw); obtain ⟨⟨c0, c1, c2, c3⟩, d0, d1, d2, d3⟩ := HC.out wy (bel_tr b3 hSw); have qi := HI.out wy hSw; (go_simp <;> with_reducible rfl)
     (try simp only [List.getElem_toArray, List.getElem_cons_zero, List.getElem_cons_succ, Act.put, List.setIfInBounds_toArray, List.set_cons_zero, List.set_cons_succ])
     refine tk 2 ?_ rfl ?_ ?_
     rotate_left
     ·intro wy hSw; (try dsimp only at hSw); obtain ⟨⟨c0, c1, c2, c3⟩, d0, d1, d2, d3⟩ := HC.out wy (bel_tr b3 hSw); have qi := HI.out wy hSw; (go_simp <;> with_reducible rfl)
     (try simp only [List.getElem_toArray, List.getElem_cons_zero, List.getElem_cons_succ, Act.put, List.setIfInBounds_toArray, List.set_cons_zero, List.set_cons_succ])
     refine tk 3 ?_ rfl ?_ ?_
     rotate_left
     ·intro wy hSw; (try dsimp only at hSw); obtain ⟨⟨c0, c1, c2, c3⟩, d0, d1, d2, d3⟩ := HC.out wy (bel_tr b3 hSw); have qi := HI.out wy hSw; (go_simp <;> with_reducible rfl)
     (try simp only [List.getElem_toArray, List.getElem_cons_zero, List.getElem_cons_succ, Act.put, List.setIfInBounds_toArray, List.set_cons_zero, List.set_cons_succ])
     refine tk 4 ?_ rfl ?_ ?_
     rotate_left
     ·intro wy hSw; (try dsimp only at hSw); obtain ⟨⟨c0, c1, c2, c3⟩, d0, d1, d2, d3⟩ := HC.out wy (bel_tr b3 hSw); have qi := HI.out wy hSw; (go_simp <;> with_reducible rfl)
     (try simp only [List.getElem_toArray, List.getElem_cons_zero, List.getElem_cons_succ, Act.put, List.setIfInBounds_toArray, List.set_cons_zero, List.set_cons_succ])
     refine tk 5 ?_ rfl ?_ ?_
     rotate_left
     ·intro wy hSw; (try dsimp only at hSw); obtain ⟨⟨c0, c1, c2, c3⟩, d0, d1, d2, d3⟩ := HC.out wy (bel_tr b3 hSw); have qi := HI.out wy hSw; (go_simp <;> with_reducible rfl)
     (try simp only [List.getElem_toArray, List.getElem_cons_zero, List.getElem_cons_succ, Act.put, List.setIfInBounds_toArray, List.set_cons_zero, List.set_cons_succ])
     refine tk 6 ?_ rfl ?_ ?_
     rotate_left
     ·intro wy hSw; (try dsimp only at hSw); obtain ⟨⟨c0, c1, c2, c3⟩, d0, d1, d2, d3⟩ := HC.out wy (bel_tr b3 hSw); have qi := HI.out wy hSw; (go_simp <;> with_reducible rfl)
     (try simp only [List.getElem_toArray, List.getElem_cons_zero, List.getElem_cons_succ, Act.put, List.setIfInBounds_toArray, List.set_cons_zero, List.set_cons_succ])
     refine tk 7 ?_ rfl ?_ ?_
     rotate_left
     ·intro wy hSw; (try dsimp only at hSw); obtain ⟨⟨c0, c1, c2, c3⟩, d0, d1, d2, d3⟩ := HC.out wy (bel_tr b3 hSw); have qi := HI.out wy hSw; (go_simp <;> with_reducible rfl)
     (try simp only [List.getElem_toArray, List.getElem_cons_zero, List.getElem_cons_succ, Act.put, List.setIfInBounds_toArray, List.set_cons_zero, List.set_cons_succ])
     refine tk 8 ?_ rfl ?_ ?_
     rotate_left
     ·intro wy hSw; (try dsimp only at hSw); obtain ⟨⟨c0, c1, c2, c3⟩, d0, d1, d2, d3⟩ := HC.out wy (bel_tr b3 hSw); have qi := HI.out wy hSw; (go_simp <;> with_reducible rfl)
     (try simp only [List.getElem_toArray, List.getElem_cons_zero, List.getElem_cons_succ, Act.put, List.setIfInBounds_toArray, List.set_cons_zero, List.set_cons_succ])
     refine tk 9 ?_ rfl ?_ ?_
     rotate_left
     ·intro wy hSw; (try dsimp only at hSw); obtain ⟨⟨c0, c1, c2, c3⟩, d0, d1, d2, d3⟩ := HC.out wy (bel_tr b3 hSw); have qi := HI.out wy hSw; (go_simp <;> with_reducible rfl)
     (try simp only [List.getElem_toArray, List.getElem_cons_zero, List.getElem_cons_succ, Act.put, List.setIfInBounds_toArray, List.set_cons_zero, List.set_cons_succ])
     refine tk 10 ?_ rfl ?_ ?_
     rotate_left
     ·intro wy hSw; (try dsimp only at hSw); obtain ⟨⟨c0, c1, c2, c3⟩, d0, d1, d2, d3⟩ := HC.out wy (bel_tr b3 hSw); have qi := HI.out wy hSw; (go_simp <;> with_reducible rfl)
     (try simp only [List.getElem_toArray, List.getElem_cons_zero, List.getElem_cons_succ, Act.put, List.setIfInBounds_toArray, List.set_cons_zero, List.set_cons_succ])
     refine tk 11 ?_ rfl ?_ ?_
     rotate_left
     ·intro wy hSw; (try dsimp only at hSw); obtain ⟨⟨c0, c1, c2, c3⟩, d0, d1, d2, d3⟩ := HC.out wy (bel_tr b3 hSw); have qi := HI.out wy hSw; (go_simp <;> with_reducible rfl)
     (try simp only [List.getElem_toArray, List.getElem_cons_zero, List.getElem_cons_succ, Act.put, List.setIfInBounds_toArray, List.set_cons_zero, List.set_cons_succ])
     refine tk 12 ?_ rfl ?_ ?_
     rotate_left
     ·intro wy hSw; (try dsimp only at hSw); obtain ⟨⟨c0, c1, c2, c3⟩, d0, d1, d2, d3⟩ := HC.out wy (bel_tr b3 hSw); have qi := HI.out wy hSw; (go_simp <;> with_reducible rfl)
     (try simp only [List.getElem_toArray, List.getElem_cons_zero, List.getElem_cons_succ, Act.put, List.setIfInBounds_toArray, List.set_cons_zero, List.set_cons_succ])
     refine wpT_one (k := 13) rfl (by kernel_rfl) (fun K hK => ?_)
     go_simp
     refine (HK.out _).mono ?_
     rintro r4 w4 ⟨rfl, hb4⟩
     have h34 := bel_tr (w := w3) (by (repeat (first | exact Below.refl _ _ | assumption | refine bel_al ?_ _ | refine Below.drew ?_ | refine bel_dn ?_ _ | refine bel_set ?_ (Nat.le_refl _) _))) hb4
     have g4 := bel_tr g3 h34
     clear hb4
     have s4 := bel_lt g4
     have b4 := bel_tr hb0 g4
     obtain ⟨x0, x1, xf⟩ := turn_blk g4
     obtain ⟨⟨c0, c1, c2, c3⟩, d0, d1, d2, d3⟩ := HC.out _ b4
     refine hK.out _ _ ?_ (fun hHeld => ?_)
     ·exact h34
     clear hK K
     (try simp only [Act.put, List.setIfInBounds_toArray, List.set_cons_zero, List.set_cons_succ])
     refine tk 14 ?_ rfl ?_ ?_
     rotate_left
     ·intro wy hSw; (try dsimp only at hSw); obtain ⟨⟨c0, c1, c2, c3⟩, d0, d1, d2, d3⟩ := HC.out wy (bel_tr b3 hSw); have qi := HI.out wy hSw; (go_simp <;> with_reducible rfl)
     (try simp only [List.getElem_toArray, List.getElem_cons_zero, List.getElem_cons_succ, Act.put, List.setIfInBounds_toArray, List.set_cons_zero, List.set_cons_succ])
     refine wpT_done (by kernel_rfl) ?_
     have qo := HO2.out _ h34
     go_wp2_with (go_at_call 101; refine (HCo.out _ _).mono ?_; rintro r5 w5 ⟨rfl, rfl⟩)
     obtain ⟨z0, z1⟩ := turn_read x0 x1 (.int .i64 2) (.slice (some ⟨w4.heap.size, 0, none⟩) 1 1)
     refine bodyPost_ret (v := .tuple #[.agg #[.int .i64 2, .slice (some ⟨w4.heap.size, 0, none⟩) 1 1], .bool true]) (by simp [results, Tryz.results66, go_sem, z0, z1]) rfl ?_
     exact ⟨_, _, _, _, _, rfl, by (repeat (first | exact Below.refl _ _ | assumption | refine bel_al ?_ _ | refine Below.drew ?_ | refine bel_dn ?_ _ | refine bel_set ?_ (Nat.le_refl _) _)), HG.out _ _ (BodS.made _ _ _ _ (by simp))⟩
    ·have gm2 := gm
     clear gm2
     have em : ((kIn (tT y.op) : Int) == (kOf x.op : Int)) = false := opF gm
     have HG := hid (fun w' nv => show Gives w' 0 nv false (r1 (x :: y :: r)) from by rw [one_no (fun h => gm h.2.2)]; rfl)
     have eE : (oneR y.op x.A).2 = 0 := ge
     generalize kIn (tT y.op) = KI at *
     generalize kOn (tT y.op) = KO at *
     generalize kOf x.op = KX at *
     generalize oneR y.op x.A = p at *
     obtain ⟨N, E⟩ := p
     simp only at eE HO
     subst eE
     clear hn hcell hcell2 h hrun hok
     clear g1 gm ge ht hki hko hkd hx hop
     have hb0 : Below w.heap.size w (w.alloc (.cells #[.int .i64 0, .slice none 0 0] 127)) := by (repeat (first | exact Below.refl _ _ | assumption | refine bel_al ?_ _ | refine Below.drew ?_ | refine bel_dn ?_ _ | refine bel_set ?_ (Nat.le_refl _) _))
     obtain ⟨⟨c0, c1, c2, c3⟩, d0, d1, d2, d3⟩ := HC.out _ hb0
     go_enter Tryz.func66, Tryz.ntmps66
     go_wp2_with (go_at_call 97; refine (HN2.out _).mono ?_; rintro r1 w1 ⟨rfl, g1⟩; have s1 := bel_lt g1; have b1 := bel_tr hb0 g1; obtain ⟨x0, x1, xf⟩ := turn_blk g1; obtain ⟨⟨c0, c1, c2, c3⟩, d0, d1, d2, d3⟩ := HC.out _ b1)
     refine wp_region_tail (S := (fun w' => Below (w.alloc (.cells #[.int .i64 0, .slice none 0 0] 127)).heap.size (w.alloc (.cells #[.int .i64 0, .slice none 0 0] 127)) w')) 13 (by kernel_rfl) (by kernel_rfl) ?_ (fun hHeld => ?_)
     ·(repeat (first | exact Below.refl _ _ | assumption | refine bel_al ?_ _ | refine Below.drew ?_ | refine bel_dn ?_ _ | refine bel_set ?_ (Nat.le_refl _) _))
     refine tk 0 ?_ rfl ?_ ?_
     rotate_left
     ·intro wy hSw; (try dsimp only at hSw); obtain ⟨⟨c0, c1, c2, c3⟩, d0, d1, d2, d3⟩ := HC.out wy (bel_tr hb0 hSw); (go_simp <;> with_reducible rfl)
     (try simp only [List.getElem_toArray, List.getElem_cons_zero, Act.put, List.setIfInBounds_toArray, List.set_cons_zero, List.set_cons_succ])
     refine tk 1 ?_ rfl ?_ ?_
     rotate_left
     ·intro wy hSw; (try dsimp only at hSw); obtain ⟨⟨c0, c1, c2, c3⟩, d0, d1, d2, d3⟩ := HC.out wy (bel_tr hb0 hSw); (go_simp <;> with_reducible rfl)
     (try simp only [List.getElem_toArray, List.getElem_cons_zero, List.getElem_cons_succ, Act.put, List.setIfInBounds_toArray, List.set_cons_zero, List.set_cons_succ])
     refine tk 2 ?_ rfl ?_ ?_
     rotate_left
     ·intro wy hSw; (try dsimp only at hSw); obtain ⟨⟨c0, c1, c2, c3⟩, d0, d1, d2, d3⟩ := HC.out wy (bel_tr hb0 hSw); (go_simp <;> with_reducible rfl)
     (try simp only [List.getElem_toArray, List.getElem_cons_zero, List.getElem_cons_succ, Act.put, List.setIfInBounds_toArray, List.set_cons_zero, List.set_cons_succ])
     refine tk 3 ?_ rfl ?_ ?_
     rotate_left
     ·intro wy hSw; (try dsimp only at hSw); obtain ⟨⟨c0, c1, c2, c3⟩, d0, d1, d2, d3⟩ := HC.out wy (bel_tr hb0 hSw); (go_simp <;> with_reducible rfl)
     (try simp only [List.getElem_toArray, List.getElem_cons_zero, List.getElem_cons_succ, Act.put, List.setIfInBounds_toArray, List.set_cons_zero, List.set_cons_succ])
     refine tk 4 ?_ rfl ?_ ?_
     rotate_left
     ·intro wy hSw; (try dsimp only at hSw); obtain ⟨⟨c0, c1, c2, c3⟩, d0, d1, d2, d3⟩ := HC.out wy (bel_tr hb0 hSw); (go_simp <;> with_reducible rfl)
     (try simp only [List.getElem_toArray, List.getElem_cons_zero, List.getElem_cons_succ, Act.put, List.setIfInBounds_toArray, List.set_cons_zero, List.set_cons_succ])
     refine tk 5 ?_ rfl ?_ ?_
     rotate_left
     ·intro wy hSw; (try dsimp only at hSw); obtain ⟨⟨c0, c1, c2, c3⟩, d0, d1, d2, d3⟩ := HC.out wy (bel_tr hb0 hSw); (go_simp <;> with_reducible rfl)
     (try simp only [List.getElem_toArray, List.getElem_cons_zero, List.getElem_cons_succ, Act.put, List.setIfInBounds_toArray, List.set_cons_zero, List.set_cons_succ])
     refine tk 6 ?_ rfl ?_ ?_
     rotate_left
     ·intro wy hSw; (try dsimp only at hSw); obtain ⟨⟨c0, c1, c2, c3⟩, d0, d1, d2, d3⟩ := HC.out wy (bel_tr hb0 hSw); (go_simp <;> with_reducible rfl)
     (try simp only [List.getElem_toArray, List.getElem_cons_zero, List.getElem_cons_succ, Act.put, List.setIfInBounds_toArray, List.set_cons_zero, List.set_cons_succ])
     refine tk 7 ?_ rfl ?_ ?_
     rotate_left
     ·intro wy hSw; (try dsimp only at hSw); obtain ⟨⟨c0, c1, c2, c3⟩, d0, d1, d2, d3⟩ := HC.out wy (bel_tr hb0 hSw); (go_simp <;> with_reducible rfl)
     (try simp only [List.getElem_toArray, List.getElem_cons_zero, List.getElem_cons_succ, Act.put, List.setIfInBounds_toArray, List.set_cons_zero, List.set_cons_succ])
     refine wpT_one (k := 8) rfl (by kernel_rfl) (fun K hK => ?_)
     go_simp
     refine (HO.out _ (by (repeat (first | exact Below.refl _ _ | assumption | refine bel_al ?_ _ | refine Below.drew ?_ | refine bel_dn ?_ _ | refine bel_set ?_ (Nat.le_refl _) _)))).mono ?_
     rintro r2 w2 ⟨rfl, hb2⟩
     have g2 := bel_tr (w := (w.alloc (.cells #[.int .i64 0, .slice none 0 0] 127))) (by (repeat (first | exact Below.refl _ _ | assumption | refine bel_al ?_ _ | refine Below.drew ?_ | refine bel_dn ?_ _ | refine bel_set ?_ (Nat.le_refl _) _))) hb2
     clear hb2
     have s2 := bel_lt g2
     have b2 := bel_tr hb0 g2
     obtain ⟨x0, x1, xf⟩ := turn_blk g2
     obtain ⟨⟨c0, c1, c2, c3⟩, d0, d1, d2, d3⟩ := HC.out _ b2
     refine hK.out _ _ ?_ (fun hHeld => ?_)
     ·exact g2
     clear hK K
     (try simp only [Act.put, List.setIfInBounds_toArray, List.set_cons_zero, List.set_cons_succ])
     refine tk 9 ?_ rfl ?_ ?_
     rotate_left
     ·intro wy hSw; (try dsimp only at hSw); obtain ⟨⟨c0, c1, c2, c3⟩, d0, d1, d2, d3⟩ := HC.out wy (bel_tr hb0 hSw); (go_simp <;> with_reducible rfl)
     (try simp only [List.getElem_toArray, List.getElem_cons_zero, List.getElem_cons_succ, Act.put, List.setIfInBounds_toArray, List.set_cons_zero, List.set_cons_succ])
     refine tk 10 ?_ rfl ?_ ?_
     rotate_left
     ·intro wy hSw; (try dsimp only at hSw); obtain ⟨⟨c0, c1, c2, c3⟩, d0, d1, d2, d3⟩ := HC.out wy (bel_tr hb0 hSw); (go_simp <;> with_reducible rfl)
     (try simp only [List.getElem_toArray, List.getElem_cons_zero, List.getElem_cons_succ, Act.put, List.setIfInBounds_toArray, List.set_cons_zero, List.set_cons_succ])
     refine tk 11 ?_ rfl ?_ ?_
     rotate_left
     ·intro wy hSw; (try dsimp only at hSw); obtain ⟨⟨c0, c1, c2, c3⟩, d0, d1, d2, d3⟩ := HC.out wy (bel_tr hb0 hSw); (go_simp <;> with_reducible rfl)
     (try simp only [List.getElem_toArray, List.getElem_cons_zero, List.getElem_cons_succ, Act.put, List.setIfInBounds_toArray, List.set_cons_zero, List.set_cons_succ])
     refine tk 12 ?_ rfl ?_ ?_
     rotate_left
     ·intro wy hSw; (try dsimp only at hSw); obtain ⟨⟨c0, c1, c2, c3⟩, d0, d1, d2, d3⟩ := HC.out wy (bel_tr hb0 hSw); (go_simp <;> with_reducible rfl)
     (try simp only [List.getElem_toArray, List.getElem_cons_zero, List.getElem_cons_succ, Act.put, List.setIfInBounds_toArray, List.set_cons_zero, List.set_cons_succ])
     refine wpT_done (by kernel_rfl) ?_
     go_wp2_with (go_at_call 99; refine (HP.out _).mono ?_; rintro r3 w3 ⟨vi, vo, rfl, hk1, hk2, hb3⟩; have g3 := bel_tr g2 hb3; clear hb3; have s3 := bel_lt g3; have b3 := bel_tr hb0 g3; obtain ⟨x0, x1, xf⟩ := turn_blk g3; obtain ⟨⟨c0, c1, c2, c3⟩, d0, d1, d2, d3⟩ := HC.out _ b3; obtain ⟨bi, oi, ni, ki, rfl, hni, hni2, hqi⟩ := kind_first hk1; obtain ⟨bo, oo, no, ko, rfl, hno, hno2, hqo⟩ := kind_first hk2; have HI := hid hqi; have HO2 := hid hqo; clear hk1 hk2 hqi hqo)
     refine wp_region_tail (S := (fun w' => Below w3.heap.size w3 w')) 15 (by kernel_rfl) (by kernel_rfl) ?_ (fun hHeld => ?_)
     ·(repeat (first | exact Below.refl _ _ | assumption | refine bel_al ?_ _ | refine Below.drew ?_ | refine bel_dn ?_ _ | refine bel_set ?_ (Nat.le_refl _) _))
     refine tk 0 ?_ rfl ?_ ?_
     rotate_left
     ·intro wy hSw; (try dsimp only at hSw); obtain ⟨⟨c0, c1, c2, c3⟩, d0, d1, d2, d3⟩ := HC.out wy (bel_tr b3 hSw); have qi := HI.out wy hSw; (go_simp <;> with_reducible rfl)
     (try simp only [List.getElem_toArray, List.getElem_cons_zero, Act.put, List.setIfInBounds_toArray, List.set_cons_zero, List.set_cons_succ])
     refine tk 1 ?_ rfl ?_ ?_
     rotate_left
     ·intro wy hSw; (try dsimp only at hSw); obtain ⟨⟨c0, c1, c2, c3⟩, d0, d1, d2, d3⟩ := HC.out wy (bel_tr b3 hSw); have qi := HI.out wy hSw; (go_simp <;> with_reducible rfl)
     (try simp only [List.getElem_toArray, List.getElem_cons_zero, List.getElem_cons_succ, Act.put, List.setIfInBounds_toArray, List.set_cons_zero, List.set_cons_succ])
     refine tk 2 ?_ rfl ?_ ?_
     rotate_left
     ·intro wy hSw; (try dsimp only at hSw); obtain ⟨⟨c0, c1, c2, c3⟩, d0, d1, d2, d3⟩ := HC.out wy (bel_tr b3 hSw); have qi := HI.out wy hSw; (go_simp <;> with_reducible rfl)
     (try simp only [List.getElem_toArray, List.getElem_cons_zero, List.getElem_cons_succ, Act.put, List.setIfInBounds_toArray, List.set_cons_zero, List.set_cons_succ])
     refine tk 3 ?_ rfl ?_ ?_
     rotate_left
     ·intro wy hSw; (try dsimp only at hSw); obtain ⟨⟨c0, c1, c2, c3⟩, d0, d1, d2, d3⟩ := HC.out wy (bel_tr b3 hSw); have qi := HI.out wy hSw; (go_simp <;> with_reducible rfl)
     (try simp only [List.getElem_toArray, List.getElem_cons_zero, List.getElem_cons_succ, Act.put, List.setIfInBounds_toArray, List.set_cons_zero, List.set_cons_succ])
     refine tk 4 ?_ rfl ?_ ?_
     rotate_left
     ·intro wy hSw; (try dsimp only at hSw); obtain ⟨⟨c0, c1, c2, c3⟩, d0, d1, d2, d3⟩ := HC.out wy (bel_tr b3 hSw); have qi := HI.out wy hSw; (go_simp <;> with_reducible rfl)
     (try simp only [List.getElem_toArray, List.getElem_cons_zero, List.getElem_cons_succ, Act.put, List.setIfInBounds_toArray, List.set_cons_zero, List.set_cons_succ])
     refine tk 5 ?_ rfl ?_ ?_
     rotate_left
     ·intro wy hSw; (try dsimp only at hSw); obtain ⟨⟨c0, c1, c2, c3⟩, d0, d1, d2, d3⟩ := HC.out wy (bel_tr b3 hSw); have qi := HI.out wy hSw; (go_simp <;> with_reducible rfl)
     (try simp only [List.getElem_toArray, List.getElem_cons_zero, List.getElem_cons_succ, Act.put, List.setIfInBounds_toArray, List.set_cons_zero, List.set_cons_succ])
     refine tk 6 ?_ rfl ?_ ?_
     rotate_left
     ·intro wy hSw; (try dsimp only at hSw); obtain ⟨⟨c0, c1, c2, c3⟩, d0, d1, d2, d3⟩ := HC.out wy (bel_tr b3 hSw); have qi := HI.out wy hSw; (go_simp <;> with_reducible rfl)
     (try simp only [List.getElem_toArray, List.getElem_cons_zero, List.getElem_cons_succ, Act.put, List.setIfInBounds_toArray, List.set_cons_zero, List.set_cons_succ])
     refine tk 7 ?_ rfl ?_ ?_
     rotate_left
     ·intro wy hSw; (try dsimp only at hSw); obtain ⟨⟨c0, c1, c2, c3⟩, d0, d1, d2, d3⟩ := HC.out wy (bel_tr b3 hSw); have qi := HI.out wy hSw; (go_simp <;> with_reducible rfl)
     (try simp only [List.getElem_toArray, List.getElem_cons_zero, List.getElem_cons_succ, Act.put, List.setIfInBounds_toArray, List.set_cons_zero, List.set_cons_succ])
     refine tk 8 ?_ rfl ?_ ?_
     rotate_left
     ·intro wy hSw; (try dsimp only at hSw); obtain ⟨⟨c0, c1, c2, c3⟩, d0, d1, d2, d3⟩ := HC.out wy (bel_tr b3 hSw); have qi := HI.out wy hSw; (go_simp <;> with_reducible rfl)
     (try simp only [List.getElem_toArray, List.getElem_cons_zero, List.getElem_cons_succ, Act.put, List.setIfInBounds_toArray, List.set_cons_zero, List.set_cons_succ])
     refine tk 9 ?_ rfl ?_ ?_
     rotate_left
     ·intro wy hSw; (try dsimp only at hSw); obtain ⟨⟨c0, c1, c2, c3⟩, d0, d1, d2, d3⟩ := HC.out wy (bel_tr b3 hSw); have qi := HI.out wy hSw; (go_simp <;> with_reducible rfl)
     (try simp only [List.getElem_toArray, List.getElem_cons_zero, List.getElem_cons_succ, Act.put, List.setIfInBounds_toArray, List.set_cons_zero, List.set_cons_succ])
     refine tk 10 ?_ rfl ?_ ?_
     rotate_left
     ·intro wy hSw; (try dsimp only at hSw); obtain ⟨⟨c0, c1, c2, c3⟩, d0, d1, d2, d3⟩ := HC.out wy (bel_tr b3 hSw); have qi := HI.out wy hSw; (go_simp <;> with_reducible rfl)
     (try simp only [List.getElem_toArray, List.getElem_cons_zero, List.getElem_cons_succ, Act.put, List.setIfInBounds_toArray, List.set_cons_zero, List.set_cons_succ])
     refine tk 11 ?_ rfl ?_ ?_
     rotate_left
     ·intro wy hSw; (try dsimp only at hSw); obtain ⟨⟨c0, c1, c2, c3⟩, d0, d1, d2, d3⟩ := HC.out wy (bel_tr b3 hSw); have qi := HI.out wy hSw; (go_simp <;> with_reducible rfl)
     (try simp only [List.getElem_toArray, List.getElem_cons_zero, List.getElem_cons_succ, Act.put, List.setIfInBounds_toArray, List.set_cons_zero, List.set_cons_succ])
     refine tk 12 ?_ rfl ?_ ?_
     rotate_left
     ·intro wy hSw; (try dsimp only at hSw); obtain ⟨⟨c0, c1, c2, c3⟩, d0, d1, d2, d3⟩ := HC.out wy (bel_tr b3 hSw); have qi := HI.out wy hSw; (go_simp <;> with_reducible rfl)
     (try simp only [List.getElem_toArray, List.getElem_cons_zero, List.getElem_cons_succ, Act.put, List.setIfInBounds_toArray, List.set_cons_zero, List.set_cons_succ])
     refine wpT_one (k := 13) rfl (by kernel_rfl) (fun K hK => ?_)
     go_simp
     refine (HK.out _).mono ?_
     rintro r4 w4 ⟨rfl, hb4⟩
     have h34 := bel_tr (w := w3) (by (repeat (first | exact Below.refl _ _ | assumption | refine bel_al ?_ _ | refine Below.drew ?_ | refine bel_dn ?_ _ | refine bel_set ?_ (Nat.le_refl _) _))) hb4
     have g4 := bel_tr g3 h34
     clear hb4
     have s4 := bel_lt g4
     have b4 := bel_tr hb0 g4
     obtain ⟨x0, x1, xf⟩ := turn_blk g4
     obtain ⟨⟨c0, c1, c2, c3⟩, d0, d1, d2, d3⟩ := HC.out _ b4
     refine hK.out _ _ ?_ (fun hHeld => ?_)
     ·exact h34
     clear hK K
     (try simp only [Act.put, List.setIfInBounds_toArray, List.set_cons_zero, List.set_cons_succ])
     refine tk 14 ?_ rfl ?_ ?_
     rotate_left
     ·intro wy hSw; (try dsimp only at hSw); obtain ⟨⟨c0, c1, c2, c3⟩, d0, d1, d2, d3⟩ := HC.out wy (bel_tr b3 hSw); have qi := HI.out wy hSw; (go_simp <;> with_reducible rfl)
     (try simp only [List.getElem_toArray, List.getElem_cons_zero, List.getElem_cons_succ, Act.put, List.setIfInBounds_toArray, List.set_cons_zero, List.set_cons_succ])
     refine wpT_done (by kernel_rfl) ?_
     go_wp2_with fail
     refine bodyPost_ret (v := .tuple #[.agg #[.int .i64 0, .slice none 0 0], .bool false]) (by simp [results, Tryz.results66, go_sem, x0, x1]) rfl ?_
     exact ⟨_, _, _, _, _, rfl, by (repeat (first | exact Below.refl _ _ | assumption | refine bel_al ?_ _ | refine Below.drew ?_ | refine bel_dn ?_ _ | refine bel_set ?_ (Nat.le_refl _) _)), HG.out _ _⟩
   ·have HP := hid (fun wx => plain_any y.op hop wx)
    have HG := hid (fun w' nv => show Gives w' 0 nv false (r1 (x :: y :: r)) from by rw [one_no (fun h => ge h.2.1)]; rfl)
    have eE : (((oneR y.op x.A).2 : Int) != 0) = true := by simp [ge]
    generalize decide (tT y.op ≠ 0) = dt at *
    generalize kI (tT y.op) = li at *
    generalize kO (tT y.op) = lo at *
    generalize kOf x.op = KX at *
    generalize oneR y.op x.A = p at *
    obtain ⟨N, E⟩ := p
    simp only at eE HO
    clear hn hcell hcell2 h hrun hok
    clear g1 ge hx hop
    have hb0 : Below w.heap.size w (w.alloc (.cells #[.int .i64 0, .slice none 0 0] 127)) := by (repeat (first | exact Below.refl _ _ | assumption | refine bel_al ?_ _ | refine Below.drew ?_ | refine bel_dn ?_ _ | refine bel_set ?_ (Nat.le_refl _) _))
    obtain ⟨⟨c0, c1, c2, c3⟩, d0, d1, d2, d3⟩ := HC.out _ hb0
    go_enter Tryz.func66, Tryz.ntmps66
    go_wp2_with (go_at_call 97; refine (HN2.out _).mono ?_; rintro r1 w1 ⟨rfl, g1⟩; have s1 := bel_lt g1; have b1 := bel_tr hb0 g1; obtain ⟨x0, x1, xf⟩ := turn_blk g1; obtain ⟨⟨c0, c1, c2, c3⟩, d0, d1, d2, d3⟩ := HC.out _ b1)
    refine wp_region_tail (S := (fun w' => Below (w.alloc (.cells #[.int .i64 0, .slice none 0 0] 127)).heap.size (w.alloc (.cells #[.int .i64 0, .slice none 0 0] 127)) w')) 13 (by kernel_rfl) (by kernel_rfl) ?_ (fun hHeld => ?_)
    ·(repeat (first | exact Below.refl _ _ | assumption | refine bel_al ?_ _ | refine Below.drew ?_ | refine bel_dn ?_ _ | refine bel_set ?_ (Nat.le_refl _) _))
    refine tk 0 ?_ rfl ?_ ?_
    rotate_left
    ·intro wy hSw; (try dsimp only at hSw); obtain ⟨⟨c0, c1, c2, c3⟩, d0, d1, d2, d3⟩ := HC.out wy (bel_tr hb0 hSw); (go_simp <;> with_reducible rfl)
    (try simp only [List.getElem_toArray, List.getElem_cons_zero, Act.put, List.setIfInBounds_toArray, List.set_cons_zero, List.set_cons_succ])
    refine tk 1 ?_ rfl ?_ ?_
    rotate_left
    ·intro wy hSw; (try dsimp only at hSw); obtain ⟨⟨c0, c1, c2, c3⟩, d0, d1, d2, d3⟩ := HC.out wy (bel_tr hb0 hSw); (go_simp <;> with_reducible rfl)
    (try simp only [List.getElem_toArray, List.getElem_cons_zero, List.getElem_cons_succ, Act.put, List.setIfInBounds_toArray, List.set_cons_zero, List.set_cons_succ])
    refine tk 2 ?_ rfl ?_ ?_
    rotate_left
    ·intro wy hSw; (try dsimp only at hSw); obtain ⟨⟨c0, c1, c2, c3⟩, d0, d1, d2, d3⟩ := HC.out wy (bel_tr hb0 hSw); (go_simp <;> with_reducible rfl)
    (try simp only [List.getElem_toArray, List.getElem_cons_zero, List.getElem_cons_succ, Act.put, List.setIfInBounds_toArray, List.set_cons_zero, List.set_cons_succ])
    refine tk 3 ?_ rfl ?_ ?_
    rotate_left
    ·intro wy hSw; (try dsimp only at hSw); obtain ⟨⟨c0, c1, c2, c3⟩, d0, d1, d2, d3⟩ := HC.out wy (bel_tr hb0 hSw); (go_simp <;> with_reducible rfl)
    (try simp only [List.getElem_toArray, List.getElem_cons_zero, List.getElem_cons_succ, Act.put, List.setIfInBounds_toArray, List.set_cons_zero, List.set_cons_succ])
    refine tk 4 ?_ rfl ?_ ?_
    rotate_left
    ·intro wy hSw; (try dsimp only at hSw); obtain ⟨⟨c0, c1, c2, c3⟩, d0, d1, d2, d3⟩ := HC.out wy (bel_tr hb0 hSw); (go_simp <;> with_reducible rfl)
    (try simp only [List.getElem_toArray, List.getElem_cons_zero, List.getElem_cons_succ, Act.put, List.setIfInBounds_toArray, List.set_cons_zero, List.set_cons_succ])
    refine tk 5 ?_ rfl ?_ ?_
    rotate_left
    ·intro wy hSw; (try dsimp only at hSw); obtain ⟨⟨c0, c1, c2, c3⟩, d0, d1, d2, d3⟩ := HC.out wy (bel_tr hb0 hSw); (go_simp <;> with_reducible rfl)
    (try simp only [List.getElem_toArray, List.getElem_cons_zero, List.getElem_cons_succ, Act.put, List.setIfInBounds_toArray, List.set_cons_zero, List.set_cons_succ])
    refine tk 6 ?_ rfl ?_ ?_
    rotate_left
    ·intro wy hSw; (try dsimp only at hSw); obtain ⟨⟨c0, c1, c2, c3⟩, d0, d1, d2, d3⟩ := HC.out wy (bel_tr hb0 hSw); (go_simp <;> with_reducible rfl)
    (try simp only [List.getElem_toArray, List.getElem_cons_zero, List.getElem_cons_succ, Act.put, List.setIfInBounds_toArray, List.set_cons_zero, List.set_cons_succ])
    refine tk 7 ?_ rfl ?_ ?_
    rotate_left
    ·intro wy hSw; (try dsimp only at hSw); obtain ⟨⟨c0, c1, c2, c3⟩, d0, d1, d2, d3⟩ := HC.out wy (bel_tr hb0 hSw); (go_simp <;> with_reducible rfl)
    (try simp only [List.getElem_toArray, List.getElem_cons_zero, List.getElem_cons_succ, Act.put, List.setIfInBounds_toArray, List.set_cons_zero, List.set_cons_succ])
    refine wpT_one (k := 8) rfl (by kernel_rfl) (fun K hK => ?_)
    go_simp
    refine (HO.out _ (by (repeat (first | exact Below.refl _ _ | assumption | refine bel_al ?_ _ | refine Below.drew ?_ | refine bel_dn ?_ _ | refine bel_set ?_ (Nat.le_refl _) _)))).mono ?_
    rintro r2 w2 ⟨rfl, hb2⟩
    have g2 := bel_tr (w := (w.alloc (.cells #[.int .i64 0, .slice none 0 0] 127))) (by (repeat (first | exact Below.refl _ _ | assumption | refine bel_al ?_ _ | refine Below.drew ?_ | refine bel_dn ?_ _ | refine bel_set ?_ (Nat.le_refl _) _))) hb2
    clear hb2
    have s2 := bel_lt g2
    have b2 := bel_tr hb0 g2
    obtain ⟨x0, x1, xf⟩ := turn_blk g2
    obtain ⟨⟨c0, c1, c2, c3⟩, d0, d1, d2, d3⟩ := HC.out _ b2
    refine hK.out _ _ ?_ (fun hHeld => ?_)
    ·exact g2
    clear hK K
    (try simp only [Act.put, List.setIfInBounds_toArray, List.set_cons_zero, List.set_cons_succ])
    refine tk 9 ?_ rfl ?_ ?_
    rotate_left
    ·intro wy hSw; (try dsimp only at hSw); obtain ⟨⟨c0, c1, c2, c3⟩, d0, d1, d2, d3⟩ := HC.out wy (bel_tr hb0 hSw); (go_simp <;> with_reducible rfl)
    (try simp only [List.getElem_toArray, List.getElem_cons_zero, List.getElem_cons_succ, Act.put, List.setIfInBounds_toArray, List.set_cons_zero, List.set_cons_succ])
    refine tk 10 ?_ rfl ?_ ?_
    rotate_left
    ·intro wy hSw; (try dsimp only at hSw); obtain ⟨⟨c0, c1, c2, c3⟩, d0, d1, d2, d3⟩ := HC.out wy (bel_tr hb0 hSw); (go_simp <;> with_reducible rfl)
    (try simp only [List.getElem_toArray, List.getElem_cons_zero, List.getElem_cons_succ, Act.put, List.setIfInBounds_toArray, List.set_cons_zero, List.set_cons_succ])
    refine tk 11 ?_ rfl ?_ ?_
    rotate_left
    ·intro wy hSw; (try dsimp only at hSw); obtain ⟨⟨c0, c1, c2, c3⟩, d0, d1, d2, d3⟩ := HC.out wy (bel_tr hb0 hSw); (go_simp <;> with_reducible rfl)
    (try simp only [List.getElem_toArray, List.getElem_cons_zero, List.getElem_cons_succ, Act.put, List.setIfInBounds_toArray, List.set_cons_zero, List.set_cons_succ])
    refine tk 12 ?_ rfl ?_ ?_
    rotate_left
    ·intro wy hSw; (try dsimp only at hSw); obtain ⟨⟨c0, c1, c2, c3⟩, d0, d1, d2, d3⟩ := HC.out wy (bel_tr hb0 hSw); (go_simp <;> with_reducible rfl)
    (try simp only [List.getElem_toArray, List.getElem_cons_zero, List.getElem_cons_succ, Act.put, List.setIfInBounds_toArray, List.set_cons_zero, List.set_cons_succ])
    refine wpT_done (by kernel_rfl) ?_
    go_wp2_with (go_at_call 99; refine (HP.out _).mono ?_; rintro r3 w3 ⟨vi, vo, rfl, hk1, hk2, hb3⟩; have g3 := bel_tr g2 hb3; clear hb3; have s3 := bel_lt g3; have b3 := bel_tr hb0 g3; obtain ⟨x0, x1, xf⟩ := turn_blk g3; obtain ⟨⟨c0, c1, c2, c3⟩, d0, d1, d2, d3⟩ := HC.out _ b3; clear hk1 hk2)
    go_quiet (fail)
    go_wp2_with fail
    refine bodyPost_ret (v := .tuple #[.agg #[.int .i64 0, .slice none 0 0], .bool false]) (by simp [results, Tryz.results66, go_sem, x0, x1]) rfl ?_
    exact ⟨_, _, _, _, _, rfl, by (repeat (first | exact Below.refl _ _ | assumption | refine bel_al ?_ _ | refine Below.drew ?_ | refine bel_dn ?_ _ | refine bel_set ?_ (Nat.le_refl _) _)), HG.out _ _⟩
  ·rw [show decide (x.op = 65 ∨ x.op = 66) = false from decide_eq_false g1] at HN2
   have HG := hid (fun w' nv => show Gives w' 0 nv false (r1 (x :: y :: r)) from by rw [one_no (fun h => g1 h.1)]; rfl)
   clear hn hcell hcell2 h hrun hok
   have hb0 : Below w.heap.size w (w.alloc (.cells #[.int .i64 0, .slice none 0 0] 127)) := by (repeat (first | exact Below.refl _ _ | assumption | refine bel_al ?_ _ | refine Below.drew ?_ | refine bel_dn ?_ _ | refine bel_set ?_ (Nat.le_refl _) _))
   obtain ⟨⟨c0, c1, c2, c3⟩, d0, d1, d2, d3⟩ := HC.out _ hb0
   clear g1
   go_enter Tryz.func66, Tryz.ntmps66
   go_wp2_with (go_at_call 97; refine (HN2.out _).mono ?_; rintro r1 w1 ⟨rfl, g1⟩; have s1 := bel_lt g1; have b1 := bel_tr hb0 g1; obtain ⟨x0, x1, xf⟩ := turn_blk g1; obtain ⟨⟨c0, c1, c2, c3⟩, d0, d1, d2, d3⟩ := HC.out _ b1)
   refine bodyPost_ret (v := .tuple #[.agg #[.int .i64 0, .slice none 0 0], .bool false]) (by simp [results, Tryz.results66, go_sem, x0, x1]) rfl ?_
   exact ⟨_, _, _, _, _, rfl, by (repeat (first | exact Below.refl _ _ | assumption | refine bel_al ?_ _ | refine Below.drew ?_ | refine bel_dn ?_ _ | refine bel_set ?_ (Nat.le_refl _) _)), HG.out _ _⟩
end Go.Proofs.YtakfineljffoaaaGreatDoor
