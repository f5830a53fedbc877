/-
  FOLDED BODIES: the reference's instead where the first instruction is a constant (66). No condition.
-/
import Derived.Test.YtakfineljffoaaaGreatDoorGFoldSays35
namespace Go.Proofs.YtakfineljffoaaaGreatDoor
open Go.RowKit Go.Lib


set_option maxRecDepth 100000 in
set_option maxHeartbeats 16000000 in
theorem instead_66 (w : World) (v : Value) (x y : It) (t : List It) (h : IPre w v x (y :: t)) (hx : x.op = 66) : IPost w v x (y :: t) := by
 unfold IPost
 obtain ⟨b, off, n, cap, rfl, hn, hc1, hc2, u, hcell⟩ := h.bod.one
 have hix := h.bod.tos 0 (by simp) (u := u) (by simpa using (hcell _ (Below.refl _ _)).2.2.2)
 simp only [List.getElem_cons_zero] at hix
 obtain ⟨au, cu, rfl⟩ := hix.sl
 obtain ⟨u2, hcell2⟩ := h.bod.second
 have hiy := h.bod.tos 1 (by simp) (u := u2) (by simpa using (hcell2 _ (Below.refl _ _)).2.2.2)
 simp only [List.getElem_cons_succ, List.getElem_cons_zero] at hiy
 obtain ⟨au2, cu2, rfl⟩ := hiy.sl
 have e1 : ((x.op : Int) == 1) = false := opF (show ¬ x.op = 1 by omega)
 have e65 : ((x.op : Int) == 65) = false := opF (show ¬ x.op = 65 by omega)
 have e66 : ((x.op : Int) == 66) = true := opT (show x.op = 66 by omega)
 have e32 : ((x.op : Int) == 32) = false := opF (show ¬ x.op = 32 by omega)
 have e35 : ((x.op : Int) == 35) = false := opF (show ¬ x.op = 35 by omega)
 have e0 : ((x.op : Int) == 0) = false := opF (show ¬ x.op = 0 by omega)
 have e12 : ((x.op : Int) == 12) = false := opF (show ¬ x.op = 12 by omega)
 have e14 : ((x.op : Int) == 14) = false := opF (show ¬ x.op = 14 by omega)
 have e15 : ((x.op : Int) == 15) = false := opF (show ¬ x.op = 15 by omega)
 have e33 : ((x.op : Int) == 33) = false := opF (show ¬ x.op = 33 by omega)
 have h1x : ¬ x.op = 1 := by omega
 have hcx : x.op = 65 ∨ x.op = 66 := by omega
 have hkx : kOf x.op = 126 := by rw [hx]; rfl
 have HC := hid (fun wx hb => show _ ∧ _ from ⟨hcell wx hb, hcell2 wx hb⟩)
 have hp : 0 < n := by omega
 have hp1 : 1 < n := by rw [hn]; simp
 have hq : (0 : Int) < (n : Int) := by omega
 have hq1 : (1 : Int) < (n : Int) := by omega
 have hn1 : ((n : Int) == 1) = false := by simp; omega
 have HH := hid h
 obtain ⟨k, st, hfit⟩ := h.fit
 obtain ⟨⟨c0, c1, c2, c3⟩, d0, d1, d2, d3⟩ := HC.out _ (Below.refl _ _)
 have a4 := fun o => cell_alloc o d0
 have a5 := fun o => cell_alloc o d1
 have a6 := fun o => cell_alloc o d2
 have a7 := fun o => cell_alloc o d3
 have hxA := (h.ok x (by simp)).in64
 have hyo := (h.ok y (by simp)).1
 have hnt : n = t.length + 2 := by rw [hn]; rfl
 have HO := hid (fun wx => rone_any y.op hxA wx)
 have HT := hid (fun wx => takes_any y.op hyo wx)
 have TW := hid (two_laid w x y au au2 cu cu2)
 have HFIT := hid hfit
 have HHN := hid hnt
 have HHX := hid hx
 clear hcell hcell2 h hiy hix hn hfit hx hnt
 have k1 : (⟨#[108]⟩ : ByteArray) ++ (⟨#[62, 105]⟩ : ByteArray) = ⟨#[108, 62, 105]⟩ := rfl
 have k2 : (⟨#[108]⟩ : ByteArray) ++ (⟨#[62, 108]⟩ : ByteArray) = ⟨#[108, 62, 108]⟩ := rfl
 have k3 : (⟨#[108]⟩ : ByteArray) ++ (⟨#[108]⟩ : ByteArray) = ⟨#[108, 108]⟩ := rfl
 have k4 : (⟨#[108, 108]⟩ : ByteArray) ++ (⟨#[62, 105]⟩ : ByteArray) = ⟨#[108, 108, 62, 105]⟩ := rfl
 have k5 : (⟨#[108, 108]⟩ : ByteArray) ++ (⟨#[62, 108]⟩ : ByteArray) = ⟨#[108, 108, 62, 108]⟩ := rfl
 go_enter Tryz.func43, Tryz.ntmps43
 go_upto_if 35 with fail
 go_cut [] from 7 to 111 (fun wx => Hid (Below w.heap.size w wx) ∧ Hid (TwoAt wx w.heap.size (w.heap.size + 1) x y (.slice au x.tos.length cu) (.slice au2 y.tos.length cu2)) ∧ Hid (ruleM oM pM (x :: y :: t) = ruleC x y t))
 case first =>
  have hx := HHX.out
  have hnt := HHN.out
  by_cases he : (oneR y.op x.A).2 = 0
  ·have ht := one_tt hxA he
   have hy65 : ¬ y.op = x.op := by
    intro e
    have e2 : tT y.op = 11 := by rw [e, hx]; rfl
    omega
   have eyx : ((y.op : Int) == (x.op : Int)) = false := opF hy65
   have hor : ∃ N, oneR y.op x.A = (N, 0) := ⟨_, Prod.ext rfl he⟩
   obtain ⟨N, hor⟩ := hor
   rw [hor] at HO
   simp only at HO
   rcases ht with ht | ht | ht | ht
   ·have ht0 := ht
    rw [ht] at HT
    rw [show S (tkL 1) = ⟨#[105, 62, 105]⟩ from rfl] at HT
    have hno := one_no (x := x) (y := y) (r := t) (fun h => by have := h.2.2; rw [ht, hkx] at this; exact absurd this (by decide))
    have h2n : r2 (x :: y :: t) = none := by cases t with | nil => rfl | cons z t => exact two_no (fun h => hy65 h.2.1)
    have HQ := hid (rm3 h1x hno h2n)
    clear hno h2n ht ht0 he hor hy65 hcx hx h1x hkx hxA hyo
    by_cases hl2 : 2 < n
    ·have hl3 : (2 : Int) < (n : Int) := by omega
     clear hl2 hnt
     go_wp2_with (first | (go_at_call 77; refine (HO.out _).mono ?_; rintro r w3 ⟨rfl, hb3⟩; have B3 := bel_tr (w := w) (by (repeat (first | exact Below.refl _ _ | assumption | refine bel_al ?_ _ | refine Below.drew ?_ | refine bel_dn ?_ _ | refine bel_set ?_ (Nat.le_refl _) _))) hb3; have T3 := hid (TW.out.below hb3); obtain ⟨⟨m0, m1, m2, m3⟩, n0, n1, n2, n3⟩ := T3.out.cells; clear hb3) | (go_at_call 78; refine (HT.out _).mono ?_; rintro r w4 ⟨rfl, rfl⟩))
     go_meet
     exact ⟨hid (by (repeat (first | exact Below.refl _ _ | assumption | refine bel_al ?_ _ | refine Below.drew ?_ | refine bel_dn ?_ _ | refine bel_set ?_ (Nat.le_refl _) _))), hid (T3.out), hid (HQ.out)⟩
    ·have hl3 : ¬ (2 : Int) < (n : Int) := by omega
     clear hl2 hnt
     go_wp2_with (first | (go_at_call 77; refine (HO.out _).mono ?_; rintro r w3 ⟨rfl, hb3⟩; have B3 := bel_tr (w := w) (by (repeat (first | exact Below.refl _ _ | assumption | refine bel_al ?_ _ | refine Below.drew ?_ | refine bel_dn ?_ _ | refine bel_set ?_ (Nat.le_refl _) _))) hb3; have T3 := hid (TW.out.below hb3); obtain ⟨⟨m0, m1, m2, m3⟩, n0, n1, n2, n3⟩ := T3.out.cells; clear hb3) | (go_at_call 78; refine (HT.out _).mono ?_; rintro r w4 ⟨rfl, rfl⟩))
     go_meet
     exact ⟨hid (by (repeat (first | exact Below.refl _ _ | assumption | refine bel_al ?_ _ | refine Below.drew ?_ | refine bel_dn ?_ _ | refine bel_set ?_ (Nat.le_refl _) _))), hid (T3.out), hid (HQ.out)⟩
   ·have ht0 := ht
    rw [ht] at HT
    rw [show S (tkL 2) = ⟨#[108, 62, 105]⟩ from rfl] at HT
    have HCo := hid (fun wx n => constOf_any wx 2 (by decide) n)
    rw [show S (tkL 2) = ⟨#[108, 62, 105]⟩ from rfl] at HCo
    have HQ := hid (rm1 h1x (one_yes (r := t) hcx he (by omega) (by rw [ht, hkx]; rfl)))
    rw [ht, hor] at HQ
    simp only at HQ
    clear ht ht0 he hor hy65 hcx hx h1x hkx hxA hyo hnt
    go_wp2_with (first | (go_at_call 77; refine (HO.out _).mono ?_; rintro r w3 ⟨rfl, hb3⟩; have B3 := bel_tr (w := w) (by (repeat (first | exact Below.refl _ _ | assumption | refine bel_al ?_ _ | refine Below.drew ?_ | refine bel_dn ?_ _ | refine bel_set ?_ (Nat.le_refl _) _))) hb3; have T3 := hid (TW.out.below hb3); obtain ⟨⟨m0, m1, m2, m3⟩, n0, n1, n2, n3⟩ := T3.out.cells; clear hb3) | (go_at_call 78; refine (HT.out _).mono ?_; rintro r w4 ⟨rfl, rfl⟩) | (go_at_call 79; refine (HCo.out _ _).mono ?_; rintro r w5 ⟨rfl, rfl⟩))
    refine bodyPost_ret (v := .tuple #[.slice (some ⟨w3.heap.size, 0, none⟩) 1 1, .int .i64 2]) (by simp [results, Tryz.results43, go_sem]) rfl ?_
    exact ⟨_, _, _, _, rfl, by (repeat (first | exact Below.refl _ _ | assumption | refine bel_al ?_ _ | refine Below.drew ?_ | refine bel_dn ?_ _ | refine bel_set ?_ (Nat.le_refl _) _)), by rw [HQ.out]; exact ⟨by simp, BodS.made _ _ _ _ rfl⟩⟩
   ·have ht0 := ht
    rw [ht] at HT
    rw [show S (tkL 5) = ⟨#[108, 62, 108]⟩ from rfl] at HT
    have HCo := hid (fun wx n => constOf_any wx 5 (by decide) n)
    rw [show S (tkL 5) = ⟨#[108, 62, 108]⟩ from rfl] at HCo
    have HQ := hid (rm1 h1x (one_yes (r := t) hcx he (by omega) (by rw [ht, hkx]; rfl)))
    rw [ht, hor] at HQ
    simp only at HQ
    clear ht ht0 he hor hy65 hcx hx h1x hkx hxA hyo hnt
    go_wp2_with (first | (go_at_call 77; refine (HO.out _).mono ?_; rintro r w3 ⟨rfl, hb3⟩; have B3 := bel_tr (w := w) (by (repeat (first | exact Below.refl _ _ | assumption | refine bel_al ?_ _ | refine Below.drew ?_ | refine bel_dn ?_ _ | refine bel_set ?_ (Nat.le_refl _) _))) hb3; have T3 := hid (TW.out.below hb3); obtain ⟨⟨m0, m1, m2, m3⟩, n0, n1, n2, n3⟩ := T3.out.cells; clear hb3) | (go_at_call 78; refine (HT.out _).mono ?_; rintro r w4 ⟨rfl, rfl⟩) | (go_at_call 79; refine (HCo.out _ _).mono ?_; rintro r w5 ⟨rfl, rfl⟩))
    refine bodyPost_ret (v := .tuple #[.slice (some ⟨w3.heap.size, 0, none⟩) 1 1, .int .i64 2]) (by simp [results, Tryz.results43, go_sem]) rfl ?_
    exact ⟨_, _, _, _, rfl, by (repeat (first | exact Below.refl _ _ | assumption | refine bel_al ?_ _ | refine Below.drew ?_ | refine bel_dn ?_ _ | refine bel_set ?_ (Nat.le_refl _) _)), by rw [HQ.out]; exact ⟨by simp, BodS.made _ _ _ _ rfl⟩⟩
   ·have ht0 := ht
    rw [ht] at HT
    rw [show S (tkL 7) = ⟨#[105, 62, 108]⟩ from rfl] at HT
    have hno := one_no (x := x) (y := y) (r := t) (fun h => by have := h.2.2; rw [ht, hkx] at this; exact absurd this (by decide))
    have h2n : r2 (x :: y :: t) = none := by cases t with | nil => rfl | cons z t => exact two_no (fun h => hy65 h.2.1)
    have HQ := hid (rm3 h1x hno h2n)
    clear hno h2n ht ht0 he hor hy65 hcx hx h1x hkx hxA hyo
    by_cases hl2 : 2 < n
    ·have hl3 : (2 : Int) < (n : Int) := by omega
     clear hl2 hnt
     go_wp2_with (first | (go_at_call 77; refine (HO.out _).mono ?_; rintro r w3 ⟨rfl, hb3⟩; have B3 := bel_tr (w := w) (by (repeat (first | exact Below.refl _ _ | assumption | refine bel_al ?_ _ | refine Below.drew ?_ | refine bel_dn ?_ _ | refine bel_set ?_ (Nat.le_refl _) _))) hb3; have T3 := hid (TW.out.below hb3); obtain ⟨⟨m0, m1, m2, m3⟩, n0, n1, n2, n3⟩ := T3.out.cells; clear hb3) | (go_at_call 78; refine (HT.out _).mono ?_; rintro r w4 ⟨rfl, rfl⟩))
     go_meet
     exact ⟨hid (by (repeat (first | exact Below.refl _ _ | assumption | refine bel_al ?_ _ | refine Below.drew ?_ | refine bel_dn ?_ _ | refine bel_set ?_ (Nat.le_refl _) _))), hid (T3.out), hid (HQ.out)⟩
    ·have hl3 : ¬ (2 : Int) < (n : Int) := by omega
     clear hl2 hnt
     go_wp2_with (first | (go_at_call 77; refine (HO.out _).mono ?_; rintro r w3 ⟨rfl, hb3⟩; have B3 := bel_tr (w := w) (by (repeat (first | exact Below.refl _ _ | assumption | refine bel_al ?_ _ | refine Below.drew ?_ | refine bel_dn ?_ _ | refine bel_set ?_ (Nat.le_refl _) _))) hb3; have T3 := hid (TW.out.below hb3); obtain ⟨⟨m0, m1, m2, m3⟩, n0, n1, n2, n3⟩ := T3.out.cells; clear hb3) | (go_at_call 78; refine (HT.out _).mono ?_; rintro r w4 ⟨rfl, rfl⟩))
     go_meet
     exact ⟨hid (by (repeat (first | exact Below.refl _ _ | assumption | refine bel_al ?_ _ | refine Below.drew ?_ | refine bel_dn ?_ _ | refine bel_set ?_ (Nat.le_refl _) _))), hid (T3.out), hid (HQ.out)⟩
  ·have heE := he
   have hno := one_no (x := x) (y := y) (r := t) (fun h => he h.2.1)
   have hor : ∃ N E, oneR y.op x.A = (N, E) ∧ ((E : Int) == 0) = false := ⟨(oneR y.op x.A).1, (oneR y.op x.A).2, rfl, by simpa using he⟩
   obtain ⟨N, E, hor, hE⟩ := hor
   rw [hor] at HO
   simp only at HO
   rcases t with _ | ⟨z, r⟩
   ·have HQ := hid (rm3 h1x hno (r2_nil x y))
    have hl3 : ¬ (2 : Int) < (n : Int) := by rw [hnt]; simp
    clear hno heE he hor hcx hx h1x hkx hxA hyo hnt
    go_wp2_with (first | (go_at_call 77; refine (HO.out _).mono ?_; rintro r w3 ⟨rfl, hb3⟩; have B3 := bel_tr (w := w) (by (repeat (first | exact Below.refl _ _ | assumption | refine bel_al ?_ _ | refine Below.drew ?_ | refine bel_dn ?_ _ | refine bel_set ?_ (Nat.le_refl _) _))) hb3; have T3 := hid (TW.out.below hb3); obtain ⟨⟨m0, m1, m2, m3⟩, n0, n1, n2, n3⟩ := T3.out.cells; clear hb3) | (go_at_call 78; refine (HT.out _).mono ?_; rintro r w4 ⟨rfl, rfl⟩))
    go_meet
    exact ⟨hid (by (repeat (first | exact Below.refl _ _ | assumption | refine bel_al ?_ _ | refine Below.drew ?_ | refine bel_dn ?_ _ | refine bel_set ?_ (Nat.le_refl _) _))), hid (T3.out), hid (HQ.out)⟩
   ·have hl3 : (2 : Int) < (n : Int) := by simp only [List.length_cons] at hnt; omega
    by_cases hy : y.op = x.op
    ·have eyx : ((y.op : Int) == (x.op : Int)) = true := opT hy
     obtain ⟨u3, hcell3⟩ := HH.out.bod.third
     have HC3 := hid hcell3
     have hp2 : 2 < n := by omega
     have hyA := (HH.out.ok y (by simp)).in64
     have hzo := (HH.out.ok z (by simp)).1
     have HO2 := hid (fun wx => rtwo_any z.op hzo x.A y.A wx)
     have HT2 := hid (fun wx => takes_any z.op hzo wx)
     clear hcell3
     by_cases he2 : twoE z.op x.A y.A = 0
     ·have ht := two_tt hzo he2
      rw [he2] at HO2
      rcases ht with ht | ht | ht
      ·have ht0 := ht
       rw [ht] at HT2
       rw [show S (tkL 3) = ⟨#[105, 105, 62, 105]⟩ from rfl] at HT2
       have h2n := two_no (x := x) (y := y) (z := z) (r := r) (fun h => by have := h.2.2.2; rw [ht, hkx] at this; exact absurd this (by decide))
       have HQ := hid (rm3 h1x hno h2n)
       generalize twoN z.op x.A y.A = N2 at *
       clear h2n ht ht0
       clear hno heE he hor hcx hx h1x hkx hxA hyo hnt hy hyA hzo he2
       go_wp2_with (first | (go_at_call 77; refine (HO.out _).mono ?_; rintro r w3 ⟨rfl, hb3⟩; have B3 := bel_tr (w := w) (by (repeat (first | exact Below.refl _ _ | assumption | refine bel_al ?_ _ | refine Below.drew ?_ | refine bel_dn ?_ _ | refine bel_set ?_ (Nat.le_refl _) _))) hb3; have T3 := hid (TW.out.below hb3); obtain ⟨⟨m0, m1, m2, m3⟩, n0, n1, n2, n3⟩ := T3.out.cells; clear hb3) | (go_at_call 78; refine (HT.out _).mono ?_; rintro r w4 ⟨rfl, rfl⟩))
       refine wp_region_tail (S := (fun w' => Below w3.heap.size w3 w')) 13 (by kernel_rfl) (by kernel_rfl) ?_ (fun hHeld => ?_)
       ·(repeat (first | exact Below.refl _ _ | assumption | refine bel_al ?_ _ | refine Below.drew ?_ | refine bel_dn ?_ _ | refine bel_set ?_ (Nat.le_refl _) _))
       refine tk 0 ?_ rfl ?_ ?_
       rotate_left
       ·intro wy hSw; (try dsimp only at hSw); obtain ⟨⟨m0, m1, m2, m3⟩, n0, n1, n2, n3⟩ := (T3.out.below hSw).cells; obtain ⟨q0, q1, q2, q3⟩ := HC3.out wy (bel_tr B3 hSw); (go_simp <;> with_reducible rfl)
       (try simp only [List.getElem_toArray, List.getElem_cons_zero, Act.put, List.setIfInBounds_toArray, List.set_cons_zero, List.set_cons_succ])
       refine tk 1 ?_ rfl ?_ ?_
       rotate_left
       ·intro wy hSw; (try dsimp only at hSw); obtain ⟨⟨m0, m1, m2, m3⟩, n0, n1, n2, n3⟩ := (T3.out.below hSw).cells; obtain ⟨q0, q1, q2, q3⟩ := HC3.out wy (bel_tr B3 hSw); (go_simp <;> with_reducible rfl)
       (try simp only [List.getElem_toArray, List.getElem_cons_zero, List.getElem_cons_succ, Act.put, List.setIfInBounds_toArray, List.set_cons_zero, List.set_cons_succ])
       refine tk 2 ?_ rfl ?_ ?_
       rotate_left
       ·intro wy hSw; (try dsimp only at hSw); obtain ⟨⟨m0, m1, m2, m3⟩, n0, n1, n2, n3⟩ := (T3.out.below hSw).cells; obtain ⟨q0, q1, q2, q3⟩ := HC3.out wy (bel_tr B3 hSw); (go_simp <;> with_reducible rfl)
       (try simp only [List.getElem_toArray, List.getElem_cons_zero, List.getElem_cons_succ, Act.put, List.setIfInBounds_toArray, List.set_cons_zero, List.set_cons_succ])
       refine tk 3 ?_ rfl ?_ ?_
       rotate_left
       ·intro wy hSw; (try dsimp only at hSw); obtain ⟨⟨m0, m1, m2, m3⟩, n0, n1, n2, n3⟩ := (T3.out.below hSw).cells; obtain ⟨q0, q1, q2, q3⟩ := HC3.out wy (bel_tr B3 hSw); (go_simp <;> with_reducible rfl)
       (try simp only [List.getElem_toArray, List.getElem_cons_zero, List.getElem_cons_succ, Act.put, List.setIfInBounds_toArray, List.set_cons_zero, List.set_cons_succ])
       refine tk 4 ?_ rfl ?_ ?_
       rotate_left
       ·intro wy hSw; (try dsimp only at hSw); obtain ⟨⟨m0, m1, m2, m3⟩, n0, n1, n2, n3⟩ := (T3.out.below hSw).cells; obtain ⟨q0, q1, q2, q3⟩ := HC3.out wy (bel_tr B3 hSw); (go_simp <;> with_reducible rfl)
       (try simp only [List.getElem_toArray, List.getElem_cons_zero, List.getElem_cons_succ, Act.put, List.setIfInBounds_toArray, List.set_cons_zero, List.set_cons_succ])
       refine tk 5 ?_ rfl ?_ ?_
       rotate_left
       ·intro wy hSw; (try dsimp only at hSw); obtain ⟨⟨m0, m1, m2, m3⟩, n0, n1, n2, n3⟩ := (T3.out.below hSw).cells; obtain ⟨q0, q1, q2, q3⟩ := HC3.out wy (bel_tr B3 hSw); (go_simp <;> with_reducible rfl)
       (try simp only [List.getElem_toArray, List.getElem_cons_zero, List.getElem_cons_succ, Act.put, List.setIfInBounds_toArray, List.set_cons_zero, List.set_cons_succ])
       refine tk 6 ?_ rfl ?_ ?_
       rotate_left
       ·intro wy hSw; (try dsimp only at hSw); obtain ⟨⟨m0, m1, m2, m3⟩, n0, n1, n2, n3⟩ := (T3.out.below hSw).cells; obtain ⟨q0, q1, q2, q3⟩ := HC3.out wy (bel_tr B3 hSw); (go_simp <;> with_reducible rfl)
       (try simp only [List.getElem_toArray, List.getElem_cons_zero, List.getElem_cons_succ, Act.put, List.setIfInBounds_toArray, List.set_cons_zero, List.set_cons_succ])
       refine tk 7 ?_ rfl ?_ ?_
       rotate_left
       ·intro wy hSw; (try dsimp only at hSw); obtain ⟨⟨m0, m1, m2, m3⟩, n0, n1, n2, n3⟩ := (T3.out.below hSw).cells; obtain ⟨q0, q1, q2, q3⟩ := HC3.out wy (bel_tr B3 hSw); (go_simp <;> with_reducible rfl)
       (try simp only [List.getElem_toArray, List.getElem_cons_zero, List.getElem_cons_succ, Act.put, List.setIfInBounds_toArray, List.set_cons_zero, List.set_cons_succ])
       refine wpT_one (k := 8) rfl (by kernel_rfl) (fun K hK => ?_)
       go_simp
       refine (HO2.out _).mono ?_
       rintro r w5 ⟨rfl, hb5⟩
       have h35 := bel_tr (w := w3) (by (repeat (first | exact Below.refl _ _ | assumption | refine bel_al ?_ _ | refine Below.drew ?_ | refine bel_dn ?_ _ | refine bel_set ?_ (Nat.le_refl _) _))) hb5
       have B5 := bel_tr B3 h35
       obtain ⟨⟨m0, m1, m2, m3⟩, n0, n1, n2, n3⟩ := (T3.out.below h35).cells
       obtain ⟨q0, q1, q2, q3⟩ := HC3.out w5 B5
       clear hb5
       refine hK.out _ _ ?_ (fun hHeld => ?_)
       ·exact h35
       clear hK K
       (try simp only [Act.put, List.setIfInBounds_toArray, List.set_cons_zero, List.set_cons_succ])
       refine tk 9 ?_ rfl ?_ ?_
       rotate_left
       ·intro wy hSw; (try dsimp only at hSw); obtain ⟨⟨m0, m1, m2, m3⟩, n0, n1, n2, n3⟩ := (T3.out.below hSw).cells; obtain ⟨q0, q1, q2, q3⟩ := HC3.out wy (bel_tr B3 hSw); (go_simp <;> with_reducible rfl)
       (try simp only [List.getElem_toArray, List.getElem_cons_zero, List.getElem_cons_succ, Act.put, List.setIfInBounds_toArray, List.set_cons_zero, List.set_cons_succ])
       refine tk 10 ?_ rfl ?_ ?_
       rotate_left
       ·intro wy hSw; (try dsimp only at hSw); obtain ⟨⟨m0, m1, m2, m3⟩, n0, n1, n2, n3⟩ := (T3.out.below hSw).cells; obtain ⟨q0, q1, q2, q3⟩ := HC3.out wy (bel_tr B3 hSw); (go_simp <;> with_reducible rfl)
       (try simp only [List.getElem_toArray, List.getElem_cons_zero, List.getElem_cons_succ, Act.put, List.setIfInBounds_toArray, List.set_cons_zero, List.set_cons_succ])
       refine tk 11 ?_ rfl ?_ ?_
       rotate_left
       ·intro wy hSw; (try dsimp only at hSw); obtain ⟨⟨m0, m1, m2, m3⟩, n0, n1, n2, n3⟩ := (T3.out.below hSw).cells; obtain ⟨q0, q1, q2, q3⟩ := HC3.out wy (bel_tr B3 hSw); (go_simp <;> with_reducible rfl)
       (try simp only [List.getElem_toArray, List.getElem_cons_zero, List.getElem_cons_succ, Act.put, List.setIfInBounds_toArray, List.set_cons_zero, List.set_cons_succ])
       refine tk 12 ?_ rfl ?_ ?_
       rotate_left
       ·intro wy hSw; (try dsimp only at hSw); obtain ⟨⟨m0, m1, m2, m3⟩, n0, n1, n2, n3⟩ := (T3.out.below hSw).cells; obtain ⟨q0, q1, q2, q3⟩ := HC3.out wy (bel_tr B3 hSw); (go_simp <;> with_reducible rfl)
       (try simp only [List.getElem_toArray, List.getElem_cons_zero, List.getElem_cons_succ, Act.put, List.setIfInBounds_toArray, List.set_cons_zero, List.set_cons_succ])
       refine wpT_done (by kernel_rfl) ?_
       go_wp2_with (go_at_call 78; refine (HT2.out _).mono ?_; rintro r w6 ⟨rfl, rfl⟩)
       go_meet
       exact ⟨hid (by (repeat (first | exact Below.refl _ _ | assumption | refine bel_al ?_ _ | refine Below.drew ?_ | refine bel_dn ?_ _ | refine bel_set ?_ (Nat.le_refl _) _))), hid (T3.out.below h35), hid (HQ.out)⟩
      ·have ht0 := ht
       rw [ht] at HT2
       rw [show S (tkL 4) = ⟨#[108, 108, 62, 105]⟩ from rfl] at HT2
       have HCo := hid (fun wx n => constOf_any wx 4 (by decide) n)
       rw [show S (tkL 4) = ⟨#[108, 108, 62, 105]⟩ from rfl] at HCo
       have HQ := hid (rm2 h1x hno (two_yes (r := r) hcx hy he2 (by omega) (by rw [ht, hkx]; rfl)))
       rw [ht] at HQ
       generalize twoN z.op x.A y.A = N2 at *
       clear hno heE he hor hcx hx h1x hkx hxA hyo hnt hy hyA hzo he2 ht ht0
       go_wp2_with (first | (go_at_call 77; refine (HO.out _).mono ?_; rintro r w3 ⟨rfl, hb3⟩; have B3 := bel_tr (w := w) (by (repeat (first | exact Below.refl _ _ | assumption | refine bel_al ?_ _ | refine Below.drew ?_ | refine bel_dn ?_ _ | refine bel_set ?_ (Nat.le_refl _) _))) hb3; have T3 := hid (TW.out.below hb3); obtain ⟨⟨m0, m1, m2, m3⟩, n0, n1, n2, n3⟩ := T3.out.cells; clear hb3) | (go_at_call 78; refine (HT.out _).mono ?_; rintro r w4 ⟨rfl, rfl⟩))
       refine wp_region_tail (S := (fun w' => Below w3.heap.size w3 w')) 13 (by kernel_rfl) (by kernel_rfl) ?_ (fun hHeld => ?_)
       ·(repeat (first | exact Below.refl _ _ | assumption | refine bel_al ?_ _ | refine Below.drew ?_ | refine bel_dn ?_ _ | refine bel_set ?_ (Nat.le_refl _) _))
       refine tk 0 ?_ rfl ?_ ?_
       rotate_left
       ·intro wy hSw; (try dsimp only at hSw); obtain ⟨⟨m0, m1, m2, m3⟩, n0, n1, n2, n3⟩ := (T3.out.below hSw).cells; obtain ⟨q0, q1, q2, q3⟩ := HC3.out wy (bel_tr B3 hSw); (go_simp <;> with_reducible rfl)
       (try simp only [List.getElem_toArray, List.getElem_cons_zero, Act.put, List.setIfInBounds_toArray, List.set_cons_zero, List.set_cons_succ])
       refine tk 1 ?_ rfl ?_ ?_
       rotate_left
       ·intro wy hSw; (try dsimp only at hSw); obtain ⟨⟨m0, m1, m2, m3⟩, n0, n1, n2, n3⟩ := (T3.out.below hSw).cells; obtain ⟨q0, q1, q2, q3⟩ := HC3.out wy (bel_tr B3 hSw); (go_simp <;> with_reducible rfl)
       (try simp only [List.getElem_toArray, List.getElem_cons_zero, List.getElem_cons_succ, Act.put, List.setIfInBounds_toArray, List.set_cons_zero, List.set_cons_succ])
       refine tk 2 ?_ rfl ?_ ?_
       rotate_left
       ·intro wy hSw; (try dsimp only at hSw); obtain ⟨⟨m0, m1, m2, m3⟩, n0, n1, n2, n3⟩ := (T3.out.below hSw).cells; obtain ⟨q0, q1, q2, q3⟩ := HC3.out wy (bel_tr B3 hSw); (go_simp <;> with_reducible rfl)
       (try simp only [List.getElem_toArray, List.getElem_cons_zero, List.getElem_cons_succ, Act.put, List.setIfInBounds_toArray, List.set_cons_zero, List.set_cons_succ])
       refine tk 3 ?_ rfl ?_ ?_
       rotate_left
       ·intro wy hSw; (try dsimp only at hSw); obtain ⟨⟨m0, m1, m2, m3⟩, n0, n1, n2, n3⟩ := (T3.out.below hSw).cells; obtain ⟨q0, q1, q2, q3⟩ := HC3.out wy (bel_tr B3 hSw); (go_simp <;> with_reducible rfl)
       (try simp only [List.getElem_toArray, List.getElem_cons_zero, List.getElem_cons_succ, Act.put, List.setIfInBounds_toArray, List.set_cons_zero, List.set_cons_succ])
       refine tk 4 ?_ rfl ?_ ?_
       rotate_left
       ·intro wy hSw; (try dsimp only at hSw); obtain ⟨⟨m0, m1, m2, m3⟩, n0, n1, n2, n3⟩ := (T3.out.below hSw).cells; obtain ⟨q0, q1, q2, q3⟩ := HC3.out wy (bel_tr B3 hSw); (go_simp <;> with_reducible rfl)
       (try simp only [List.getElem_toArray, List.getElem_cons_zero, List.getElem_cons_succ, Act.put, List.setIfInBounds_toArray, List.set_cons_zero, List.set_cons_succ])
       refine tk 5 ?_ rfl ?_ ?_
       rotate_left
       ·intro wy hSw; (try dsimp only at hSw); obtain ⟨⟨m0, m1, m2, m3⟩, n0, n1, n2, n3⟩ := (T3.out.below hSw).cells; obtain ⟨q0, q1, q2, q3⟩ := HC3.out wy (bel_tr B3 hSw); (go_simp <;> with_reducible rfl)
       (try simp only [List.getElem_toArray, List.getElem_cons_zero, List.getElem_cons_succ, Act.put, List.setIfInBounds_toArray, List.set_cons_zero, List.set_cons_succ])
       refine tk 6 ?_ rfl ?_ ?_
       rotate_left
       ·intro wy hSw; (try dsimp only at hSw); obtain ⟨⟨m0, m1, m2, m3⟩, n0, n1, n2, n3⟩ := (T3.out.below hSw).cells; obtain ⟨q0, q1, q2, q3⟩ := HC3.out wy (bel_tr B3 hSw); (go_simp <;> with_reducible rfl)
       (try simp only [List.getElem_toArray, List.getElem_cons_zero, List.getElem_cons_succ, Act.put, List.setIfInBounds_toArray, List.set_cons_zero, List.set_cons_succ])
       refine tk 7 ?_ rfl ?_ ?_
       rotate_left
       ·intro wy hSw; (try dsimp only at hSw); obtain ⟨⟨m0, m1, m2, m3⟩, n0, n1, n2, n3⟩ := (T3.out.below hSw).cells; obtain ⟨q0, q1, q2, q3⟩ := HC3.out wy (bel_tr B3 hSw); (go_simp <;> with_reducible rfl)
       (try simp only [List.getElem_toArray, List.getElem_cons_zero, List.getElem_cons_succ, Act.put, List.setIfInBounds_toArray, List.set_cons_zero, List.set_cons_succ])
       refine wpT_one (k := 8) rfl (by kernel_rfl) (fun K hK => ?_)
       go_simp
       refine (HO2.out _).mono ?_
       rintro r w5 ⟨rfl, hb5⟩
       have h35 := bel_tr (w := w3) (by (repeat (first | exact Below.refl _ _ | assumption | refine bel_al ?_ _ | refine Below.drew ?_ | refine bel_dn ?_ _ | refine bel_set ?_ (Nat.le_refl _) _))) hb5
       have B5 := bel_tr B3 h35
       obtain ⟨⟨m0, m1, m2, m3⟩, n0, n1, n2, n3⟩ := (T3.out.below h35).cells
       obtain ⟨q0, q1, q2, q3⟩ := HC3.out w5 B5
       clear hb5
       refine hK.out _ _ ?_ (fun hHeld => ?_)
       ·exact h35
       clear hK K
       (try simp only [Act.put, List.setIfInBounds_toArray, List.set_cons_zero, List.set_cons_succ])
       refine tk 9 ?_ rfl ?_ ?_
       rotate_left
       ·intro wy hSw; (try dsimp only at hSw); obtain ⟨⟨m0, m1, m2, m3⟩, n0, n1, n2, n3⟩ := (T3.out.below hSw).cells; obtain ⟨q0, q1, q2, q3⟩ := HC3.out wy (bel_tr B3 hSw); (go_simp <;> with_reducible rfl)
       (try simp only [List.getElem_toArray, List.getElem_cons_zero, List.getElem_cons_succ, Act.put, List.setIfInBounds_toArray, List.set_cons_zero, List.set_cons_succ])
       refine tk 10 ?_ rfl ?_ ?_
       rotate_left
       ·intro wy hSw; (try dsimp only at hSw); obtain ⟨⟨m0, m1, m2, m3⟩, n0, n1, n2, n3⟩ := (T3.out.below hSw).cells; obtain ⟨q0, q1, q2, q3⟩ := HC3.out wy (bel_tr B3 hSw); (go_simp <;> with_reducible rfl)
       (try simp only [List.getElem_toArray, List.getElem_cons_zero, List.getElem_cons_succ, Act.put, List.setIfInBounds_toArray, List.set_cons_zero, List.set_cons_succ])
       refine tk 11 ?_ rfl ?_ ?_
       rotate_left
       ·intro wy hSw; (try dsimp only at hSw); obtain ⟨⟨m0, m1, m2, m3⟩, n0, n1, n2, n3⟩ := (T3.out.below hSw).cells; obtain ⟨q0, q1, q2, q3⟩ := HC3.out wy (bel_tr B3 hSw); (go_simp <;> with_reducible rfl)
       (try simp only [List.getElem_toArray, List.getElem_cons_zero, List.getElem_cons_succ, Act.put, List.setIfInBounds_toArray, List.set_cons_zero, List.set_cons_succ])
       refine tk 12 ?_ rfl ?_ ?_
       rotate_left
       ·intro wy hSw; (try dsimp only at hSw); obtain ⟨⟨m0, m1, m2, m3⟩, n0, n1, n2, n3⟩ := (T3.out.below hSw).cells; obtain ⟨q0, q1, q2, q3⟩ := HC3.out wy (bel_tr B3 hSw); (go_simp <;> with_reducible rfl)
       (try simp only [List.getElem_toArray, List.getElem_cons_zero, List.getElem_cons_succ, Act.put, List.setIfInBounds_toArray, List.set_cons_zero, List.set_cons_succ])
       refine wpT_done (by kernel_rfl) ?_
       go_wp2_with (first | (go_at_call 78; refine (HT2.out _).mono ?_; rintro r w6 ⟨rfl, rfl⟩) | (go_at_call 79; refine (HCo.out _ _).mono ?_; rintro r w7 ⟨rfl, rfl⟩))
       refine bodyPost_ret (v := .tuple #[.slice (some ⟨w5.heap.size, 0, none⟩) 1 1, .int .i64 3]) (by simp [results, Tryz.results43, go_sem]) rfl ?_
       exact ⟨_, _, _, _, rfl, by (repeat (first | exact Below.refl _ _ | assumption | refine bel_al ?_ _ | refine Below.drew ?_ | refine bel_dn ?_ _ | refine bel_set ?_ (Nat.le_refl _) _)), by rw [HQ.out]; exact ⟨by simp, BodS.made _ _ _ _ rfl⟩⟩
      ·have ht0 := ht
       rw [ht] at HT2
       rw [show S (tkL 6) = ⟨#[108, 108, 62, 108]⟩ from rfl] at HT2
       have HCo := hid (fun wx n => constOf_any wx 6 (by decide) n)
       rw [show S (tkL 6) = ⟨#[108, 108, 62, 108]⟩ from rfl] at HCo
       have HQ := hid (rm2 h1x hno (two_yes (r := r) hcx hy he2 (by omega) (by rw [ht, hkx]; rfl)))
       rw [ht] at HQ
       generalize twoN z.op x.A y.A = N2 at *
       clear hno heE he hor hcx hx h1x hkx hxA hyo hnt hy hyA hzo he2 ht ht0
       go_wp2_with (first | (go_at_call 77; refine (HO.out _).mono ?_; rintro r w3 ⟨rfl, hb3⟩; have B3 := bel_tr (w := w) (by (repeat (first | exact Below.refl _ _ | assumption | refine bel_al ?_ _ | refine Below.drew ?_ | refine bel_dn ?_ _ | refine bel_set ?_ (Nat.le_refl _) _))) hb3; have T3 := hid (TW.out.below hb3); obtain ⟨⟨m0, m1, m2, m3⟩, n0, n1, n2, n3⟩ := T3.out.cells; clear hb3) | (go_at_call 78; refine (HT.out _).mono ?_; rintro r w4 ⟨rfl, rfl⟩))
       refine wp_region_tail (S := (fun w' => Below w3.heap.size w3 w')) 13 (by kernel_rfl) (by kernel_rfl) ?_ (fun hHeld => ?_)
       ·(repeat (first | exact Below.refl _ _ | assumption | refine bel_al ?_ _ | refine Below.drew ?_ | refine bel_dn ?_ _ | refine bel_set ?_ (Nat.le_refl _) _))
       refine tk 0 ?_ rfl ?_ ?_
       rotate_left
       ·intro wy hSw; (try dsimp only at hSw); obtain ⟨⟨m0, m1, m2, m3⟩, n0, n1, n2, n3⟩ := (T3.out.below hSw).cells; obtain ⟨q0, q1, q2, q3⟩ := HC3.out wy (bel_tr B3 hSw); (go_simp <;> with_reducible rfl)
       (try simp only [List.getElem_toArray, List.getElem_cons_zero, Act.put, List.setIfInBounds_toArray, List.set_cons_zero, List.set_cons_succ])
       refine tk 1 ?_ rfl ?_ ?_
       rotate_left
       ·intro wy hSw; (try dsimp only at hSw); obtain ⟨⟨m0, m1, m2, m3⟩, n0, n1, n2, n3⟩ := (T3.out.below hSw).cells; obtain ⟨q0, q1, q2, q3⟩ := HC3.out wy (bel_tr B3 hSw); (go_simp <;> with_reducible rfl)
       (try simp only [List.getElem_toArray, List.getElem_cons_zero, List.getElem_cons_succ, Act.put, List.setIfInBounds_toArray, List.set_cons_zero, List.set_cons_succ])
       refine tk 2 ?_ rfl ?_ ?_
       rotate_left
       ·intro wy hSw; (try dsimp only at hSw); obtain ⟨⟨m0, m1, m2, m3⟩, n0, n1, n2, n3⟩ := (T3.out.below hSw).cells; obtain ⟨q0, q1, q2, q3⟩ := HC3.out wy (bel_tr B3 hSw); (go_simp <;> with_reducible rfl)
       (try simp only [List.getElem_toArray, List.getElem_cons_zero, List.getElem_cons_succ, Act.put, List.setIfInBounds_toArray, List.set_cons_zero, List.set_cons_succ])
       refine tk 3 ?_ rfl ?_ ?_
       rotate_left
       ·intro wy hSw; (try dsimp only at hSw); obtain ⟨⟨m0, m1, m2, m3⟩, n0, n1, n2, n3⟩ := (T3.out.below hSw).cells; obtain ⟨q0, q1, q2, q3⟩ := HC3.out wy (bel_tr B3 hSw); (go_simp <;> with_reducible rfl)
       (try simp only [List.getElem_toArray, List.getElem_cons_zero, List.getElem_cons_succ, Act.put, List.setIfInBounds_toArray, List.set_cons_zero, List.set_cons_succ])
       refine tk 4 ?_ rfl ?_ ?_
       rotate_left
       ·intro wy hSw; (try dsimp only at hSw); obtain ⟨⟨m0, m1, m2, m3⟩, n0, n1, n2, n3⟩ := (T3.out.below hSw).cells; obtain ⟨q0, q1, q2, q3⟩ := HC3.out wy (bel_tr B3 hSw); (go_simp <;> with_reducible rfl)
       (try simp only [List.getElem_toArray, List.getElem_cons_zero, List.getElem_cons_succ, Act.put, List.setIfInBounds_toArray, List.set_cons_zero, List.set_cons_succ])
       refine tk 5 ?_ rfl ?_ ?_
       rotate_left
       ·intro wy hSw; (try dsimp only at hSw); obtain ⟨⟨m0, m1, m2, m3⟩, n0, n1, n2, n3⟩ := (T3.out.below hSw).cells; obtain ⟨q0, q1, q2, q3⟩ := HC3.out wy (bel_tr B3 hSw); (go_simp <;> with_reducible rfl)
       (try simp only [List.getElem_toArray, List.getElem_cons_zero, List.getElem_cons_succ, Act.put, List.setIfInBounds_toArray, List.set_cons_zero, List.set_cons_succ])
       refine tk 6 ?_ rfl ?_ ?_
       rotate_left
       ·intro wy hSw; (try dsimp only at hSw); obtain ⟨⟨m0, m1, m2, m3⟩, n0, n1, n2, n3⟩ := (T3.out.below hSw).cells; obtain ⟨q0, q1, q2, q3⟩ := HC3.out wy (bel_tr B3 hSw); (go_simp <;> with_reducible rfl)
       (try simp only [List.getElem_toArray, List.getElem_cons_zero, List.getElem_cons_succ, Act.put, List.setIfInBounds_toArray, List.set_cons_zero, List.set_cons_succ])
       refine tk 7 ?_ rfl ?_ ?_
       rotate_left
       ·intro wy hSw; (try dsimp only at hSw); obtain ⟨⟨m0, m1, m2, m3⟩, n0, n1, n2, n3⟩ := (T3.out.below hSw).cells; obtain ⟨q0, q1, q2, q3⟩ := HC3.out wy (bel_tr B3 hSw); (go_simp <;> with_reducible rfl)
       (try simp only [List.getElem_toArray, List.getElem_cons_zero, List.getElem_cons_succ, Act.put, List.setIfInBounds_toArray, List.set_cons_zero, List.set_cons_succ])
       refine wpT_one (k := 8) rfl (by kernel_rfl) (fun K hK => ?_)
       go_simp
       refine (HO2.out _).mono ?_
       rintro r w5 ⟨rfl, hb5⟩
       have h35 := bel_tr (w := w3) (by (repeat (first | exact Below.refl _ _ | assumption | refine bel_al ?_ _ | refine Below.drew ?_ | refine bel_dn ?_ _ | refine bel_set ?_ (Nat.le_refl _) _))) hb5
       have B5 := bel_tr B3 h35
       obtain ⟨⟨m0, m1, m2, m3⟩, n0, n1, n2, n3⟩ := (T3.out.below h35).cells
       obtain ⟨q0, q1, q2, q3⟩ := HC3.out w5 B5
       clear hb5
       refine hK.out _ _ ?_ (fun hHeld => ?_)
       ·exact h35
       clear hK K
       (try simp only [Act.put, List.setIfInBounds_toArray, List.set_cons_zero, List.set_cons_succ])
       refine tk 9 ?_ rfl ?_ ?_
       rotate_left
       ·intro wy hSw; (try dsimp only at hSw); obtain ⟨⟨m0, m1, m2, m3⟩, n0, n1, n2, n3⟩ := (T3.out.below hSw).cells; obtain ⟨q0, q1, q2, q3⟩ := HC3.out wy (bel_tr B3 hSw); (go_simp <;> with_reducible rfl)
       (try simp only [List.getElem_toArray, List.getElem_cons_zero, List.getElem_cons_succ, Act.put, List.setIfInBounds_toArray, List.set_cons_zero, List.set_cons_succ])
       refine tk 10 ?_ rfl ?_ ?_
       rotate_left
       ·intro wy hSw; (try dsimp only at hSw); obtain ⟨⟨m0, m1, m2, m3⟩, n0, n1, n2, n3⟩ := (T3.out.below hSw).cells; obtain ⟨q0, q1, q2, q3⟩ := HC3.out wy (bel_tr B3 hSw); (go_simp <;> with_reducible rfl)
       (try simp only [List.getElem_toArray, List.getElem_cons_zero, List.getElem_cons_succ, Act.put, List.setIfInBounds_toArray, List.set_cons_zero, List.set_cons_succ])
       refine tk 11 ?_ rfl ?_ ?_
       rotate_left
       ·intro wy hSw; (try dsimp only at hSw); obtain ⟨⟨m0, m1, m2, m3⟩, n0, n1, n2, n3⟩ := (T3.out.below hSw).cells; obtain ⟨q0, q1, q2, q3⟩ := HC3.out wy (bel_tr B3 hSw); (go_simp <;> with_reducible rfl)
       (try simp only [List.getElem_toArray, List.getElem_cons_zero, List.getElem_cons_succ, Act.put, List.setIfInBounds_toArray, List.set_cons_zero, List.set_cons_succ])
       refine tk 12 ?_ rfl ?_ ?_
       rotate_left
       ·intro wy hSw; (try dsimp only at hSw); obtain ⟨⟨m0, m1, m2, m3⟩, n0, n1, n2, n3⟩ := (T3.out.below hSw).cells; obtain ⟨q0, q1, q2, q3⟩ := HC3.out wy (bel_tr B3 hSw); (go_simp <;> with_reducible rfl)
       (try simp only [List.getElem_toArray, List.getElem_cons_zero, List.getElem_cons_succ, Act.put, List.setIfInBounds_toArray, List.set_cons_zero, List.set_cons_succ])
       refine wpT_done (by kernel_rfl) ?_
       go_wp2_with (first | (go_at_call 78; refine (HT2.out _).mono ?_; rintro r w6 ⟨rfl, rfl⟩) | (go_at_call 79; refine (HCo.out _ _).mono ?_; rintro r w7 ⟨rfl, rfl⟩))
       refine bodyPost_ret (v := .tuple #[.slice (some ⟨w5.heap.size, 0, none⟩) 1 1, .int .i64 3]) (by simp [results, Tryz.results43, go_sem]) rfl ?_
       exact ⟨_, _, _, _, rfl, by (repeat (first | exact Below.refl _ _ | assumption | refine bel_al ?_ _ | refine Below.drew ?_ | refine bel_dn ?_ _ | refine bel_set ?_ (Nat.le_refl _) _)), by rw [HQ.out]; exact ⟨by simp, BodS.made _ _ _ _ rfl⟩⟩
     ·have h2n := two_no (x := x) (y := y) (z := z) (r := r) (fun h => he2 h.2.2.1)
      have HQ := hid (rm3 h1x hno h2n)
      have hE2 : ((twoE z.op x.A y.A : Int) == 0) = false := by simp [he2]
      generalize twoE z.op x.A y.A = E2 at *
      generalize twoN z.op x.A y.A = N2 at *
      generalize tkL (tT z.op) = s2 at *
      clear h2n
      clear hno heE he hor hcx hx h1x hkx hxA hyo hnt hy hyA hzo he2
      go_wp2_with (first | (go_at_call 77; refine (HO.out _).mono ?_; rintro r w3 ⟨rfl, hb3⟩; have B3 := bel_tr (w := w) (by (repeat (first | exact Below.refl _ _ | assumption | refine bel_al ?_ _ | refine Below.drew ?_ | refine bel_dn ?_ _ | refine bel_set ?_ (Nat.le_refl _) _))) hb3; have T3 := hid (TW.out.below hb3); obtain ⟨⟨m0, m1, m2, m3⟩, n0, n1, n2, n3⟩ := T3.out.cells; clear hb3) | (go_at_call 78; refine (HT.out _).mono ?_; rintro r w4 ⟨rfl, rfl⟩))
      refine wp_region_tail (S := (fun w' => Below w3.heap.size w3 w')) 13 (by kernel_rfl) (by kernel_rfl) ?_ (fun hHeld => ?_)
      ·(repeat (first | exact Below.refl _ _ | assumption | refine bel_al ?_ _ | refine Below.drew ?_ | refine bel_dn ?_ _ | refine bel_set ?_ (Nat.le_refl _) _))
      refine tk 0 ?_ rfl ?_ ?_
      rotate_left
      ·intro wy hSw; (try dsimp only at hSw); obtain ⟨⟨m0, m1, m2, m3⟩, n0, n1, n2, n3⟩ := (T3.out.below hSw).cells; obtain ⟨q0, q1, q2, q3⟩ := HC3.out wy (bel_tr B3 hSw); (go_simp <;> with_reducible rfl)
      (try simp only [List.getElem_toArray, List.getElem_cons_zero, Act.put, List.setIfInBounds_toArray, List.set_cons_zero, List.set_cons_succ])
      refine tk 1 ?_ rfl ?_ ?_
      rotate_left
      ·intro wy hSw; (try dsimp only at hSw); obtain ⟨⟨m0, m1, m2, m3⟩, n0, n1, n2, n3⟩ := (T3.out.below hSw).cells; obtain ⟨q0, q1, q2, q3⟩ := HC3.out wy (bel_tr B3 hSw); (go_simp <;> with_reducible rfl)
      (try simp only [List.getElem_toArray, List.getElem_cons_zero, List.getElem_cons_succ, Act.put, List.setIfInBounds_toArray, List.set_cons_zero, List.set_cons_succ])
      refine tk 2 ?_ rfl ?_ ?_
      rotate_left
      ·intro wy hSw; (try dsimp only at hSw); obtain ⟨⟨m0, m1, m2, m3⟩, n0, n1, n2, n3⟩ := (T3.out.below hSw).cells; obtain ⟨q0, q1, q2, q3⟩ := HC3.out wy (bel_tr B3 hSw); (go_simp <;> with_reducible rfl)
      (try simp only [List.getElem_toArray, List.getElem_cons_zero, List.getElem_cons_succ, Act.put, List.setIfInBounds_toArray, List.set_cons_zero, List.set_cons_succ])
      refine tk 3 ?_ rfl ?_ ?_
      rotate_left
      ·intro wy hSw; (try dsimp only at hSw); obtain ⟨⟨m0, m1, m2, m3⟩, n0, n1, n2, n3⟩ := (T3.out.below hSw).cells; obtain ⟨q0, q1, q2, q3⟩ := HC3.out wy (bel_tr B3 hSw); (go_simp <;> with_reducible rfl)
      (try simp only [List.getElem_toArray, List.getElem_cons_zero, List.getElem_cons_succ, Act.put, List.setIfInBounds_toArray, List.set_cons_zero, List.set_cons_succ])
      refine tk 4 ?_ rfl ?_ ?_
      rotate_left
      ·intro wy hSw; (try dsimp only at hSw); obtain ⟨⟨m0, m1, m2, m3⟩, n0, n1, n2, n3⟩ := (T3.out.below hSw).cells; obtain ⟨q0, q1, q2, q3⟩ := HC3.out wy (bel_tr B3 hSw); (go_simp <;> with_reducible rfl)
      (try simp only [List.getElem_toArray, List.getElem_cons_zero, List.getElem_cons_succ, Act.put, List.setIfInBounds_toArray, List.set_cons_zero, List.set_cons_succ])
      refine tk 5 ?_ rfl ?_ ?_
      rotate_left
      ·intro wy hSw; (try dsimp only at hSw); obtain ⟨⟨m0, m1, m2, m3⟩, n0, n1, n2, n3⟩ := (T3.out.below hSw).cells; obtain ⟨q0, q1, q2, q3⟩ := HC3.out wy (bel_tr B3 hSw); (go_simp <;> with_reducible rfl)
      (try simp only [List.getElem_toArray, List.getElem_cons_zero, List.getElem_cons_succ, Act.put, List.setIfInBounds_toArray, List.set_cons_zero, List.set_cons_succ])
      refine tk 6 ?_ rfl ?_ ?_
      rotate_left
      ·intro wy hSw; (try dsimp only at hSw); obtain ⟨⟨m0, m1, m2, m3⟩, n0, n1, n2, n3⟩ := (T3.out.below hSw).cells; obtain ⟨q0, q1, q2, q3⟩ := HC3.out wy (bel_tr B3 hSw); (go_simp <;> with_reducible rfl)
      (try simp only [List.getElem_toArray, List.getElem_cons_zero, List.getElem_cons_succ, Act.put, List.setIfInBounds_toArray, List.set_cons_zero, List.set_cons_succ])
      refine tk 7 ?_ rfl ?_ ?_
      rotate_left
      ·intro wy hSw; (try dsimp only at hSw); obtain ⟨⟨m0, m1, m2, m3⟩, n0, n1, n2, n3⟩ := (T3.out.below hSw).cells; obtain ⟨q0, q1, q2, q3⟩ := HC3.out wy (bel_tr B3 hSw); (go_simp <;> with_reducible rfl)
      (try simp only [List.getElem_toArray, List.getElem_cons_zero, List.getElem_cons_succ, Act.put, List.setIfInBounds_toArray, List.set_cons_zero, List.set_cons_succ])
      refine wpT_one (k := 8) rfl (by kernel_rfl) (fun K hK => ?_)
      go_simp
      refine (HO2.out _).mono ?_
      rintro r w5 ⟨rfl, hb5⟩
      have h35 := bel_tr (w := w3) (by (repeat (first | exact Below.refl _ _ | assumption | refine bel_al ?_ _ | refine Below.drew ?_ | refine bel_dn ?_ _ | refine bel_set ?_ (Nat.le_refl _) _))) hb5
      have B5 := bel_tr B3 h35
      obtain ⟨⟨m0, m1, m2, m3⟩, n0, n1, n2, n3⟩ := (T3.out.below h35).cells
      obtain ⟨q0, q1, q2, q3⟩ := HC3.out w5 B5
      clear hb5
      refine hK.out _ _ ?_ (fun hHeld => ?_)
      ·exact h35
      clear hK K
      (try simp only [Act.put, List.setIfInBounds_toArray, List.set_cons_zero, List.set_cons_succ])
      refine tk 9 ?_ rfl ?_ ?_
      rotate_left
      ·intro wy hSw; (try dsimp only at hSw); obtain ⟨⟨m0, m1, m2, m3⟩, n0, n1, n2, n3⟩ := (T3.out.below hSw).cells; obtain ⟨q0, q1, q2, q3⟩ := HC3.out wy (bel_tr B3 hSw); (go_simp <;> with_reducible rfl)
      (try simp only [List.getElem_toArray, List.getElem_cons_zero, List.getElem_cons_succ, Act.put, List.setIfInBounds_toArray, List.set_cons_zero, List.set_cons_succ])
      refine tk 10 ?_ rfl ?_ ?_
      rotate_left
      ·intro wy hSw; (try dsimp only at hSw); obtain ⟨⟨m0, m1, m2, m3⟩, n0, n1, n2, n3⟩ := (T3.out.below hSw).cells; obtain ⟨q0, q1, q2, q3⟩ := HC3.out wy (bel_tr B3 hSw); (go_simp <;> with_reducible rfl)
      (try simp only [List.getElem_toArray, List.getElem_cons_zero, List.getElem_cons_succ, Act.put, List.setIfInBounds_toArray, List.set_cons_zero, List.set_cons_succ])
      refine tk 11 ?_ rfl ?_ ?_
      rotate_left
      ·intro wy hSw; (try dsimp only at hSw); obtain ⟨⟨m0, m1, m2, m3⟩, n0, n1, n2, n3⟩ := (T3.out.below hSw).cells; obtain ⟨q0, q1, q2, q3⟩ := HC3.out wy (bel_tr B3 hSw); (go_simp <;> with_reducible rfl)
      (try simp only [List.getElem_toArray, List.getElem_cons_zero, List.getElem_cons_succ, Act.put, List.setIfInBounds_toArray, List.set_cons_zero, List.set_cons_succ])
      refine tk 12 ?_ rfl ?_ ?_
      rotate_left
      ·intro wy hSw; (try dsimp only at hSw); obtain ⟨⟨m0, m1, m2, m3⟩, n0, n1, n2, n3⟩ := (T3.out.below hSw).cells; obtain ⟨q0, q1, q2, q3⟩ := HC3.out wy (bel_tr B3 hSw); (go_simp <;> with_reducible rfl)
      (try simp only [List.getElem_toArray, List.getElem_cons_zero, List.getElem_cons_succ, Act.put, List.setIfInBounds_toArray, List.set_cons_zero, List.set_cons_succ])
      refine wpT_done (by kernel_rfl) ?_
      go_wp2_with (go_at_call 78; refine (HT2.out _).mono ?_; rintro r w6 ⟨rfl, rfl⟩)
      go_meet
      exact ⟨hid (by (repeat (first | exact Below.refl _ _ | assumption | refine bel_al ?_ _ | refine Below.drew ?_ | refine bel_dn ?_ _ | refine bel_set ?_ (Nat.le_refl _) _))), hid (T3.out.below h35), hid (HQ.out)⟩
    ·have eyx : ((y.op : Int) == (x.op : Int)) = false := opF hy
     have HQ := hid (rm3 h1x hno (two_no (fun h => hy h.2.1)))
     clear hno heE he hor hcx hx h1x hkx hxA hyo hnt hy
     go_wp2_with (first | (go_at_call 77; refine (HO.out _).mono ?_; rintro r w3 ⟨rfl, hb3⟩; have B3 := bel_tr (w := w) (by (repeat (first | exact Below.refl _ _ | assumption | refine bel_al ?_ _ | refine Below.drew ?_ | refine bel_dn ?_ _ | refine bel_set ?_ (Nat.le_refl _) _))) hb3; have T3 := hid (TW.out.below hb3); obtain ⟨⟨m0, m1, m2, m3⟩, n0, n1, n2, n3⟩ := T3.out.cells; clear hb3) | (go_at_call 78; refine (HT.out _).mono ?_; rintro r w4 ⟨rfl, rfl⟩))
     go_meet
     exact ⟨hid (by (repeat (first | exact Below.refl _ _ | assumption | refine bel_al ?_ _ | refine Below.drew ?_ | refine bel_dn ?_ _ | refine bel_set ?_ (Nat.le_refl _) _))), hid (T3.out), hid (HQ.out)⟩
 case rest =>
  obtain ⟨BL, TL, HQ0⟩ := hcut
  obtain ⟨⟨m0, m1, m2, m3⟩, n0, n1, n2, n3⟩ := TL.out.cells
  clear HO HT TW hxA hyo hcx hkx h1x
  have bl := BL.out
  have hx := HHX.out
  by_cases h26 : y.op = 26
  ·have y26 : ((y.op : Int) == 26) = true := opT (show y.op = 26 by omega)
   have HQ := hid (HQ0.out.trans (rc_unused (by omega)))
   clear hx h26
   go_wp2_with fail
   refine bodyPost_ret (v := .tuple #[.slice none 0 0, .int .i64 2]) (by simp [results, Tryz.results43, go_sem]) rfl ?_
   exact ⟨_, _, _, _, rfl, by (repeat (first | exact Below.refl _ _ | assumption | refine bel_al ?_ _ | refine Below.drew ?_ | refine bel_dn ?_ _ | refine bel_set ?_ (Nat.le_refl _) _)), by rw [HQ.out]; exact ⟨by simp, BodS.nil _⟩⟩
  ·have y26 : ((y.op : Int) == 26) = false := opF (show ¬ y.op = 26 by omega)
   have HQ := hid (HQ0.out.trans (rc_later (by omega) (by omega) (by omega) (by omega)))
   have hfit2 := HFIT.out
   rw [run_flat (flatI (by omega))] at hfit2
   have HLT := hid (fun (wx : World) (hb : Below w.heap.size w wx) => later_any wx _ x y t k st (fun _ _ => hfit2) (HH.out.bod.below hb) HH.out.le)
   clear hfit2 hx h26
   go_wp2_with (go_at_call 82; refine (HLT.out _ (by (repeat (first | exact Below.refl _ _ | assumption | refine bel_al ?_ _ | refine Below.drew ?_ | refine bel_dn ?_ _ | refine bel_set ?_ (Nat.le_refl _) _)))).mono ?_; rintro r w4 ⟨ao, m, c, N, rfl, hb4, hp4⟩; have B4 := bel_tr (w := w) (by (repeat (first | exact Below.refl _ _ | assumption | refine bel_al ?_ _ | refine Below.drew ?_ | refine bel_dn ?_ _ | refine bel_set ?_ (Nat.le_refl _) _))) hb4; have HP4 := hid hp4; clear hb4 hp4)
   refine bodyPost_ret (v := .tuple #[.slice ao m c, .int .i64 N]) (by simp [results, Tryz.results43, go_sem]) rfl ?_
   exact ⟨_, _, _, _, rfl, B4, by rw [HQ.out]; exact HP4.out⟩
end Go.Proofs.YtakfineljffoaaaGreatDoor
