/-
  FOLDED BODIES: the reference's instead where the first instruction is no constant. No condition.
-/
import Derived.Test.YtakfineljffoaaaGreatDoorGFoldSays34
import Derived.Test.YtakfineljffoaaaGreatDoorGFoldSays35
namespace Go.Proofs.YtakfineljffoaaaGreatDoor
open Go.RowKit Go.Lib


set_option maxRecDepth 100000 in
set_option maxHeartbeats 16000000 in
theorem instead_nop (w : World) (v : Value) (x : It) (t : List It) (h : IPre w v x t) (hx : x.op = 1) : IPost w v x t := by
  unfold IPost
  obtain ⟨b, off, n, cap, rfl, hn, hc1, hc2, u, hcell⟩ := h.bod.one
  have hix := h.bod.tos 0 (by simp) (u := u) (by simpa using (hcell _ (Below.refl _ _)).2.2.2)
  simp only [List.getElem_cons_zero] at hix
  obtain ⟨au, cu, rfl⟩ := hix.sl
  have e1 : ((x.op : Int) == 1) = true := opT (show x.op = 1 by omega)
  have HQ := hid (rm0 (t := t) hx)
  have HC := hid hcell
  have hp : 0 < n := by omega
  have hq : (0 : Int) < (n : Int) := by omega
  clear hcell hn h hix hx
  obtain ⟨c0, c1, c2, c3⟩ := HC.out _ (Below.refl _ _)
  go_enter Tryz.func43, Tryz.ntmps43
  go_wp2_with fail
  refine bodyPost_ret (v := .tuple #[.slice none 0 0, .int .i64 1]) (by simp [results, Tryz.results43, go_sem]) rfl ?_
  exact ⟨_, _, _, _, rfl, by (repeat (first | exact Below.refl _ _ | assumption | refine bel_al ?_ _ | refine Below.drew ?_ | refine bel_dn ?_ _ | refine bel_set ?_ (Nat.le_refl _) _)), by rw [HQ.out]; exact ⟨by simp, BodS.nil _⟩⟩

set_option maxRecDepth 100000 in
set_option maxHeartbeats 16000000 in
theorem instead_end (w : World) (v : Value) (x : It) (h : IPre w v x []) (hx : ¬ x.op = 1) : IPost w v x [] := by
  unfold IPost
  obtain ⟨b, off, n, cap, rfl, hn, hc1, hc2, u, hcell⟩ := h.bod.one
  have hix := h.bod.tos 0 (by simp) (u := u) (by simpa using (hcell _ (Below.refl _ _)).2.2.2)
  simp only [List.getElem_cons_zero] at hix
  obtain ⟨au, cu, rfl⟩ := hix.sl
  have e1 : ((x.op : Int) == 1) = false := opF (show ¬ x.op = 1 by omega)
  have HQ := hid (rmE hx)
  have HC := hid hcell
  have hn1 : n = 1 := by rw [hn]; rfl
  subst hn1
  clear hcell hn h hix hx
  obtain ⟨c0, c1, c2, c3⟩ := HC.out _ (Below.refl _ _)
  go_enter Tryz.func43, Tryz.ntmps43
  go_wp2_with fail
  refine bodyPost_ret (v := .tuple #[.slice none 0 0, .int .i64 0]) (by simp [results, Tryz.results43, go_sem]) rfl ?_
  exact ⟨_, _, _, _, rfl, by (repeat (first | exact Below.refl _ _ | assumption | refine bel_al ?_ _ | refine Below.drew ?_ | refine bel_dn ?_ _ | refine bel_set ?_ (Nat.le_refl _) _)), by rw [HQ.out]⟩

set_option maxRecDepth 100000 in
set_option maxHeartbeats 16000000 in
theorem instead_none (w : World) (v : Value) (x y : It) (t : List It) (h : IPre w v x (y :: t)) (hx : ¬ (x.op = 1 ∨ x.op = 65 ∨ x.op = 66 ∨ x.op = 32 ∨ x.op = 35 ∨ x.op = 0 ∨ x.op = 12 ∨ x.op = 14 ∨ x.op = 15 ∨ x.op = 33)) : IPost w v x (y :: t) := by
  unfold IPost
  obtain ⟨b, off, n, cap, rfl, hn, hc1, hc2, u, hcell⟩ := h.bod.one
  have hix := h.bod.tos 0 (by simp) (u := u) (by simpa using (hcell _ (Below.refl _ _)).2.2.2)
  simp only [List.getElem_cons_zero] at hix
  obtain ⟨au, cu, rfl⟩ := hix.sl
  obtain ⟨u2, hcell2⟩ := h.bod.second
  have hiy := h.bod.tos 1 (by simp) (u := u2) (by simpa using (hcell2 _ (Below.refl _ _)).2.2.2)
  simp only [List.getElem_cons_succ, List.getElem_cons_zero] at hiy
  obtain ⟨au2, cu2, rfl⟩ := hiy.sl
  have e1 : ((x.op : Int) == 1) = false := opF (show ¬ x.op = 1 by omega)
  have e65 : ((x.op : Int) == 65) = false := opF (show ¬ x.op = 65 by omega)
  have e66 : ((x.op : Int) == 66) = false := opF (show ¬ x.op = 66 by omega)
  have e32 : ((x.op : Int) == 32) = false := opF (show ¬ x.op = 32 by omega)
  have e35 : ((x.op : Int) == 35) = false := opF (show ¬ x.op = 35 by omega)
  have e0 : ((x.op : Int) == 0) = false := opF (show ¬ x.op = 0 by omega)
  have e12 : ((x.op : Int) == 12) = false := opF (show ¬ x.op = 12 by omega)
  have e14 : ((x.op : Int) == 14) = false := opF (show ¬ x.op = 14 by omega)
  have e15 : ((x.op : Int) == 15) = false := opF (show ¬ x.op = 15 by omega)
  have e33 : ((x.op : Int) == 33) = false := opF (show ¬ x.op = 33 by omega)
  have hq0 := rm3 (x := x) (y := y) (r := t) (by omega) (one_no (fun h => by omega)) (by cases t with | nil => rfl | cons z t => exact two_no (fun h => by omega))
  have HC := hid (fun wx hb => show _ ∧ _ from ⟨hcell wx hb, hcell2 wx hb⟩)
  have hp : 0 < n := by omega
  have hp1 : 1 < n := by rw [hn]; simp
  have hq : (0 : Int) < (n : Int) := by omega
  have hq1 : (1 : Int) < (n : Int) := by omega
  have hn1 : ((n : Int) == 1) = false := by simp; omega
  have HH := hid h
  obtain ⟨k, st, hfit⟩ := h.fit
  have HIX := hid hix
  obtain ⟨⟨c0, c1, c2, c3⟩, d0, d1, d2, d3⟩ := HC.out _ (Below.refl _ _)
  have a4 := fun o => cell_alloc o d0
  have a5 := fun o => cell_alloc o d1
  have a6 := fun o => cell_alloc o d2
  have a7 := fun o => cell_alloc o d3
  have hn200 := h.le
  clear hcell hcell2 h hiy hix hn HC
  by_cases hy : y.op = 26
  · have y26 : ((y.op : Int) == 26) = true := opT (show y.op = 26 by omega)
    have HQ := hid (hq0.trans (rc_later (by omega) (by omega) (by omega) (by omega)))
    have HLT := hid (fun (wx : World) (hb : Below w.heap.size w wx) => later_any wx _ x y t k st (fun h1 h2 => by omega) (HH.out.bod.below hb) HH.out.le)
    clear HIX hfit hn200 hq0
    clear HH hx hy
    go_enter Tryz.func43, Tryz.ntmps43
    go_wp2_with (go_at_call 82; refine (HLT.out _ (by (repeat (first | exact Below.refl _ _ | assumption | refine bel_al ?_ _ | refine Below.drew ?_ | refine bel_dn ?_ _ | refine bel_set ?_ (Nat.le_refl _) _)))).mono ?_; rintro r w4 ⟨ao, m, c, N, rfl, hb4, hp4⟩; have B4 := bel_tr (w := w) (by (repeat (first | exact Below.refl _ _ | assumption | refine bel_al ?_ _ | refine Below.drew ?_ | refine bel_dn ?_ _ | refine bel_set ?_ (Nat.le_refl _) _))) hb4; have HP4 := hid hp4; clear hb4 hp4)
    refine bodyPost_ret (v := .tuple #[.slice ao m c, .int .i64 N]) (by simp [results, Tryz.results43, go_sem]) rfl ?_
    exact ⟨_, _, _, _, rfl, B4, by rw [HQ.out]; exact HP4.out⟩
  · have y26 : ((y.op : Int) == 26) = false := opF (show ¬ y.op = 26 by omega)
    have HQ := hid (hq0.trans (rc_later (by omega) (by omega) (by omega) (by omega)))
    have HLT := hid (fun (wx : World) (hb : Below w.heap.size w wx) => later_any wx _ x y t k st (fun h1 h2 => by omega) (HH.out.bod.below hb) HH.out.le)
    clear HIX hfit hn200 hq0
    clear HH hx hy
    go_enter Tryz.func43, Tryz.ntmps43
    go_wp2_with (go_at_call 82; refine (HLT.out _ (by (repeat (first | exact Below.refl _ _ | assumption | refine bel_al ?_ _ | refine Below.drew ?_ | refine bel_dn ?_ _ | refine bel_set ?_ (Nat.le_refl _) _)))).mono ?_; rintro r w4 ⟨ao, m, c, N, rfl, hb4, hp4⟩; have B4 := bel_tr (w := w) (by (repeat (first | exact Below.refl _ _ | assumption | refine bel_al ?_ _ | refine Below.drew ?_ | refine bel_dn ?_ _ | refine bel_set ?_ (Nat.le_refl _) _))) hb4; have HP4 := hid hp4; clear hb4 hp4)
    refine bodyPost_ret (v := .tuple #[.slice ao m c, .int .i64 N]) (by simp [results, Tryz.results43, go_sem]) rfl ?_
    exact ⟨_, _, _, _, rfl, B4, by rw [HQ.out]; exact HP4.out⟩

set_option maxRecDepth 100000 in
set_option maxHeartbeats 16000000 in
theorem instead_32 (w : World) (v : Value) (x y : It) (t : List It) (h : IPre w v x (y :: t)) (hx : x.op = 32) : IPost w v x (y :: t) := by
  unfold IPost
  obtain ⟨b, off, n, cap, rfl, hn, hc1, hc2, u, hcell⟩ := h.bod.one
  have hix := h.bod.tos 0 (by simp) (u := u) (by simpa using (hcell _ (Below.refl _ _)).2.2.2)
  simp only [List.getElem_cons_zero] at hix
  obtain ⟨au, cu, rfl⟩ := hix.sl
  obtain ⟨u2, hcell2⟩ := h.bod.second
  have hiy := h.bod.tos 1 (by simp) (u := u2) (by simpa using (hcell2 _ (Below.refl _ _)).2.2.2)
  simp only [List.getElem_cons_succ, List.getElem_cons_zero] at hiy
  obtain ⟨au2, cu2, rfl⟩ := hiy.sl
  have e1 : ((x.op : Int) == 1) = false := opF (show ¬ x.op = 1 by omega)
  have e65 : ((x.op : Int) == 65) = false := opF (show ¬ x.op = 65 by omega)
  have e66 : ((x.op : Int) == 66) = false := opF (show ¬ x.op = 66 by omega)
  have e32 : ((x.op : Int) == 32) = true := opT (show x.op = 32 by omega)
  have e35 : ((x.op : Int) == 35) = false := opF (show ¬ x.op = 35 by omega)
  have e0 : ((x.op : Int) == 0) = false := opF (show ¬ x.op = 0 by omega)
  have e12 : ((x.op : Int) == 12) = false := opF (show ¬ x.op = 12 by omega)
  have e14 : ((x.op : Int) == 14) = false := opF (show ¬ x.op = 14 by omega)
  have e15 : ((x.op : Int) == 15) = false := opF (show ¬ x.op = 15 by omega)
  have e33 : ((x.op : Int) == 33) = false := opF (show ¬ x.op = 33 by omega)
  have hq0 := rm3 (x := x) (y := y) (r := t) (by omega) (one_no (fun h => by omega)) (by cases t with | nil => rfl | cons z t => exact two_no (fun h => by omega))
  have HC := hid (fun wx hb => show _ ∧ _ from ⟨hcell wx hb, hcell2 wx hb⟩)
  have hp : 0 < n := by omega
  have hp1 : 1 < n := by rw [hn]; simp
  have hq : (0 : Int) < (n : Int) := by omega
  have hq1 : (1 : Int) < (n : Int) := by omega
  have hn1 : ((n : Int) == 1) = false := by simp; omega
  have HH := hid h
  obtain ⟨k, st, hfit⟩ := h.fit
  have HIX := hid hix
  obtain ⟨⟨c0, c1, c2, c3⟩, d0, d1, d2, d3⟩ := HC.out _ (Below.refl _ _)
  have a4 := fun o => cell_alloc o d0
  have a5 := fun o => cell_alloc o d1
  have a6 := fun o => cell_alloc o d2
  have a7 := fun o => cell_alloc o d3
  have hn200 := h.le
  clear hcell hcell2 h hiy hix hn HC
  by_cases hy : y.op = 26
  · have y26 : ((y.op : Int) == 26) = true := opT (show y.op = 26 by omega)
    have HQ := hid (hq0.trans (rc_unused (by omega)))
    clear HIX hfit hn200 hq0
    clear HH hx hy
    go_enter Tryz.func43, Tryz.ntmps43
    go_wp2_with fail
    refine bodyPost_ret (v := .tuple #[.slice none 0 0, .int .i64 2]) (by simp [results, Tryz.results43, go_sem]) rfl ?_
    exact ⟨_, _, _, _, rfl, by (repeat (first | exact Below.refl _ _ | assumption | refine bel_al ?_ _ | refine Below.drew ?_ | refine bel_dn ?_ _ | refine bel_set ?_ (Nat.le_refl _) _)), by rw [HQ.out]; exact ⟨by simp, BodS.nil _⟩⟩
  · have y26 : ((y.op : Int) == 26) = false := opF (show ¬ y.op = 26 by omega)
    have HQ := hid (hq0.trans (rc_later (by omega) (by omega) (by omega) (by omega)))
    have HLT := hid (fun (wx : World) (hb : Below w.heap.size w wx) => later_any wx _ x y t k st (fun h1 h2 => by omega) (HH.out.bod.below hb) HH.out.le)
    clear HIX hfit hn200 hq0
    clear HH hx hy
    go_enter Tryz.func43, Tryz.ntmps43
    go_wp2_with (go_at_call 82; refine (HLT.out _ (by (repeat (first | exact Below.refl _ _ | assumption | refine bel_al ?_ _ | refine Below.drew ?_ | refine bel_dn ?_ _ | refine bel_set ?_ (Nat.le_refl _) _)))).mono ?_; rintro r w4 ⟨ao, m, c, N, rfl, hb4, hp4⟩; have B4 := bel_tr (w := w) (by (repeat (first | exact Below.refl _ _ | assumption | refine bel_al ?_ _ | refine Below.drew ?_ | refine bel_dn ?_ _ | refine bel_set ?_ (Nat.le_refl _) _))) hb4; have HP4 := hid hp4; clear hb4 hp4)
    refine bodyPost_ret (v := .tuple #[.slice ao m c, .int .i64 N]) (by simp [results, Tryz.results43, go_sem]) rfl ?_
    exact ⟨_, _, _, _, rfl, B4, by rw [HQ.out]; exact HP4.out⟩

set_option maxRecDepth 100000 in
set_option maxHeartbeats 16000000 in
theorem instead_35 (w : World) (v : Value) (x y : It) (t : List It) (h : IPre w v x (y :: t)) (hx : x.op = 35) : IPost w v x (y :: t) := by
  unfold IPost
  obtain ⟨b, off, n, cap, rfl, hn, hc1, hc2, u, hcell⟩ := h.bod.one
  have hix := h.bod.tos 0 (by simp) (u := u) (by simpa using (hcell _ (Below.refl _ _)).2.2.2)
  simp only [List.getElem_cons_zero] at hix
  obtain ⟨au, cu, rfl⟩ := hix.sl
  obtain ⟨u2, hcell2⟩ := h.bod.second
  have hiy := h.bod.tos 1 (by simp) (u := u2) (by simpa using (hcell2 _ (Below.refl _ _)).2.2.2)
  simp only [List.getElem_cons_succ, List.getElem_cons_zero] at hiy
  obtain ⟨au2, cu2, rfl⟩ := hiy.sl
  have e1 : ((x.op : Int) == 1) = false := opF (show ¬ x.op = 1 by omega)
  have e65 : ((x.op : Int) == 65) = false := opF (show ¬ x.op = 65 by omega)
  have e66 : ((x.op : Int) == 66) = false := opF (show ¬ x.op = 66 by omega)
  have e32 : ((x.op : Int) == 32) = false := opF (show ¬ x.op = 32 by omega)
  have e35 : ((x.op : Int) == 35) = true := opT (show x.op = 35 by omega)
  have e0 : ((x.op : Int) == 0) = false := opF (show ¬ x.op = 0 by omega)
  have e12 : ((x.op : Int) == 12) = false := opF (show ¬ x.op = 12 by omega)
  have e14 : ((x.op : Int) == 14) = false := opF (show ¬ x.op = 14 by omega)
  have e15 : ((x.op : Int) == 15) = false := opF (show ¬ x.op = 15 by omega)
  have e33 : ((x.op : Int) == 33) = false := opF (show ¬ x.op = 33 by omega)
  have hq0 := rm3 (x := x) (y := y) (r := t) (by omega) (one_no (fun h => by omega)) (by cases t with | nil => rfl | cons z t => exact two_no (fun h => by omega))
  have HC := hid (fun wx hb => show _ ∧ _ from ⟨hcell wx hb, hcell2 wx hb⟩)
  have hp : 0 < n := by omega
  have hp1 : 1 < n := by rw [hn]; simp
  have hq : (0 : Int) < (n : Int) := by omega
  have hq1 : (1 : Int) < (n : Int) := by omega
  have hn1 : ((n : Int) == 1) = false := by simp; omega
  have HH := hid h
  obtain ⟨k, st, hfit⟩ := h.fit
  have HIX := hid hix
  obtain ⟨⟨c0, c1, c2, c3⟩, d0, d1, d2, d3⟩ := HC.out _ (Below.refl _ _)
  have a4 := fun o => cell_alloc o d0
  have a5 := fun o => cell_alloc o d1
  have a6 := fun o => cell_alloc o d2
  have a7 := fun o => cell_alloc o d3
  have hn200 := h.le
  clear hcell hcell2 h hiy hix hn HC
  by_cases hy : y.op = 26
  · have y26 : ((y.op : Int) == 26) = true := opT (show y.op = 26 by omega)
    have HQ := hid (hq0.trans (rc_unused (by omega)))
    clear HIX hfit hn200 hq0
    clear HH hx hy
    go_enter Tryz.func43, Tryz.ntmps43
    go_wp2_with fail
    refine bodyPost_ret (v := .tuple #[.slice none 0 0, .int .i64 2]) (by simp [results, Tryz.results43, go_sem]) rfl ?_
    exact ⟨_, _, _, _, rfl, by (repeat (first | exact Below.refl _ _ | assumption | refine bel_al ?_ _ | refine Below.drew ?_ | refine bel_dn ?_ _ | refine bel_set ?_ (Nat.le_refl _) _)), by rw [HQ.out]; exact ⟨by simp, BodS.nil _⟩⟩
  · have y26 : ((y.op : Int) == 26) = false := opF (show ¬ y.op = 26 by omega)
    have HQ := hid (hq0.trans (rc_later (by omega) (by omega) (by omega) (by omega)))
    have HLT := hid (fun (wx : World) (hb : Below w.heap.size w wx) => later_any wx _ x y t k st (fun h1 h2 => by omega) (HH.out.bod.below hb) HH.out.le)
    clear HIX hfit hn200 hq0
    clear HH hx hy
    go_enter Tryz.func43, Tryz.ntmps43
    go_wp2_with (go_at_call 82; refine (HLT.out _ (by (repeat (first | exact Below.refl _ _ | assumption | refine bel_al ?_ _ | refine Below.drew ?_ | refine bel_dn ?_ _ | refine bel_set ?_ (Nat.le_refl _) _)))).mono ?_; rintro r w4 ⟨ao, m, c, N, rfl, hb4, hp4⟩; have B4 := bel_tr (w := w) (by (repeat (first | exact Below.refl _ _ | assumption | refine bel_al ?_ _ | refine Below.drew ?_ | refine bel_dn ?_ _ | refine bel_set ?_ (Nat.le_refl _) _))) hb4; have HP4 := hid hp4; clear hb4 hp4)
    refine bodyPost_ret (v := .tuple #[.slice ao m c, .int .i64 N]) (by simp [results, Tryz.results43, go_sem]) rfl ?_
    exact ⟨_, _, _, _, rfl, B4, by rw [HQ.out]; exact HP4.out⟩

set_option maxRecDepth 100000 in
set_option maxHeartbeats 16000000 in
theorem instead_33 (w : World) (v : Value) (x y : It) (t : List It) (h : IPre w v x (y :: t)) (hx : x.op = 33) : IPost w v x (y :: t) := by
  unfold IPost
  obtain ⟨b, off, n, cap, rfl, hn, hc1, hc2, u, hcell⟩ := h.bod.one
  have hix := h.bod.tos 0 (by simp) (u := u) (by simpa using (hcell _ (Below.refl _ _)).2.2.2)
  simp only [List.getElem_cons_zero] at hix
  obtain ⟨au, cu, rfl⟩ := hix.sl
  obtain ⟨u2, hcell2⟩ := h.bod.second
  have hiy := h.bod.tos 1 (by simp) (u := u2) (by simpa using (hcell2 _ (Below.refl _ _)).2.2.2)
  simp only [List.getElem_cons_succ, List.getElem_cons_zero] at hiy
  obtain ⟨au2, cu2, rfl⟩ := hiy.sl
  have e1 : ((x.op : Int) == 1) = false := opF (show ¬ x.op = 1 by omega)
  have e65 : ((x.op : Int) == 65) = false := opF (show ¬ x.op = 65 by omega)
  have e66 : ((x.op : Int) == 66) = false := opF (show ¬ x.op = 66 by omega)
  have e32 : ((x.op : Int) == 32) = false := opF (show ¬ x.op = 32 by omega)
  have e35 : ((x.op : Int) == 35) = false := opF (show ¬ x.op = 35 by omega)
  have e0 : ((x.op : Int) == 0) = false := opF (show ¬ x.op = 0 by omega)
  have e12 : ((x.op : Int) == 12) = false := opF (show ¬ x.op = 12 by omega)
  have e14 : ((x.op : Int) == 14) = false := opF (show ¬ x.op = 14 by omega)
  have e15 : ((x.op : Int) == 15) = false := opF (show ¬ x.op = 15 by omega)
  have e33 : ((x.op : Int) == 33) = true := opT (show x.op = 33 by omega)
  have hq0 := rm3 (x := x) (y := y) (r := t) (by omega) (one_no (fun h => by omega)) (by cases t with | nil => rfl | cons z t => exact two_no (fun h => by omega))
  have HC := hid (fun wx hb => show _ ∧ _ from ⟨hcell wx hb, hcell2 wx hb⟩)
  have hp : 0 < n := by omega
  have hp1 : 1 < n := by rw [hn]; simp
  have hq : (0 : Int) < (n : Int) := by omega
  have hq1 : (1 : Int) < (n : Int) := by omega
  have hn1 : ((n : Int) == 1) = false := by simp; omega
  have HH := hid h
  obtain ⟨k, st, hfit⟩ := h.fit
  have HIX := hid hix
  obtain ⟨⟨c0, c1, c2, c3⟩, d0, d1, d2, d3⟩ := HC.out _ (Below.refl _ _)
  have a4 := fun o => cell_alloc o d0
  have a5 := fun o => cell_alloc o d1
  have a6 := fun o => cell_alloc o d2
  have a7 := fun o => cell_alloc o d3
  have hn200 := h.le
  clear hcell hcell2 h hiy hix hn HC
  by_cases hy : y.op = 32
  · have y32 : ((y.op : Int) == 32) = true := opT (show y.op = 32 by omega)
    have y26 : ((y.op : Int) == 26) = false := opF (show ¬ y.op = 26 by omega)
    by_cases hA : x.A = y.A
    · have eA : (x.A == y.A) = true := by simp [hA]
      have HQ := hid (hq0.trans (rc_kept ⟨hx, hy, hA⟩))
      clear HIX hfit hn200 hq0
      clear HH hx hy hA
      go_enter Tryz.func43, Tryz.ntmps43
      go_wp2_with fail
      refine bodyPost_ret (v := .tuple #[.slice (some ⟨w.heap.size + 2, 0, none⟩) 1 1, .int .i64 2]) (by simp [results, Tryz.results43, go_sem]) rfl ?_
      exact ⟨_, _, _, _, rfl, by (repeat (first | exact Below.refl _ _ | assumption | refine bel_al ?_ _ | refine Below.drew ?_ | refine bel_dn ?_ _ | refine bel_set ?_ (Nat.le_refl _) _)), by rw [HQ.out]; exact ⟨by simp, BodS.made _ _ _ _ (by simp)⟩⟩
    · have eA : (x.A == y.A) = false := by simp [hA]
      have HQ := hid (hq0.trans (rc_later (by omega) (by omega) (by omega) (fun h => hA h.2.2)))
      have HLT := hid (fun (wx : World) (hb : Below w.heap.size w wx) => later_any wx _ x y t k st (fun h1 h2 => by omega) (HH.out.bod.below hb) HH.out.le)
      clear HIX hfit hn200 hq0
      clear HH hx hy hA
      go_enter Tryz.func43, Tryz.ntmps43
      go_wp2_with (go_at_call 82; refine (HLT.out _ (by (repeat (first | exact Below.refl _ _ | assumption | refine bel_al ?_ _ | refine Below.drew ?_ | refine bel_dn ?_ _ | refine bel_set ?_ (Nat.le_refl _) _)))).mono ?_; rintro r w4 ⟨ao, m, c, N, rfl, hb4, hp4⟩; have B4 := bel_tr (w := w) (by (repeat (first | exact Below.refl _ _ | assumption | refine bel_al ?_ _ | refine Below.drew ?_ | refine bel_dn ?_ _ | refine bel_set ?_ (Nat.le_refl _) _))) hb4; have HP4 := hid hp4; clear hb4 hp4)
      refine bodyPost_ret (v := .tuple #[.slice ao m c, .int .i64 N]) (by simp [results, Tryz.results43, go_sem]) rfl ?_
      exact ⟨_, _, _, _, rfl, B4, by rw [HQ.out]; exact HP4.out⟩
  · have y32 : ((y.op : Int) == 32) = false := opF (show ¬ y.op = 32 by omega)
    by_cases hy2 : y.op = 26
    · have y26 : ((y.op : Int) == 26) = true := opT (show y.op = 26 by omega)
      have HQ := hid (hq0.trans (rc_later (by omega) (by omega) (by omega) (by omega)))
      have HLT := hid (fun (wx : World) (hb : Below w.heap.size w wx) => later_any wx _ x y t k st (fun h1 h2 => by omega) (HH.out.bod.below hb) HH.out.le)
      clear HIX hfit hn200 hq0
      clear HH hx hy hy2
      go_enter Tryz.func43, Tryz.ntmps43
      go_wp2_with (go_at_call 82; refine (HLT.out _ (by (repeat (first | exact Below.refl _ _ | assumption | refine bel_al ?_ _ | refine Below.drew ?_ | refine bel_dn ?_ _ | refine bel_set ?_ (Nat.le_refl _) _)))).mono ?_; rintro r w4 ⟨ao, m, c, N, rfl, hb4, hp4⟩; have B4 := bel_tr (w := w) (by (repeat (first | exact Below.refl _ _ | assumption | refine bel_al ?_ _ | refine Below.drew ?_ | refine bel_dn ?_ _ | refine bel_set ?_ (Nat.le_refl _) _))) hb4; have HP4 := hid hp4; clear hb4 hp4)
      refine bodyPost_ret (v := .tuple #[.slice ao m c, .int .i64 N]) (by simp [results, Tryz.results43, go_sem]) rfl ?_
      exact ⟨_, _, _, _, rfl, B4, by rw [HQ.out]; exact HP4.out⟩
    · have y26 : ((y.op : Int) == 26) = false := opF (show ¬ y.op = 26 by omega)
      have HQ := hid (hq0.trans (rc_later (by omega) (by omega) (by omega) (by omega)))
      have HLT := hid (fun (wx : World) (hb : Below w.heap.size w wx) => later_any wx _ x y t k st (fun h1 h2 => by omega) (HH.out.bod.below hb) HH.out.le)
      clear HIX hfit hn200 hq0
      clear HH hx hy hy2
      go_enter Tryz.func43, Tryz.ntmps43
      go_wp2_with (go_at_call 82; refine (HLT.out _ (by (repeat (first | exact Below.refl _ _ | assumption | refine bel_al ?_ _ | refine Below.drew ?_ | refine bel_dn ?_ _ | refine bel_set ?_ (Nat.le_refl _) _)))).mono ?_; rintro r w4 ⟨ao, m, c, N, rfl, hb4, hp4⟩; have B4 := bel_tr (w := w) (by (repeat (first | exact Below.refl _ _ | assumption | refine bel_al ?_ _ | refine Below.drew ?_ | refine bel_dn ?_ _ | refine bel_set ?_ (Nat.le_refl _) _))) hb4; have HP4 := hid hp4; clear hb4 hp4)
      refine bodyPost_ret (v := .tuple #[.slice ao m c, .int .i64 N]) (by simp [results, Tryz.results43, go_sem]) rfl ?_
      exact ⟨_, _, _, _, rfl, B4, by rw [HQ.out]; exact HP4.out⟩
end Go.Proofs.YtakfineljffoaaaGreatDoor
namespace Go.Proofs.YtakfineljffoaaaGreatDoor
open Go.RowKit Go.Lib


set_option maxRecDepth 100000 in
set_option maxHeartbeats 16000000 in
theorem instead_15 (w : World) (v : Value) (x y : It) (t : List It) (h : IPre w v x (y :: t)) (hx : x.op = 15) : IPost w v x (y :: t) := by
  unfold IPost
  obtain ⟨b, off, n, cap, rfl, hn, hc1, hc2, u, hcell⟩ := h.bod.one
  have hix := h.bod.tos 0 (by simp) (u := u) (by simpa using (hcell _ (Below.refl _ _)).2.2.2)
  simp only [List.getElem_cons_zero] at hix
  obtain ⟨au, cu, rfl⟩ := hix.sl
  obtain ⟨u2, hcell2⟩ := h.bod.second
  have hiy := h.bod.tos 1 (by simp) (u := u2) (by simpa using (hcell2 _ (Below.refl _ _)).2.2.2)
  simp only [List.getElem_cons_succ, List.getElem_cons_zero] at hiy
  obtain ⟨au2, cu2, rfl⟩ := hiy.sl
  have e1 : ((x.op : Int) == 1) = false := opF (show ¬ x.op = 1 by omega)
  have e65 : ((x.op : Int) == 65) = false := opF (show ¬ x.op = 65 by omega)
  have e66 : ((x.op : Int) == 66) = false := opF (show ¬ x.op = 66 by omega)
  have e32 : ((x.op : Int) == 32) = false := opF (show ¬ x.op = 32 by omega)
  have e35 : ((x.op : Int) == 35) = false := opF (show ¬ x.op = 35 by omega)
  have e0 : ((x.op : Int) == 0) = false := opF (show ¬ x.op = 0 by omega)
  have e12 : ((x.op : Int) == 12) = false := opF (show ¬ x.op = 12 by omega)
  have e14 : ((x.op : Int) == 14) = false := opF (show ¬ x.op = 14 by omega)
  have e15 : ((x.op : Int) == 15) = true := opT (show x.op = 15 by omega)
  have e33 : ((x.op : Int) == 33) = false := opF (show ¬ x.op = 33 by omega)
  have hq0 := rm3 (x := x) (y := y) (r := t) (by omega) (one_no (fun h => by omega)) (by cases t with | nil => rfl | cons z t => exact two_no (fun h => by omega))
  have HC := hid (fun wx hb => show _ ∧ _ from ⟨hcell wx hb, hcell2 wx hb⟩)
  have hp : 0 < n := by omega
  have hp1 : 1 < n := by rw [hn]; simp
  have hq : (0 : Int) < (n : Int) := by omega
  have hq1 : (1 : Int) < (n : Int) := by omega
  have hn1 : ((n : Int) == 1) = false := by simp; omega
  have HH := hid h
  obtain ⟨k, st, hfit⟩ := h.fit
  have HIX := hid hix
  obtain ⟨⟨c0, c1, c2, c3⟩, d0, d1, d2, d3⟩ := HC.out _ (Below.refl _ _)
  have a4 := fun o => cell_alloc o d0
  have a5 := fun o => cell_alloc o d1
  have a6 := fun o => cell_alloc o d2
  have a7 := fun o => cell_alloc o d3
  have hn200 := h.le
  clear hcell hcell2 h hiy hix hn HC
  by_cases h5 : y.op = 5
  · have y5 : ((y.op : Int) == 5) = true := opT (show y.op = 5 by omega)
    have y26 : ((y.op : Int) == 26) = false := opF (show ¬ y.op = 26 by omega)
    have n5 : ((y.op : Int) != 5) = false := by simp; omega
    have n11 : ((y.op : Int) != 11) = true := by simp; omega
    have HQ := hid (hq0.trans (rc_later (by omega) (by omega) (by omega) (by omega)))
    have HLT := hid (fun (wx : World) (hb : Below w.heap.size w wx) => later_any wx _ x y t k st (fun h1 h2 => by omega) (HH.out.bod.below hb) HH.out.le)
    clear HIX hfit hn200 hq0
    clear HH hx h5
    go_enter Tryz.func43, Tryz.ntmps43
    go_wp2_with (go_at_call 82; refine (HLT.out _ (by (repeat (first | exact Below.refl _ _ | assumption | refine bel_al ?_ _ | refine Below.drew ?_ | refine bel_dn ?_ _ | refine bel_set ?_ (Nat.le_refl _) _)))).mono ?_; rintro r w4 ⟨ao, m, c, N, rfl, hb4, hp4⟩; have B4 := bel_tr (w := w) (by (repeat (first | exact Below.refl _ _ | assumption | refine bel_al ?_ _ | refine Below.drew ?_ | refine bel_dn ?_ _ | refine bel_set ?_ (Nat.le_refl _) _))) hb4; have HP4 := hid hp4; clear hb4 hp4)
    refine bodyPost_ret (v := .tuple #[.slice ao m c, .int .i64 N]) (by simp [results, Tryz.results43, go_sem]) rfl ?_
    exact ⟨_, _, _, _, rfl, B4, by rw [HQ.out]; exact HP4.out⟩
  · have y5 : ((y.op : Int) == 5) = false := opF (show ¬ y.op = 5 by omega)
    by_cases h11 : y.op = 11
    · have y11 : ((y.op : Int) == 11) = true := opT (show y.op = 11 by omega)
      have y26 : ((y.op : Int) == 26) = false := opF (show ¬ y.op = 26 by omega)
      have n5 : ((y.op : Int) != 5) = true := by simp; omega
      have n11 : ((y.op : Int) != 11) = false := by simp; omega
      have HQ := hid (hq0.trans (rc_later (by omega) (by omega) (by omega) (by omega)))
      have HLT := hid (fun (wx : World) (hb : Below w.heap.size w wx) => later_any wx _ x y t k st (fun h1 h2 => by omega) (HH.out.bod.below hb) HH.out.le)
      clear HIX hfit hn200 hq0
      clear HH hx h5 h11
      go_enter Tryz.func43, Tryz.ntmps43
      go_wp2_with (go_at_call 82; refine (HLT.out _ (by (repeat (first | exact Below.refl _ _ | assumption | refine bel_al ?_ _ | refine Below.drew ?_ | refine bel_dn ?_ _ | refine bel_set ?_ (Nat.le_refl _) _)))).mono ?_; rintro r w4 ⟨ao, m, c, N, rfl, hb4, hp4⟩; have B4 := bel_tr (w := w) (by (repeat (first | exact Below.refl _ _ | assumption | refine bel_al ?_ _ | refine Below.drew ?_ | refine bel_dn ?_ _ | refine bel_set ?_ (Nat.le_refl _) _))) hb4; have HP4 := hid hp4; clear hb4 hp4)
      refine bodyPost_ret (v := .tuple #[.slice ao m c, .int .i64 N]) (by simp [results, Tryz.results43, go_sem]) rfl ?_
      exact ⟨_, _, _, _, rfl, B4, by rw [HQ.out]; exact HP4.out⟩
    · have y11 : ((y.op : Int) == 11) = false := opF (show ¬ y.op = 11 by omega)
      have n5 : ((y.op : Int) != 5) = true := by simp; omega
      have n11 : ((y.op : Int) != 11) = true := by simp; omega
      by_cases h26 : y.op = 26
      · have y26 : ((y.op : Int) == 26) = true := opT (show y.op = 26 by omega)
        have hdd := rc_dead (t := t) (show (x.op = 0 ∨ x.op = 12 ∨ x.op = 14 ∨ x.op = 15) ∧ y.op ≠ 5 ∧ y.op ≠ 11 from ⟨by omega, by omega, by omega⟩)
        by_cases hb : 2 ≤ y.op ∧ y.op ≤ 4
        · have q2 : (2 : Int) ≤ (y.op : Int) := by omega
          have q4 : (y.op : Int) ≤ 4 := by omega
          have hfit2 := hfit
          rw [run_flat (flatI (by omega))] at hfit2
          have hup := dead_same (by omega) hfit2
          obtain ⟨o, ho, hsl⟩ := run_lo elem_insv b off n cap 1 .i64 1 rfl (by omega)
          have HB1 := HH.out.bod.drop 1 (by simp) ho
          simp only [List.drop_succ_cons, List.drop_zero] at HB1
          have hl1 : (y :: t).length ≤ 200 := by simp only [List.length_cons] at hn200 ⊢; omega
          have hs1 := span_le (y :: t)
          have hs2 := (upt_is (by omega) hfit2).2.1
          obtain ⟨M, hM⟩ : ∃ M, spanM (y :: t) = M + 1 := ⟨spanM (y :: t) - 1, by omega⟩
          have hup2 : (uptM (y :: t)).1 = (M : Int) := by rw [hM] at hup; omega
          have HU0 := fun wx (hb : Below w.heap.size w wx) => upto_any wx _ _ (HB1.below hb) hl1
          rw [hup2] at HU0
          have HU := hid HU0
          rw [hM] at hdd
          have HQ := hid (hq0.trans hdd)
          obtain ⟨hw1, hw2⟩ := dead_wrap (M := M) (by omega)
          have TW := hid (two_laid w x y au au2 cu cu2)
          clear HU0 hup hup2 hM hs1 hs2 hl1 HB1 ho hfit2 hdd hfit hn200 hq0 HH hx hb h5 h11 h26
          go_enter Tryz.func43, Tryz.ntmps43
          go_wp2_with (go_at_call 81; refine (HU.out _ (by (repeat (first | exact Below.refl _ _ | assumption | refine bel_al ?_ _ | refine Below.drew ?_ | refine bel_dn ?_ _ | refine bel_set ?_ (Nat.le_refl _) _)))).mono ?_; rintro r w4 ⟨rfl, hb4⟩; have B4 := bel_tr (w := w) (by (repeat (first | exact Below.refl _ _ | assumption | refine bel_al ?_ _ | refine Below.drew ?_ | refine bel_dn ?_ _ | refine bel_set ?_ (Nat.le_refl _) _))) hb4; obtain ⟨⟨m0, m1, m2, m3⟩, n0, n1, n2, n3⟩ := (TW.out.below hb4).cells; clear hb4)
          refine bodyPost_ret (v := .tuple #[.slice (some ⟨w4.heap.size, 0, none⟩) 1 1, .int .i64 (1 + ((M : Int) + 1))]) (by simp [results, Tryz.results43, go_sem, hw2]) rfl ?_
          exact ⟨_, _, _, _, rfl, by (repeat (first | exact Below.refl _ _ | assumption | refine bel_al ?_ _ | refine Below.drew ?_ | refine bel_dn ?_ _ | refine bel_set ?_ (Nat.le_refl _) _)), by rw [HQ.out]; exact ⟨by simp, (OwnF.new (W := w) w4 0 _ x _ HIX.out rfl (Nat.zero_le _)).bod (by (repeat (first | exact Below.refl _ _ | assumption | refine bel_al ?_ _ | refine Below.drew ?_ | refine bel_dn ?_ _ | refine bel_set ?_ (Nat.le_refl _) _)))⟩⟩
        · have hsp := span_one (y := y) (t := t) (by omega)
          rw [hsp] at hdd
          have HQ := hid (hq0.trans hdd)
          by_cases h2 : 2 ≤ y.op
          · have q2 : (2 : Int) ≤ (y.op : Int) := by omega
            have q4 : ¬ (y.op : Int) ≤ 4 := by omega
            clear hsp hdd hfit hn200 hq0 HH hx hb h2 h5 h11 h26
            go_enter Tryz.func43, Tryz.ntmps43
            go_wp2_with fail
            refine bodyPost_ret (v := .tuple #[.slice (some ⟨w.heap.size + 2, 0, none⟩) 1 1, .int .i64 2]) (by simp [results, Tryz.results43, go_sem]) rfl ?_
            exact ⟨_, _, _, _, rfl, by (repeat (first | exact Below.refl _ _ | assumption | refine bel_al ?_ _ | refine Below.drew ?_ | refine bel_dn ?_ _ | refine bel_set ?_ (Nat.le_refl _) _)), by rw [HQ.out]; exact ⟨by simp, (OwnF.new (W := w) ((w.alloc (.cells #[.int .u8 x.op, .int .i64 x.A, .int .i64 x.B, .slice au x.tos.length cu] 97)).alloc (.cells #[.int .u8 y.op, .int .i64 y.A, .int .i64 y.B, .slice au2 y.tos.length cu2] 97)) 0 _ x _ HIX.out (by simp) (Nat.zero_le _)).bod (by (repeat (first | exact Below.refl _ _ | assumption | refine bel_al ?_ _ | refine Below.drew ?_ | refine bel_dn ?_ _ | refine bel_set ?_ (Nat.le_refl _) _)))⟩⟩
          · have q2 : ¬ (2 : Int) ≤ (y.op : Int) := by omega
            clear hsp hdd hfit hn200 hq0 HH hx hb h2 h5 h11 h26
            go_enter Tryz.func43, Tryz.ntmps43
            go_wp2_with fail
            refine bodyPost_ret (v := .tuple #[.slice (some ⟨w.heap.size + 2, 0, none⟩) 1 1, .int .i64 2]) (by simp [results, Tryz.results43, go_sem]) rfl ?_
            exact ⟨_, _, _, _, rfl, by (repeat (first | exact Below.refl _ _ | assumption | refine bel_al ?_ _ | refine Below.drew ?_ | refine bel_dn ?_ _ | refine bel_set ?_ (Nat.le_refl _) _)), by rw [HQ.out]; exact ⟨by simp, (OwnF.new (W := w) ((w.alloc (.cells #[.int .u8 x.op, .int .i64 x.A, .int .i64 x.B, .slice au x.tos.length cu] 97)).alloc (.cells #[.int .u8 y.op, .int .i64 y.A, .int .i64 y.B, .slice au2 y.tos.length cu2] 97)) 0 _ x _ HIX.out (by simp) (Nat.zero_le _)).bod (by (repeat (first | exact Below.refl _ _ | assumption | refine bel_al ?_ _ | refine Below.drew ?_ | refine bel_dn ?_ _ | refine bel_set ?_ (Nat.le_refl _) _)))⟩⟩
      · have y26 : ((y.op : Int) == 26) = false := opF (show ¬ y.op = 26 by omega)
        have hdd := rc_dead (t := t) (show (x.op = 0 ∨ x.op = 12 ∨ x.op = 14 ∨ x.op = 15) ∧ y.op ≠ 5 ∧ y.op ≠ 11 from ⟨by omega, by omega, by omega⟩)
        by_cases hb : 2 ≤ y.op ∧ y.op ≤ 4
        · have q2 : (2 : Int) ≤ (y.op : Int) := by omega
          have q4 : (y.op : Int) ≤ 4 := by omega
          have hfit2 := hfit
          rw [run_flat (flatI (by omega))] at hfit2
          have hup := dead_same (by omega) hfit2
          obtain ⟨o, ho, hsl⟩ := run_lo elem_insv b off n cap 1 .i64 1 rfl (by omega)
          have HB1 := HH.out.bod.drop 1 (by simp) ho
          simp only [List.drop_succ_cons, List.drop_zero] at HB1
          have hl1 : (y :: t).length ≤ 200 := by simp only [List.length_cons] at hn200 ⊢; omega
          have hs1 := span_le (y :: t)
          have hs2 := (upt_is (by omega) hfit2).2.1
          obtain ⟨M, hM⟩ : ∃ M, spanM (y :: t) = M + 1 := ⟨spanM (y :: t) - 1, by omega⟩
          have hup2 : (uptM (y :: t)).1 = (M : Int) := by rw [hM] at hup; omega
          have HU0 := fun wx (hb : Below w.heap.size w wx) => upto_any wx _ _ (HB1.below hb) hl1
          rw [hup2] at HU0
          have HU := hid HU0
          rw [hM] at hdd
          have HQ := hid (hq0.trans hdd)
          obtain ⟨hw1, hw2⟩ := dead_wrap (M := M) (by omega)
          have TW := hid (two_laid w x y au au2 cu cu2)
          clear HU0 hup hup2 hM hs1 hs2 hl1 HB1 ho hfit2 hdd hfit hn200 hq0 HH hx hb h5 h11 h26
          go_enter Tryz.func43, Tryz.ntmps43
          go_wp2_with (go_at_call 81; refine (HU.out _ (by (repeat (first | exact Below.refl _ _ | assumption | refine bel_al ?_ _ | refine Below.drew ?_ | refine bel_dn ?_ _ | refine bel_set ?_ (Nat.le_refl _) _)))).mono ?_; rintro r w4 ⟨rfl, hb4⟩; have B4 := bel_tr (w := w) (by (repeat (first | exact Below.refl _ _ | assumption | refine bel_al ?_ _ | refine Below.drew ?_ | refine bel_dn ?_ _ | refine bel_set ?_ (Nat.le_refl _) _))) hb4; obtain ⟨⟨m0, m1, m2, m3⟩, n0, n1, n2, n3⟩ := (TW.out.below hb4).cells; clear hb4)
          refine bodyPost_ret (v := .tuple #[.slice (some ⟨w4.heap.size, 0, none⟩) 1 1, .int .i64 (1 + ((M : Int) + 1))]) (by simp [results, Tryz.results43, go_sem, hw2]) rfl ?_
          exact ⟨_, _, _, _, rfl, by (repeat (first | exact Below.refl _ _ | assumption | refine bel_al ?_ _ | refine Below.drew ?_ | refine bel_dn ?_ _ | refine bel_set ?_ (Nat.le_refl _) _)), by rw [HQ.out]; exact ⟨by simp, (OwnF.new (W := w) w4 0 _ x _ HIX.out rfl (Nat.zero_le _)).bod (by (repeat (first | exact Below.refl _ _ | assumption | refine bel_al ?_ _ | refine Below.drew ?_ | refine bel_dn ?_ _ | refine bel_set ?_ (Nat.le_refl _) _)))⟩⟩
        · have hsp := span_one (y := y) (t := t) (by omega)
          rw [hsp] at hdd
          have HQ := hid (hq0.trans hdd)
          by_cases h2 : 2 ≤ y.op
          · have q2 : (2 : Int) ≤ (y.op : Int) := by omega
            have q4 : ¬ (y.op : Int) ≤ 4 := by omega
            clear hsp hdd hfit hn200 hq0 HH hx hb h2 h5 h11 h26
            go_enter Tryz.func43, Tryz.ntmps43
            go_wp2_with fail
            refine bodyPost_ret (v := .tuple #[.slice (some ⟨w.heap.size + 2, 0, none⟩) 1 1, .int .i64 2]) (by simp [results, Tryz.results43, go_sem]) rfl ?_
            exact ⟨_, _, _, _, rfl, by (repeat (first | exact Below.refl _ _ | assumption | refine bel_al ?_ _ | refine Below.drew ?_ | refine bel_dn ?_ _ | refine bel_set ?_ (Nat.le_refl _) _)), by rw [HQ.out]; exact ⟨by simp, (OwnF.new (W := w) ((w.alloc (.cells #[.int .u8 x.op, .int .i64 x.A, .int .i64 x.B, .slice au x.tos.length cu] 97)).alloc (.cells #[.int .u8 y.op, .int .i64 y.A, .int .i64 y.B, .slice au2 y.tos.length cu2] 97)) 0 _ x _ HIX.out (by simp) (Nat.zero_le _)).bod (by (repeat (first | exact Below.refl _ _ | assumption | refine bel_al ?_ _ | refine Below.drew ?_ | refine bel_dn ?_ _ | refine bel_set ?_ (Nat.le_refl _) _)))⟩⟩
          · have q2 : ¬ (2 : Int) ≤ (y.op : Int) := by omega
            clear hsp hdd hfit hn200 hq0 HH hx hb h2 h5 h11 h26
            go_enter Tryz.func43, Tryz.ntmps43
            go_wp2_with fail
            refine bodyPost_ret (v := .tuple #[.slice (some ⟨w.heap.size + 2, 0, none⟩) 1 1, .int .i64 2]) (by simp [results, Tryz.results43, go_sem]) rfl ?_
            exact ⟨_, _, _, _, rfl, by (repeat (first | exact Below.refl _ _ | assumption | refine bel_al ?_ _ | refine Below.drew ?_ | refine bel_dn ?_ _ | refine bel_set ?_ (Nat.le_refl _) _)), by rw [HQ.out]; exact ⟨by simp, (OwnF.new (W := w) ((w.alloc (.cells #[.int .u8 x.op, .int .i64 x.A, .int .i64 x.B, .slice au x.tos.length cu] 97)).alloc (.cells #[.int .u8 y.op, .int .i64 y.A, .int .i64 y.B, .slice au2 y.tos.length cu2] 97)) 0 _ x _ HIX.out (by simp) (Nat.zero_le _)).bod (by (repeat (first | exact Below.refl _ _ | assumption | refine bel_al ?_ _ | refine Below.drew ?_ | refine bel_dn ?_ _ | refine bel_set ?_ (Nat.le_refl _) _)))⟩⟩
end Go.Proofs.YtakfineljffoaaaGreatDoor
