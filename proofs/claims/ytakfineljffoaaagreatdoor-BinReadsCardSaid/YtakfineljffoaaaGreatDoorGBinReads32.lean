/-
  MODULES READ, the program's reader: sections 1, 3, 6. Conditions: a text in the form's reach. Printed by a program of mine.
-/
import Derived.Test.YtakfineljffoaaaGreatDoorGBinReads30
namespace Go.Proofs.YtakfineljffoaaaGreatDoor
open Go.RowKit Go.Lib

set_option maxRecDepth 100000 in
set_option maxHeartbeats 8000000 in
theorem bsec1_any (w : World) (H M B : Nat) (t : ByteArray) (a : Nat) (vt vi vf vg vx ve vd : Value) (m : Mdl) (cs : List Cd) (h : MS w w H M B t a vt vi vf vg vx ve vd m) (ha : a ≤ t.size) (hs : t.size ≤ 1000000000) (hl : m.types.length ≤ 1000) :
    Calls Tryz.prog 16 #[.pointer (some ⟨B, 0, none⟩), .int .u8 1, .pointer (some ⟨M, 0, none⟩)] w (PSec H M B t (.int .i64 0) (secM 1 (m, cs) (left t a, 0)).1.1 (secM 1 (m, cs) (left t a, 0)).2 w) := by
  have A0 := hid h
  clear h
  obtain ⟨P, hP⟩ : ∃ P, secM 1 (m, cs) (left t a, 0) = P := ⟨_, rfl⟩
  have HM0 := hid hP.symm
  rw [hP]
  clear hP
  unfold PSec
  go_enter Tryz.func16, Tryz.ntmps16
  go_wp2_with fail
  have HB0 := hid (show m.types.length ≤ 1000 + 0 from hl)
  clear hl
  have hcf := cntM_facts 16 (by decide) (left t a, 0)
  refine (bcount_any _ B t a 16 A0.out.rd ha hs).mono ?_
  rintro r w1 ⟨ht1, hor1⟩
  have HBD1 := hid (A0.out.bad ht1)
  have HA1 := hid (fun aa hh => A0.out.read (a' := aa) ht1 hh)
  clear ht1
  obtain ⟨v1, s1, hv1⟩ : ∃ v s, cntM 16 (left t a, 0) = (v, s) := ⟨_, _, rfl⟩
  have HM1 := hid (show P = loopM 1 v1.toNat (m, cs) s1 from HM0.out.trans (by rw [secM, if_neg (by decide), show limM 1 = 16 from rfl, hv1]))
  rw [hv1] at hor1
  rw [hv1] at hcf
  clear hv1
  rcases hor1 with ⟨hz, rfl, a1, ha1, hl, hb1⟩ | ⟨hnz, rfl⟩
  case inr =>
    have HN := hid hnz
    clear hnz
    go_wp2_with fail
    exact ⟨rfl, HBD1.out.1, .inr ⟨by rw [HM1.out, loop_st HN.out]; exact HN.out, by rw [HM1.out, loop_st HN.out], HBD1.out.2⟩⟩
  have hs1 : s1 = (left t a1, 0) := Prod.ext hl hz
  subst hs1
  have A1 := hid (HA1.out a1 hb1)
  clear hz hl hb1 HA1 HBD1
  obtain ⟨N, rfl⟩ := Int.eq_ofNat_of_zero_le hcf.1
  have hN : N ≤ 16 := by have := hcf.2.1; omega
  have HM1 := hid (show P = loopM 1 N (m, cs) (left t a1, 0) from HM1.out)
  clear hcf
  go_wp2_with fail
  obtain ⟨m0, hm0⟩ : ∃ m0 : Mdl, m0 = m := ⟨_, rfl⟩
  go_loopw [17] (fun i wr => ∃ (k : Nat) (vt vi vf vg vx ve vd : Value) (mm : Mdl) (aa : Nat), k ≤ N ∧ i = .int .i64 k ∧ aa ≤ t.size ∧ Hid (mm.types.length ≤ 1000 + k) ∧ Hid (P = loopM 1 (N - k) (mm, cs) (left t aa, 0)) ∧ Hid (MS w wr H M B t aa vt vi vf vg vx ve vd mm)) (fun i _ => N - (RowKit.intOf i).toNat)
  case atStart => exact ⟨0, _, _, _, _, _, _, _, m, a1, Nat.zero_le _, rfl, ha1, HB0, HM1, A1⟩
  case round =>
    clear A0 A1
    obtain ⟨k, vt, vi, vf, vg, vx, ve, vd, mm, a2, hk, rfl, ha2, HBN, HM2, A2⟩ := hrel
    by_cases hlt : k < N
    · have HM2 := hid (show P = LG 1 up1 (N - (k + 1)) (mm, cs) (sigM (left t a2, 0)) from HM2.out.trans (by rw [show N - k = N - (k + 1) + 1 by omega]; exact loop_go rfl rfl))
      obtain ⟨n0, hn0⟩ : ∃ n, mm.types.length = n := ⟨_, rfl⟩
      obtain ⟨css0, -, hrow⟩ := A2.out.mo.t
      rw [hn0] at hrow
      obtain ⟨ao, cap, rfl, _⟩ := own_sl hrow
      have HN0 := hid hn0
      clear hrow hn0
      have A3 := hid A2.out.drew
      have HM3 := HM2
      go_wp2_with fail
      refine wp_region_tail (S := (fun w' => w'.cell? ⟨M, 0, none⟩ = some (.slice ao n0 cap))) 11 (by kernel_rfl) (by kernel_rfl) ?_ (fun hHeld => ?_)
      · exact A3.out.mo.blk.cell (i := 0) rfl
      repeat ((first | refine tk 0 ?_ rfl ?_ ?_ | refine tk 1 ?_ rfl ?_ ?_ | refine tk 2 ?_ rfl ?_ ?_ | refine tk 3 ?_ rfl ?_ ?_ | refine tk 4 ?_ rfl ?_ ?_ | refine tk 5 ?_ rfl ?_ ?_ | refine tk 9 ?_ rfl ?_ ?_ | refine tk 10 ?_ rfl ?_ ?_); rotate_left; (intro wy hSw; (try dsimp only at hSw); (go_simp <;> with_reducible rfl)); (try simp only [List.getElem_toArray, List.getElem_cons_zero, List.getElem_cons_succ, Act.put, List.setIfInBounds_toArray, List.set_cons_zero, List.set_cons_succ]))
      refine wpT_one (k := 6) rfl (by kernel_rfl) (fun K hK => ?_)
      go_simp
      refine (bsig_any _ B t a2 A3.out.rd ha2 hs).mono ?_
      rintro r w4 ⟨ht4, hor4⟩
      have HBD4 := hid (A3.out.bad ht4)
      have HA4 := hid (fun aa hh => A3.out.read (a' := aa) ht4 hh)
      clear ht4
      obtain ⟨v4, s4, hv4⟩ : ∃ v s, sigM (left t a2, 0) = (v, s) := ⟨_, _, rfl⟩
      have HM4 := hid (show P = LG 1 up1 (N - (k + 1)) (mm, cs) (v4, s4) from HM3.out.trans (by rw [hv4]))
      rw [hv4] at hor4
      clear hv4
      rcases hor4 with ⟨hz, ⟨u, v, rfl, hou, hov⟩, a4, ha4, hl, hb4⟩ | ⟨hnz, rfl⟩
      case inr =>
        have HN := hid hnz
        clear hnz
        go_simp
        exact ⟨rfl, HBD4.out.1, .inr ⟨by rw [HM4.out, LG_st HN.out]; exact HN.out, by rw [HM4.out, LG_st HN.out], HBD4.out.2⟩⟩
      have hs4 : s4 = (left t a4, 0) := Prod.ext hl hz
      subst hs4
      have A4 := hid (HA4.out a4 hb4)
      clear hz hl hb4 HA4 HBD4
      obtain ⟨au, cu, rfl, _⟩ := own_sl hou
      obtain ⟨av, cv, rfl, _⟩ := own_sl hov
      have HX4 := hid (show ESg w4 H [.slice au v4.1.length cu, .slice av v4.2.length cv] v4 from ⟨_, _, rfl, own_mono' hou A3.out.size, own_mono' hov A3.out.size⟩)
      clear hou hov
      refine hK.out _ _ ?_ (fun hHeld => ?_)
      · exact A4.out.mo.blk.cell (i := 0) rfl
      clear hK K
      (try simp only [Act.put, List.setIfInBounds_toArray, List.set_cons_zero, List.set_cons_succ])
      refine wpT_one (k := 7) rfl (by kernel_rfl) (fun K hK => ?_)
      go_simp
      refine hK.out _ _ ?_ (fun hHeld => ?_)
      · exact cell_alloc _ (A4.out.mo.blk.cell (i := 0) rfl)
      clear hK K
      (try simp only [Act.put, List.setIfInBounds_toArray, List.set_cons_zero, List.set_cons_succ])
      obtain ⟨css, HC, hrow⟩ := A4.out.mo.t
      have HBN2 := HBN.out
      have HN02 := HN0.out
      rw [HN02] at hrow HBN2
      refine wpT_one (k := 8) rfl (by kernel_rfl) (fun K hK => ?_)
      refine step_one1 elem_sigv (cs := [.slice au v4.1.length cu, .slice av v4.2.length cv]) (by rfl) _ _ (by rfl) (by rfl) (by rfl) rfl hrow rfl (by intro c hc; simp at hc; rcases hc with rfl | rfl <;> rfl) (by omega) (by omega) A4.out.size ?_
      intro v' w6 ho6 hb6 hg6
      obtain ⟨az, cz, rfl, _⟩ := own_sl ho6
      have C4 := hid (A4.out.pushT HN02 HC hrow HX4.out hg6.1 ho6)
      have y0 := C4.out.1.1
      have yf := C4.out.1.2
      refine hK.out _ _ ?_ (fun hHeld => ?_)
      · exact y0
      clear hK K
      (try simp only [Act.put, List.setIfInBounds_toArray, List.set_cons_zero, List.set_cons_succ])
      repeat ((first | refine tk 0 ?_ rfl ?_ ?_ | refine tk 1 ?_ rfl ?_ ?_ | refine tk 2 ?_ rfl ?_ ?_ | refine tk 3 ?_ rfl ?_ ?_ | refine tk 4 ?_ rfl ?_ ?_ | refine tk 5 ?_ rfl ?_ ?_ | refine tk 9 ?_ rfl ?_ ?_ | refine tk 10 ?_ rfl ?_ ?_); rotate_left; (intro wy hSw; (try dsimp only at hSw); (go_simp <;> with_reducible rfl)); (try simp only [List.getElem_toArray, List.getElem_cons_zero, List.getElem_cons_succ, Act.put, List.setIfInBounds_toArray, List.set_cons_zero, List.set_cons_succ]))
      refine wpT_done (by kernel_rfl) ?_
      go_wp2_with fail
      go_roundw
      case rel => exact ⟨k + 1, _, _, _, _, _, _, _, _, a4, hlt, by go_num, ha4, hid (by have := HBN.out; simp; omega), hid HM4.out, hid C4.out.2⟩
      case measure => simp [RowKit.intOf]; omega
    obtain rfl : k = N := by omega
    have HM2 := hid (show P = ((mm, cs), (left t a2, 0)) from HM2.out.trans (by rw [Nat.sub_self]; rfl))
    go_wp2_with fail
    go_ret
    exact ⟨A2.out.tt, .inl ⟨by rw [HM2.out], rfl, vt, vi, vf, vg, vx, ve, vd, a2, ha2, by rw [HM2.out], by rw [HM2.out]; exact A2.out.mo, A2.out.rd⟩⟩
set_option maxRecDepth 100000 in
set_option maxHeartbeats 8000000 in
theorem bsec3_any (w : World) (H M B : Nat) (t : ByteArray) (a : Nat) (vt vi vf vg vx ve vd : Value) (m : Mdl) (cs : List Cd) (h : MS w w H M B t a vt vi vf vg vx ve vd m) (ha : a ≤ t.size) (hs : t.size ≤ 1000000000) (hl : m.funcs.length ≤ 1000) :
    Calls Tryz.prog 16 #[.pointer (some ⟨B, 0, none⟩), .int .u8 3, .pointer (some ⟨M, 0, none⟩)] w (PSec H M B t (.int .i64 0) (secM 3 (m, cs) (left t a, 0)).1.1 (secM 3 (m, cs) (left t a, 0)).2 w) := by
  have A0 := hid h
  clear h
  obtain ⟨P, hP⟩ : ∃ P, secM 3 (m, cs) (left t a, 0) = P := ⟨_, rfl⟩
  have HM0 := hid hP.symm
  rw [hP]
  clear hP
  unfold PSec
  go_enter Tryz.func16, Tryz.ntmps16
  go_wp2_with fail
  have HB0 := hid (show m.funcs.length ≤ 1000 + 0 from hl)
  clear hl
  have hcf := cntM_facts 16 (by decide) (left t a, 0)
  refine (bcount_any _ B t a 16 A0.out.rd ha hs).mono ?_
  rintro r w1 ⟨ht1, hor1⟩
  have HBD1 := hid (A0.out.bad ht1)
  have HA1 := hid (fun aa hh => A0.out.read (a' := aa) ht1 hh)
  clear ht1
  obtain ⟨v1, s1, hv1⟩ : ∃ v s, cntM 16 (left t a, 0) = (v, s) := ⟨_, _, rfl⟩
  have HM1 := hid (show P = loopM 3 v1.toNat (m, cs) s1 from HM0.out.trans (by rw [secM, if_neg (by decide), show limM 3 = 16 from rfl, hv1]))
  rw [hv1] at hor1
  rw [hv1] at hcf
  clear hv1
  rcases hor1 with ⟨hz, rfl, a1, ha1, hl, hb1⟩ | ⟨hnz, rfl⟩
  case inr =>
    have HN := hid hnz
    clear hnz
    go_wp2_with fail
    exact ⟨rfl, HBD1.out.1, .inr ⟨by rw [HM1.out, loop_st HN.out]; exact HN.out, by rw [HM1.out, loop_st HN.out], HBD1.out.2⟩⟩
  have hs1 : s1 = (left t a1, 0) := Prod.ext hl hz
  subst hs1
  have A1 := hid (HA1.out a1 hb1)
  clear hz hl hb1 HA1 HBD1
  obtain ⟨N, rfl⟩ := Int.eq_ofNat_of_zero_le hcf.1
  have hN : N ≤ 16 := by have := hcf.2.1; omega
  have HM1 := hid (show P = loopM 3 N (m, cs) (left t a1, 0) from HM1.out)
  clear hcf
  go_wp2_with fail
  obtain ⟨m0, hm0⟩ : ∃ m0 : Mdl, m0 = m := ⟨_, rfl⟩
  go_loopw [65] (fun i wr => ∃ (k : Nat) (vt vi vf vg vx ve vd : Value) (mm : Mdl) (aa : Nat), k ≤ N ∧ i = .int .i64 k ∧ aa ≤ t.size ∧ Hid (mm.funcs.length ≤ 1000 + k) ∧ Hid (P = loopM 3 (N - k) (mm, cs) (left t aa, 0)) ∧ Hid (MS w wr H M B t aa vt vi vf vg vx ve vd mm)) (fun i _ => N - (RowKit.intOf i).toNat)
  case atStart => exact ⟨0, _, _, _, _, _, _, _, m, a1, Nat.zero_le _, rfl, ha1, HB0, HM1, A1⟩
  case round =>
    clear A0 A1
    obtain ⟨k, vt, vi, vf, vg, vx, ve, vd, mm, a2, hk, rfl, ha2, HBN, HM2, A2⟩ := hrel
    by_cases hlt : k < N
    · have HM2 := hid (show P = LG 3 up3 (N - (k + 1)) (mm, cs) (numM (left t a2, 0)) from HM2.out.trans (by rw [show N - k = N - (k + 1) + 1 by omega]; exact loop_go rfl rfl))
      obtain ⟨n0, hn0⟩ : ∃ n, mm.funcs.length = n := ⟨_, rfl⟩
      obtain ⟨css0, -, hrow⟩ := A2.out.mo.f
      rw [hn0] at hrow
      obtain ⟨ao, cap, rfl, _⟩ := own_sl hrow
      have HN0 := hid hn0
      clear hrow hn0
      have A3 := hid A2.out.drew
      have HM3 := HM2
      go_wp2_with fail
      refine wp_region_tail (S := (fun w' => w'.cell? ⟨M, 2, none⟩ = some (.slice ao n0 cap))) 12 (by kernel_rfl) (by kernel_rfl) ?_ (fun hHeld => ?_)
      · exact A3.out.mo.blk.cell (i := 2) rfl
      repeat ((first | refine tk 0 ?_ rfl ?_ ?_ | refine tk 1 ?_ rfl ?_ ?_ | refine tk 2 ?_ rfl ?_ ?_ | refine tk 3 ?_ rfl ?_ ?_ | refine tk 4 ?_ rfl ?_ ?_ | refine tk 5 ?_ rfl ?_ ?_ | refine tk 10 ?_ rfl ?_ ?_ | refine tk 11 ?_ rfl ?_ ?_); rotate_left; (intro wy hSw; (try dsimp only at hSw); (go_simp <;> with_reducible rfl)); (try simp only [List.getElem_toArray, List.getElem_cons_zero, List.getElem_cons_succ, Act.put, List.setIfInBounds_toArray, List.set_cons_zero, List.set_cons_succ]))
      refine wpT_one (k := 6) rfl (by kernel_rfl) (fun K hK => ?_)
      go_simp
      refine (bnumber_any _ B t a2 A3.out.rd ha2 hs).mono ?_
      rintro r w4 ⟨ht4, hor4⟩
      have HBD4 := hid (A3.out.bad ht4)
      have HA4 := hid (fun aa hh => A3.out.read (a' := aa) ht4 hh)
      clear ht4
      obtain ⟨v4, s4, hv4⟩ : ∃ v s, numM (left t a2, 0) = (v, s) := ⟨_, _, rfl⟩
      have HM4 := hid (show P = LG 3 up3 (N - (k + 1)) (mm, cs) (v4, s4) from HM3.out.trans (by rw [hv4]))
      rw [hv4] at hor4
      clear hv4
      rcases hor4 with ⟨hz, rfl, a4, ha4, hl, hb4⟩ | ⟨hnz, rfl⟩
      case inr =>
        have HN := hid hnz
        clear hnz
        go_simp
        exact ⟨rfl, HBD4.out.1, .inr ⟨by rw [HM4.out, LG_st HN.out]; exact HN.out, by rw [HM4.out, LG_st HN.out], HBD4.out.2⟩⟩
      have hs4 : s4 = (left t a4, 0) := Prod.ext hl hz
      subst hs4
      have A4 := hid (HA4.out a4 hb4)
      clear hz hl hb4 HA4 HBD4
      have HX4 := hid (show EFn w4 H [.int .i64 v4, .slice none 0 0, .slice none 0 0] (v4, [], []) from ⟨_, _, rfl, OwnI.nil _ _ _ _, OwnB.nil _ _⟩)
      refine hK.out _ _ ?_ (fun hHeld => ?_)
      · exact A4.out.mo.blk.cell (i := 2) rfl
      clear hK K
      (try simp only [Act.put, List.setIfInBounds_toArray, List.set_cons_zero, List.set_cons_succ])
      repeat ((first | refine tk 7 ?_ rfl ?_ ?_); rotate_left; (intro wy hSw; (try dsimp only at hSw); (go_simp <;> with_reducible rfl)); (try simp only [List.getElem_toArray, List.getElem_cons_zero, List.getElem_cons_succ, Act.put, List.setIfInBounds_toArray, List.set_cons_zero, List.set_cons_succ]))
      refine wpT_one (k := 8) rfl (by kernel_rfl) (fun K hK => ?_)
      go_simp
      refine hK.out _ _ ?_ (fun hHeld => ?_)
      · exact cell_alloc _ (A4.out.mo.blk.cell (i := 2) rfl)
      clear hK K
      (try simp only [Act.put, List.setIfInBounds_toArray, List.set_cons_zero, List.set_cons_succ])
      obtain ⟨css, HC, hrow⟩ := A4.out.mo.f
      have HBN2 := HBN.out
      have HN02 := HN0.out
      rw [HN02] at hrow HBN2
      refine wpT_one (k := 9) rfl (by kernel_rfl) (fun K hK => ?_)
      refine step_one1 elem_funcv (cs := [.int .i64 v4, .slice none 0 0, .slice none 0 0]) (by rfl) _ _ (by rfl) (by rfl) (by rfl) rfl hrow rfl (by intro c hc; simp at hc; rcases hc with rfl | rfl | rfl <;> rfl) (by omega) (by omega) A4.out.size ?_
      intro v' w6 ho6 hb6 hg6
      obtain ⟨az, cz, rfl, _⟩ := own_sl ho6
      have C4 := hid (A4.out.pushF HN02 HC hrow HX4.out hg6.1 ho6)
      have y0 := C4.out.1.1
      have yf := C4.out.1.2
      refine hK.out _ _ ?_ (fun hHeld => ?_)
      · exact y0
      clear hK K
      (try simp only [Act.put, List.setIfInBounds_toArray, List.set_cons_zero, List.set_cons_succ])
      repeat ((first | refine tk 0 ?_ rfl ?_ ?_ | refine tk 1 ?_ rfl ?_ ?_ | refine tk 2 ?_ rfl ?_ ?_ | refine tk 3 ?_ rfl ?_ ?_ | refine tk 4 ?_ rfl ?_ ?_ | refine tk 5 ?_ rfl ?_ ?_ | refine tk 10 ?_ rfl ?_ ?_ | refine tk 11 ?_ rfl ?_ ?_); rotate_left; (intro wy hSw; (try dsimp only at hSw); (go_simp <;> with_reducible rfl)); (try simp only [List.getElem_toArray, List.getElem_cons_zero, List.getElem_cons_succ, Act.put, List.setIfInBounds_toArray, List.set_cons_zero, List.set_cons_succ]))
      refine wpT_done (by kernel_rfl) ?_
      go_wp2_with fail
      go_roundw
      case rel => exact ⟨k + 1, _, _, _, _, _, _, _, _, a4, hlt, by go_num, ha4, hid (by have := HBN.out; simp; omega), hid HM4.out, hid C4.out.2⟩
      case measure => simp [RowKit.intOf]; omega
    obtain rfl : k = N := by omega
    have HM2 := hid (show P = ((mm, cs), (left t a2, 0)) from HM2.out.trans (by rw [Nat.sub_self]; rfl))
    go_wp2_with fail
    go_ret
    exact ⟨A2.out.tt, .inl ⟨by rw [HM2.out], rfl, vt, vi, vf, vg, vx, ve, vd, a2, ha2, by rw [HM2.out], by rw [HM2.out]; exact A2.out.mo, A2.out.rd⟩⟩
set_option maxRecDepth 100000 in
set_option maxHeartbeats 8000000 in
theorem bsec6_any (w : World) (H M B : Nat) (t : ByteArray) (a : Nat) (vt vi vf vg vx ve vd : Value) (m : Mdl) (cs : List Cd) (h : MS w w H M B t a vt vi vf vg vx ve vd m) (ha : a ≤ t.size) (hs : t.size ≤ 1000000000) (hl : m.globals.length ≤ 1000) :
    Calls Tryz.prog 16 #[.pointer (some ⟨B, 0, none⟩), .int .u8 6, .pointer (some ⟨M, 0, none⟩)] w (PSec H M B t (.int .i64 0) (secM 6 (m, cs) (left t a, 0)).1.1 (secM 6 (m, cs) (left t a, 0)).2 w) := by
  have A0 := hid h
  clear h
  obtain ⟨P, hP⟩ : ∃ P, secM 6 (m, cs) (left t a, 0) = P := ⟨_, rfl⟩
  have HM0 := hid hP.symm
  rw [hP]
  clear hP
  unfold PSec
  go_enter Tryz.func16, Tryz.ntmps16
  go_wp2_with fail
  have HB0 := hid (show m.globals.length ≤ 1000 + 0 from hl)
  clear hl
  have hcf := cntM_facts 8 (by decide) (left t a, 0)
  refine (bcount_any _ B t a 8 A0.out.rd ha hs).mono ?_
  rintro r w1 ⟨ht1, hor1⟩
  have HBD1 := hid (A0.out.bad ht1)
  have HA1 := hid (fun aa hh => A0.out.read (a' := aa) ht1 hh)
  clear ht1
  obtain ⟨v1, s1, hv1⟩ : ∃ v s, cntM 8 (left t a, 0) = (v, s) := ⟨_, _, rfl⟩
  have HM1 := hid (show P = loopM 6 v1.toNat (m, cs) s1 from HM0.out.trans (by rw [secM, if_neg (by decide), show limM 6 = 8 from rfl, hv1]))
  rw [hv1] at hor1
  rw [hv1] at hcf
  clear hv1
  rcases hor1 with ⟨hz, rfl, a1, ha1, hl, hb1⟩ | ⟨hnz, rfl⟩
  case inr =>
    have HN := hid hnz
    clear hnz
    go_wp2_with fail
    exact ⟨rfl, HBD1.out.1, .inr ⟨by rw [HM1.out, loop_st HN.out]; exact HN.out, by rw [HM1.out, loop_st HN.out], HBD1.out.2⟩⟩
  have hs1 : s1 = (left t a1, 0) := Prod.ext hl hz
  subst hs1
  have A1 := hid (HA1.out a1 hb1)
  clear hz hl hb1 HA1 HBD1
  obtain ⟨N, rfl⟩ := Int.eq_ofNat_of_zero_le hcf.1
  have hN : N ≤ 8 := by have := hcf.2.1; omega
  have HM1 := hid (show P = loopM 6 N (m, cs) (left t a1, 0) from HM1.out)
  clear hcf
  go_wp2_with fail
  obtain ⟨m0, hm0⟩ : ∃ m0 : Mdl, m0 = m := ⟨_, rfl⟩
  go_loopw [137] (fun i wr => ∃ (k : Nat) (vt vi vf vg vx ve vd : Value) (mm : Mdl) (aa : Nat), k ≤ N ∧ i = .int .i64 k ∧ aa ≤ t.size ∧ Hid (mm.globals.length ≤ 1000 + k) ∧ Hid (P = loopM 6 (N - k) (mm, cs) (left t aa, 0)) ∧ Hid (MS w wr H M B t aa vt vi vf vg vx ve vd mm)) (fun i _ => N - (RowKit.intOf i).toNat)
  case atStart => exact ⟨0, _, _, _, _, _, _, _, m, a1, Nat.zero_le _, rfl, ha1, HB0, HM1, A1⟩
  case round =>
    clear A0 A1
    obtain ⟨k, vt, vi, vf, vg, vx, ve, vd, mm, a2, hk, rfl, ha2, HBN, HM2, A2⟩ := hrel
    by_cases hlt : k < N
    · have HM2 := hid (show P = LG 6 up6 (N - (k + 1)) (mm, cs) (glbM (left t a2, 0)) from HM2.out.trans (by rw [show N - k = N - (k + 1) + 1 by omega]; exact loop_go rfl rfl))
      obtain ⟨n0, hn0⟩ : ∃ n, mm.globals.length = n := ⟨_, rfl⟩
      obtain ⟨css0, -, hrow⟩ := A2.out.mo.g
      rw [hn0] at hrow
      obtain ⟨ao, cap, rfl, _⟩ := own_sl hrow
      have HN0 := hid hn0
      clear hrow hn0
      have A3 := hid A2.out.drew
      have HM3 := HM2
      go_wp2_with fail
      refine wp_region_tail (S := (fun w' => w'.cell? ⟨M, 6, none⟩ = some (.slice ao n0 cap))) 11 (by kernel_rfl) (by kernel_rfl) ?_ (fun hHeld => ?_)
      · exact A3.out.mo.blk.cell (i := 6) rfl
      repeat ((first | refine tk 0 ?_ rfl ?_ ?_ | refine tk 1 ?_ rfl ?_ ?_ | refine tk 2 ?_ rfl ?_ ?_ | refine tk 3 ?_ rfl ?_ ?_ | refine tk 4 ?_ rfl ?_ ?_ | refine tk 5 ?_ rfl ?_ ?_ | refine tk 9 ?_ rfl ?_ ?_ | refine tk 10 ?_ rfl ?_ ?_); rotate_left; (intro wy hSw; (try dsimp only at hSw); (go_simp <;> with_reducible rfl)); (try simp only [List.getElem_toArray, List.getElem_cons_zero, List.getElem_cons_succ, Act.put, List.setIfInBounds_toArray, List.set_cons_zero, List.set_cons_succ]))
      refine wpT_one (k := 6) rfl (by kernel_rfl) (fun K hK => ?_)
      go_simp
      refine (bglobal_any _ B t a2 A3.out.rd ha2 hs).mono ?_
      rintro r w4 ⟨ht4, hor4⟩
      have HBD4 := hid (A3.out.bad ht4)
      have HA4 := hid (fun aa hh => A3.out.read (a' := aa) ht4 hh)
      clear ht4
      obtain ⟨v4, s4, hv4⟩ : ∃ v s, glbM (left t a2, 0) = (v, s) := ⟨_, _, rfl⟩
      have HM4 := hid (show P = LG 6 up6 (N - (k + 1)) (mm, cs) (v4, s4) from HM3.out.trans (by rw [hv4]))
      rw [hv4] at hor4
      clear hv4
      rcases hor4 with ⟨hz, rfl, a4, ha4, hl, hb4⟩ | ⟨hnz, rfl⟩
      case inr =>
        have HN := hid hnz
        clear hnz
        go_simp
        exact ⟨rfl, HBD4.out.1, .inr ⟨by rw [HM4.out, LG_st HN.out]; exact HN.out, by rw [HM4.out, LG_st HN.out], HBD4.out.2⟩⟩
      have hs4 : s4 = (left t a4, 0) := Prod.ext hl hz
      subst hs4
      have A4 := hid (HA4.out a4 hb4)
      clear hz hl hb4 HA4 HBD4
      have HX4 := hid (show EGb w4 H [.int .u8 v4.1, .bool v4.2.1, .int .i64 v4.2.2] v4 from rfl)
      refine hK.out _ _ ?_ (fun hHeld => ?_)
      · exact A4.out.mo.blk.cell (i := 6) rfl
      clear hK K
      (try simp only [Act.put, List.setIfInBounds_toArray, List.set_cons_zero, List.set_cons_succ])
      refine wpT_one (k := 7) rfl (by kernel_rfl) (fun K hK => ?_)
      go_simp
      refine hK.out _ _ ?_ (fun hHeld => ?_)
      · exact cell_alloc _ (A4.out.mo.blk.cell (i := 6) rfl)
      clear hK K
      (try simp only [Act.put, List.setIfInBounds_toArray, List.set_cons_zero, List.set_cons_succ])
      obtain ⟨css, HC, hrow⟩ := A4.out.mo.g
      have HBN2 := HBN.out
      have HN02 := HN0.out
      rw [HN02] at hrow HBN2
      refine wpT_one (k := 8) rfl (by kernel_rfl) (fun K hK => ?_)
      refine step_one1 elem_globalv (cs := [.int .u8 v4.1, .bool v4.2.1, .int .i64 v4.2.2]) (by rfl) _ _ (by rfl) (by rfl) (by rfl) rfl hrow rfl (by intro c hc; simp at hc; rcases hc with rfl | rfl | rfl <;> rfl) (by omega) (by omega) A4.out.size ?_
      intro v' w6 ho6 hb6 hg6
      obtain ⟨az, cz, rfl, _⟩ := own_sl ho6
      have C4 := hid (A4.out.pushG HN02 HC hrow HX4.out hg6.1 ho6)
      have y0 := C4.out.1.1
      have yf := C4.out.1.2
      refine hK.out _ _ ?_ (fun hHeld => ?_)
      · exact y0
      clear hK K
      (try simp only [Act.put, List.setIfInBounds_toArray, List.set_cons_zero, List.set_cons_succ])
      repeat ((first | refine tk 0 ?_ rfl ?_ ?_ | refine tk 1 ?_ rfl ?_ ?_ | refine tk 2 ?_ rfl ?_ ?_ | refine tk 3 ?_ rfl ?_ ?_ | refine tk 4 ?_ rfl ?_ ?_ | refine tk 5 ?_ rfl ?_ ?_ | refine tk 9 ?_ rfl ?_ ?_ | refine tk 10 ?_ rfl ?_ ?_); rotate_left; (intro wy hSw; (try dsimp only at hSw); (go_simp <;> with_reducible rfl)); (try simp only [List.getElem_toArray, List.getElem_cons_zero, List.getElem_cons_succ, Act.put, List.setIfInBounds_toArray, List.set_cons_zero, List.set_cons_succ]))
      refine wpT_done (by kernel_rfl) ?_
      go_wp2_with fail
      go_roundw
      case rel => exact ⟨k + 1, _, _, _, _, _, _, _, _, a4, hlt, by go_num, ha4, hid (by have := HBN.out; simp; omega), hid HM4.out, hid C4.out.2⟩
      case measure => simp [RowKit.intOf]; omega
    obtain rfl : k = N := by omega
    have HM2 := hid (show P = ((mm, cs), (left t a2, 0)) from HM2.out.trans (by rw [Nat.sub_self]; rfl))
    go_wp2_with fail
    go_ret
    exact ⟨A2.out.tt, .inl ⟨by rw [HM2.out], rfl, vt, vi, vf, vg, vx, ve, vd, a2, ha2, by rw [HM2.out], by rw [HM2.out]; exact A2.out.mo, A2.out.rd⟩⟩
end Go.Proofs.YtakfineljffoaaaGreatDoor
