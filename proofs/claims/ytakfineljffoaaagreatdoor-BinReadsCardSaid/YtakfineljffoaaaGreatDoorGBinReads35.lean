/-
  MODULES READ, the program's reader: sections 4, 5. Conditions: a text in the form's reach. Printed by a program of mine.
-/
import Derived.Test.YtakfineljffoaaaGreatDoorGBinReads30
import Derived.Test.YtakfineljffoaaaGreatDoorGBinReads33
import Derived.Test.YtakfineljffoaaaGreatDoorGBinReads34
namespace Go.Proofs.YtakfineljffoaaaGreatDoor
open Go.RowKit Go.Lib

set_option maxRecDepth 100000 in
set_option maxHeartbeats 8000000 in
theorem bsec4_any (w : World) (H M B : Nat) (t : ByteArray) (a : Nat) (vt vi vf vg vx ve vd : Value) (m : Mdl) (cs : List Cd) (h : MS w w H M B t a vt vi vf vg vx ve vd m) (ha : a ≤ t.size) (hs : t.size ≤ 1000000000) :
    Calls Tryz.prog 16 #[.pointer (some ⟨B, 0, none⟩), .int .u8 4, .pointer (some ⟨M, 0, none⟩)] w (PSec H M B t (.int .i64 0) (secM 4 (m, cs) (left t a, 0)).1.1 (secM 4 (m, cs) (left t a, 0)).2 w) := by
  have A0 := hid h
  clear h
  obtain ⟨P, hP⟩ : ∃ P, secM 4 (m, cs) (left t a, 0) = P := ⟨_, rfl⟩
  have HM0 := hid hP.symm
  rw [hP]
  clear hP
  unfold PSec
  go_enter Tryz.func16, Tryz.ntmps16
  go_wp2_with fail
  have HB0 := hid True.intro
  have hcf := cntM_facts 1 (by decide) (left t a, 0)
  refine (bcount_any _ B t a 1 A0.out.rd ha hs).mono ?_
  rintro r w1 ⟨ht1, hor1⟩
  have HBD1 := hid (A0.out.bad ht1)
  have HA1 := hid (fun aa hh => A0.out.read (a' := aa) ht1 hh)
  clear ht1
  obtain ⟨v1, s1, hv1⟩ : ∃ v s, cntM 1 (left t a, 0) = (v, s) := ⟨_, _, rfl⟩
  have HM1 := hid (show P = loopM 4 v1.toNat (m, cs) s1 from HM0.out.trans (by rw [secM, if_neg (by decide), show limM 4 = 1 from rfl, hv1]))
  rw [hv1] at hor1
  rw [hv1] at hcf
  clear hv1
  rcases hor1 with ⟨hz, rfl, a1, ha1, hl, hb1⟩ | ⟨hnz, rfl⟩
  case inr =>
    have HN := hid hnz
    clear hnz
    go_wp2_with fail
    exact ⟨rfl, HBD1.out.1, .inr ⟨by rw [HM1.out, loop_st HN.out]; exact HN.out, by rw [HM1.out, loop_st HN.out], HBD1.out.2⟩⟩
  have hs1 : s1 = (left t a1, 0) := Prod.ext hl hz
  subst hs1
  have A1 := hid (HA1.out a1 hb1)
  clear hz hl hb1 HA1 HBD1
  obtain ⟨N, rfl⟩ := Int.eq_ofNat_of_zero_le hcf.1
  have hN : N ≤ 1 := by have := hcf.2.1; omega
  have HM1 := hid (show P = loopM 4 N (m, cs) (left t a1, 0) from HM1.out)
  clear hcf
  go_wp2_with fail
  obtain ⟨m0, hm0⟩ : ∃ m0 : Mdl, m0 = m := ⟨_, rfl⟩
  go_loopw [84] (fun i wr => ∃ (k : Nat) (vt vi vf vg vx ve vd : Value) (mm : Mdl) (aa : Nat), k ≤ N ∧ i = .int .i64 k ∧ aa ≤ t.size ∧ Hid (True) ∧ Hid (P = loopM 4 (N - k) (mm, cs) (left t aa, 0)) ∧ Hid (MS w wr H M B t aa vt vi vf vg vx ve vd mm)) (fun i _ => N - (RowKit.intOf i).toNat)
  case atStart => exact ⟨0, _, _, _, _, _, _, _, m, a1, Nat.zero_le _, rfl, ha1, HB0, HM1, A1⟩
  case round =>
    clear A0 A1
    obtain ⟨k, vt, vi, vf, vg, vx, ve, vd, mm, a2, hk, rfl, ha2, HBN, HM2, A2⟩ := hrel
    by_cases hlt : k < N
    · have HM2 := hid (show P = LG 4 up4 (N - (k + 1)) (mm, cs) (tblM (left t a2, 0)) from HM2.out.trans (by rw [show N - k = N - (k + 1) + 1 by omega]; exact loop_go rfl rfl))
      go_wp2_with fail
      refine (bfixed_any _ B t a2 112 6 (by decide) A2.out.rd ha2 hs).mono ?_
      rintro r w3 ⟨ht3, hor3⟩
      have HBD3 := hid (A2.out.bad ht3)
      have HA3 := hid (fun aa hh => A2.out.read (a' := aa) ht3 hh)
      clear ht3
      obtain ⟨s3, hv3⟩ : ∃ s, mustM 112 6 (left t a2, 0) = s := ⟨_, rfl⟩
      have HM3 := hid (show P = LG 4 up4 (N - (k + 1)) (mm, cs) (tblA s3) from HM2.out.trans (by unfold tblM; rw [hv3]))
      rw [hv3] at hor3
      clear hv3
      rcases hor3 with ⟨hz, rfl, a3, ha3, hl, hb3⟩ | ⟨hnz, rfl⟩
      case inr =>
        have HN := hid hnz
        clear hnz
        go_wp2_with fail
        exact ⟨rfl, HBD3.out.1, .inr ⟨by rw [HM3.out, LG_st (by rw [tblA_st HN.out]; exact HN.out), tblA_st HN.out]; exact HN.out, by rw [HM3.out, LG_st (by rw [tblA_st HN.out]; exact HN.out), tblA_st HN.out], HBD3.out.2⟩⟩
      have hs3 : s3 = (left t a3, 0) := Prod.ext hl hz
      subst hs3
      have A3 := hid (HA3.out a3 hb3)
      clear hz hl hb3 HA3 HBD3
      go_wp2_with fail
      refine (bfixed_any _ B t a3 0 6 (by decide) A3.out.rd ha3 hs).mono ?_
      rintro r w4 ⟨ht4, hor4⟩
      have HBD4 := hid (A3.out.bad ht4)
      have HA4 := hid (fun aa hh => A3.out.read (a' := aa) ht4 hh)
      clear ht4
      obtain ⟨s4, hv4⟩ : ∃ s, mustM 0 6 (left t a3, 0) = s := ⟨_, rfl⟩
      have HM4 := hid (show P = LG 4 up4 (N - (k + 1)) (mm, cs) (cntM 16 s4) from HM3.out.trans (by unfold tblA; rw [hv4]))
      rw [hv4] at hor4
      clear hv4
      rcases hor4 with ⟨hz, rfl, a4, ha4, hl, hb4⟩ | ⟨hnz, rfl⟩
      case inr =>
        have HN := hid hnz
        clear hnz
        go_wp2_with fail
        exact ⟨rfl, HBD4.out.1, .inr ⟨by rw [HM4.out, LG_st (by rw [cnt_st HN.out]; exact HN.out), cnt_st HN.out]; exact HN.out, by rw [HM4.out, LG_st (by rw [cnt_st HN.out]; exact HN.out), cnt_st HN.out], HBD4.out.2⟩⟩
      have hs4 : s4 = (left t a4, 0) := Prod.ext hl hz
      subst hs4
      have A4 := hid (HA4.out a4 hb4)
      clear hz hl hb4 HA4 HBD4
      go_wp2_with fail
      refine (bcount_any _ B t a4 16 A4.out.rd ha4 hs).mono ?_
      rintro r w5 ⟨ht5, hor5⟩
      have HBD5 := hid (A4.out.bad ht5)
      have HA5 := hid (fun aa hh => A4.out.read (a' := aa) ht5 hh)
      clear ht5
      obtain ⟨v5, s5, hv5⟩ : ∃ v s, cntM 16 (left t a4, 0) = (v, s) := ⟨_, _, rfl⟩
      have HM5 := hid (show P = LG 4 up4 (N - (k + 1)) (mm, cs) (v5, s5) from HM4.out.trans (by rw [hv5]))
      rw [hv5] at hor5
      clear hv5
      rcases hor5 with ⟨hz, rfl, a5, ha5, hl, hb5⟩ | ⟨hnz, rfl⟩
      case inr =>
        have HN := hid hnz
        clear hnz
        go_wp2_with fail
        exact ⟨rfl, HBD5.out.1, .inr ⟨by rw [HM5.out, LG_st HN.out]; exact HN.out, by rw [HM5.out, LG_st HN.out], HBD5.out.2⟩⟩
      have hs5 : s5 = (left t a5, 0) := Prod.ext hl hz
      subst hs5
      have A5 := hid (HA5.out a5 hb5)
      clear hz hl hb5 HA5 HBD5
      have y0 := A5.out.mo.blk.cell (i := 3) rfl
      have yf := A5.out.mo.blk.free
      go_wp2_with fail
      go_roundw
      case rel => exact ⟨k + 1, _, _, _, _, _, _, _, _, a5, hlt, by go_num, ha5, hid True.intro, hid HM5.out, hid (A5.out.set_table v5)⟩
      case measure => simp [RowKit.intOf]; omega
    obtain rfl : k = N := by omega
    have HM2 := hid (show P = ((mm, cs), (left t a2, 0)) from HM2.out.trans (by rw [Nat.sub_self]; rfl))
    go_wp2_with fail
    go_ret
    exact ⟨A2.out.tt, .inl ⟨by rw [HM2.out], rfl, vt, vi, vf, vg, vx, ve, vd, a2, ha2, by rw [HM2.out], by rw [HM2.out]; exact A2.out.mo, A2.out.rd⟩⟩
set_option maxRecDepth 100000 in
set_option maxHeartbeats 8000000 in
theorem bsec5_any (w : World) (H M B : Nat) (t : ByteArray) (a : Nat) (vt vi vf vg vx ve vd : Value) (m : Mdl) (cs : List Cd) (h : MS w w H M B t a vt vi vf vg vx ve vd m) (ha : a ≤ t.size) (hs : t.size ≤ 1000000000) :
    Calls Tryz.prog 16 #[.pointer (some ⟨B, 0, none⟩), .int .u8 5, .pointer (some ⟨M, 0, none⟩)] w (PSec H M B t (.int .i64 0) (secM 5 (m, cs) (left t a, 0)).1.1 (secM 5 (m, cs) (left t a, 0)).2 w) := by
  have A0 := hid h
  clear h
  obtain ⟨P, hP⟩ : ∃ P, secM 5 (m, cs) (left t a, 0) = P := ⟨_, rfl⟩
  have HM0 := hid hP.symm
  rw [hP]
  clear hP
  unfold PSec
  go_enter Tryz.func16, Tryz.ntmps16
  go_wp2_with fail
  have HB0 := hid True.intro
  have hcf := cntM_facts 1 (by decide) (left t a, 0)
  refine (bcount_any _ B t a 1 A0.out.rd ha hs).mono ?_
  rintro r w1 ⟨ht1, hor1⟩
  have HBD1 := hid (A0.out.bad ht1)
  have HA1 := hid (fun aa hh => A0.out.read (a' := aa) ht1 hh)
  clear ht1
  obtain ⟨v1, s1, hv1⟩ : ∃ v s, cntM 1 (left t a, 0) = (v, s) := ⟨_, _, rfl⟩
  have HM1 := hid (show P = loopM 5 v1.toNat (m, cs) s1 from HM0.out.trans (by rw [secM, if_neg (by decide), show limM 5 = 1 from rfl, hv1]))
  rw [hv1] at hor1
  rw [hv1] at hcf
  clear hv1
  rcases hor1 with ⟨hz, rfl, a1, ha1, hl, hb1⟩ | ⟨hnz, rfl⟩
  case inr =>
    have HN := hid hnz
    clear hnz
    go_wp2_with fail
    exact ⟨rfl, HBD1.out.1, .inr ⟨by rw [HM1.out, loop_st HN.out]; exact HN.out, by rw [HM1.out, loop_st HN.out], HBD1.out.2⟩⟩
  have hs1 : s1 = (left t a1, 0) := Prod.ext hl hz
  subst hs1
  have A1 := hid (HA1.out a1 hb1)
  clear hz hl hb1 HA1 HBD1
  obtain ⟨N, rfl⟩ := Int.eq_ofNat_of_zero_le hcf.1
  have hN : N ≤ 1 := by have := hcf.2.1; omega
  have HM1 := hid (show P = loopM 5 N (m, cs) (left t a1, 0) from HM1.out)
  clear hcf
  go_wp2_with fail
  obtain ⟨m0, hm0⟩ : ∃ m0 : Mdl, m0 = m := ⟨_, rfl⟩
  go_loopw [100] (fun i wr => ∃ (k : Nat) (vt vi vf vg vx ve vd : Value) (mm : Mdl) (aa : Nat), k ≤ N ∧ i = .int .i64 k ∧ aa ≤ t.size ∧ Hid (True) ∧ Hid (P = loopM 5 (N - k) (mm, cs) (left t aa, 0)) ∧ Hid (MS w wr H M B t aa vt vi vf vg vx ve vd mm)) (fun i _ => N - (RowKit.intOf i).toNat)
  case atStart => exact ⟨0, _, _, _, _, _, _, _, m, a1, Nat.zero_le _, rfl, ha1, HB0, HM1, A1⟩
  case round =>
    clear A0 A1
    obtain ⟨k, vt, vi, vf, vg, vx, ve, vd, mm, a2, hk, rfl, ha2, HBN, HM2, A2⟩ := hrel
    by_cases hlt : k < N
    · have HM2 := hid (show P = LG 5 up5 (N - (k + 1)) (mm, cs) (memM (left t a2, 0)) from HM2.out.trans (by rw [show N - k = N - (k + 1) + 1 by omega]; exact loop_go rfl rfl))
      go_wp2_with fail
      refine (bfixed_any _ B t a2 1 6 (by decide) A2.out.rd ha2 hs).mono ?_
      rintro r w3 ⟨ht3, hor3⟩
      have HBD3 := hid (A2.out.bad ht3)
      have HA3 := hid (fun aa hh => A2.out.read (a' := aa) ht3 hh)
      clear ht3
      obtain ⟨s3, hv3⟩ : ∃ s, mustM 1 6 (left t a2, 0) = s := ⟨_, rfl⟩
      have HM3 := hid (show P = LG 5 up5 (N - (k + 1)) (mm, cs) (memA s3) from HM2.out.trans (by unfold memM; rw [hv3]))
      rw [hv3] at hor3
      clear hv3
      rcases hor3 with ⟨hz, rfl, a3, ha3, hl, hb3⟩ | ⟨hnz, rfl⟩
      case inr =>
        have HN := hid hnz
        clear hnz
        go_wp2_with fail
        exact ⟨rfl, HBD3.out.1, .inr ⟨by rw [HM3.out, LG_st (by rw [memA_st HN.out]; exact HN.out), memA_st HN.out]; exact HN.out, by rw [HM3.out, LG_st (by rw [memA_st HN.out]; exact HN.out), memA_st HN.out], HBD3.out.2⟩⟩
      have hs3 : s3 = (left t a3, 0) := Prod.ext hl hz
      subst hs3
      have A3 := hid (HA3.out a3 hb3)
      clear hz hl hb3 HA3 HBD3
      go_wp2_with fail
      refine (bnumber_any _ B t a3 A3.out.rd ha3 hs).mono ?_
      rintro r w4 ⟨ht4, hor4⟩
      have HBD4 := hid (A3.out.bad ht4)
      have HA4 := hid (fun aa hh => A3.out.read (a' := aa) ht4 hh)
      clear ht4
      obtain ⟨v4, s4, hv4⟩ : ∃ v s, numM (left t a3, 0) = (v, s) := ⟨_, _, rfl⟩
      have HM4 := hid (show P = LG 5 up5 (N - (k + 1)) (mm, cs) (memB v4 s4) from HM3.out.trans (by unfold memA; rw [hv4]))
      rw [hv4] at hor4
      clear hv4
      rcases hor4 with ⟨hz, rfl, a4, ha4, hl, hb4⟩ | ⟨hnz, rfl⟩
      case inr =>
        have HN := hid hnz
        clear hnz
        go_wp2_with fail
        exact ⟨rfl, HBD4.out.1, .inr ⟨by rw [HM4.out, LG_st (by rw [memB_st HN.out]; exact HN.out), memB_st HN.out]; exact HN.out, by rw [HM4.out, LG_st (by rw [memB_st HN.out]; exact HN.out), memB_st HN.out], HBD4.out.2⟩⟩
      have hs4 : s4 = (left t a4, 0) := Prod.ext hl hz
      subst hs4
      have A4 := hid (HA4.out a4 hb4)
      clear hz hl hb4 HA4 HBD4
      go_wp2_with fail
      refine (bnumber_any _ B t a4 A4.out.rd ha4 hs).mono ?_
      rintro r w5 ⟨ht5, hor5⟩
      have HBD5 := hid (A4.out.bad ht5)
      have HA5 := hid (fun aa hh => A4.out.read (a' := aa) ht5 hh)
      clear ht5
      obtain ⟨v5, s5, hv5⟩ : ∃ v s, numM (left t a4, 0) = (v, s) := ⟨_, _, rfl⟩
      have HM5 := hid (show P = LG 5 up5 (N - (k + 1)) (mm, cs) (memC v4 v5 s5) from HM4.out.trans (by unfold memB; rw [hv5]))
      rw [hv5] at hor5
      clear hv5
      rcases hor5 with ⟨hz, rfl, a5, ha5, hl, hb5⟩ | ⟨hnz, rfl⟩
      case inr =>
        have HN := hid hnz
        clear hnz
        go_wp2_with fail
        exact ⟨rfl, HBD5.out.1, .inr ⟨by rw [HM5.out, LG_st (by rw [memC_st HN.out]; exact HN.out), memC_st HN.out]; exact HN.out, by rw [HM5.out, LG_st (by rw [memC_st HN.out]; exact HN.out), memC_st HN.out], HBD5.out.2⟩⟩
      have hs5 : s5 = (left t a5, 0) := Prod.ext hl hz
      subst hs5
      have A5 := hid (HA5.out a5 hb5)
      clear hz hl hb5 HA5 HBD5
      have y4 := A5.out.mo.blk.cell (i := 4) rfl
      have y5 := A5.out.mo.blk.cell (i := 5) rfl
      have yf := A5.out.mo.blk.free
      have A6 := hid ((A5.out.set_pages v4).set_most v5)
      have z5 := A6.out.mo.blk.cell (i := 5) rfl
      go_wp2_with fail
      have HM5 := hid (show P = LG 5 up5 (N - (k + 1)) (mm, cs) (memD v4 v5 (sayM (decide (8 < v5)) 2 (left t a5, 0))) from HM5.out)
      refine (throw_any _ _ _ _).mono ?_
      rintro r wt (⟨hq, rfl, hwt⟩ | ⟨hq, rfl, hwt⟩)
      case inl =>
        have hwt := hwt.symm
        subst hwt
        have HQ := hid (show P = LG 5 up5 (N - (k + 1)) (mm, cs) (memD v4 v5 (left t a5, 2)) from HM5.out.trans (by rw [show decide (8 < v5) = true from decide_eq_true (by have := of_decide_eq_true hq; omega), say_yes rfl]))
        clear hq
        go_wp2_with fail
        have HN : Hid ((2 : Int) ≠ 0) := hid (by decide)
        exact ⟨rfl, A6.out.tt, .inr ⟨by rw [HQ.out, LG_st (by rw [memD_st HN.out]; exact HN.out), memD_st HN.out]; exact HN.out, by rw [HQ.out, LG_st (by rw [memD_st HN.out]; exact HN.out), memD_st HN.out], A6.out.m11⟩⟩
      have hwt := hwt.symm
      subst hwt
      have HM5 := hid (show P = LG 5 up5 (N - (k + 1)) (mm, cs) (memD v4 v5 (left t a5, 0)) from HM5.out.trans (by rw [show decide (8 < v5) = false from decide_eq_false (by have := of_decide_eq_false hq; omega), say_no]))
      clear hq
      have HM5 := hid (show P = LG 5 up5 (N - (k + 1)) (mm, cs) ((v4, v5), sayM (decide (v5 < v4)) 4 (left t a5, 0)) from HM5.out)
      have A7 := hid A6.out.drew
      go_wp2_with fail
      refine wp_region_tail (S := (fun w' => w'.cell? ⟨M, 4, none⟩ = some (.int .i64 v4) ∧ w'.cell? ⟨M, 5, none⟩ = some (.int .i64 v5))) 10 (by kernel_rfl) (by kernel_rfl) ?_ (fun hHeld => ?_)
      · exact ⟨A7.out.mo.blk.cell (i := 4) rfl, A7.out.mo.blk.cell (i := 5) rfl⟩
      repeat ((first | refine tk 0 ?_ rfl ?_ ?_ | refine tk 1 ?_ rfl ?_ ?_ | refine tk 2 ?_ rfl ?_ ?_ | refine tk 3 ?_ rfl ?_ ?_ | refine tk 4 ?_ rfl ?_ ?_ | refine tk 5 ?_ rfl ?_ ?_ | refine tk 6 ?_ rfl ?_ ?_ | refine tk 7 ?_ rfl ?_ ?_ | refine tk 8 ?_ rfl ?_ ?_ | refine tk 9 ?_ rfl ?_ ?_); rotate_left; (intro wy hSw; (try dsimp only at hSw); (go_simp <;> with_reducible rfl)); (try simp only [List.getElem_toArray, List.getElem_cons_zero, List.getElem_cons_succ, Act.put, List.setIfInBounds_toArray, List.set_cons_zero, List.set_cons_succ]))
      refine wpT_done (by kernel_rfl) ?_
      go_wp2_with fail
      refine (throw_any _ _ _ _).mono ?_
      rintro r wt (⟨hq, rfl, hwt⟩ | ⟨hq, rfl, hwt⟩)
      case inl =>
        have hwt := hwt.symm
        subst hwt
        have HQ := hid (show P = LG 5 up5 (N - (k + 1)) (mm, cs) ((v4, v5), (left t a5, 4)) from HM5.out.trans (by rw [show decide (v5 < v4) = true from decide_eq_true (by have := of_decide_eq_true hq; omega), say_yes rfl]))
        clear hq
        go_wp2_with fail
        have HN : Hid ((4 : Int) ≠ 0) := hid (by decide)
        exact ⟨rfl, A7.out.tt, .inr ⟨by rw [HQ.out, LG_st HN.out]; exact HN.out, by rw [HQ.out, LG_st HN.out], A7.out.m11⟩⟩
      have hwt := hwt.symm
      subst hwt
      have HM5 := hid (show P = LG 5 up5 (N - (k + 1)) (mm, cs) ((v4, v5), (left t a5, 0)) from HM5.out.trans (by rw [show decide (v5 < v4) = false from decide_eq_false (by have := of_decide_eq_false hq; omega), say_no]))
      clear hq
      go_wp2_with fail
      go_roundw
      case rel => exact ⟨k + 1, _, _, _, _, _, _, _, _, a5, hlt, by go_num, ha5, hid True.intro, hid HM5.out, hid A7.out⟩
      case measure => simp [RowKit.intOf]; omega
    obtain rfl : k = N := by omega
    have HM2 := hid (show P = ((mm, cs), (left t a2, 0)) from HM2.out.trans (by rw [Nat.sub_self]; rfl))
    go_wp2_with fail
    go_ret
    exact ⟨A2.out.tt, .inl ⟨by rw [HM2.out], rfl, vt, vi, vf, vg, vx, ve, vd, a2, ha2, by rw [HM2.out], by rw [HM2.out]; exact A2.out.mo, A2.out.rd⟩⟩
end Go.Proofs.YtakfineljffoaaaGreatDoor
namespace Go.Proofs.YtakfineljffoaaaGreatDoor
open Go.RowKit Go.Lib

set_option maxRecDepth 100000 in
set_option maxHeartbeats 8000000 in
theorem csec7_any (w : World) (H M K B : Nat) (all : Int) (s : SB) (vt vi vf vg vx ve vd kv : Value) (m : Mdl) (cs : List Cd) (h : RS w w H M K B all s vt vi vf vg vx ve vd kv m cs) (hs : okSc s) (hl : m.exports.length ≤ 1000) :
    Calls Tryz.prog 24 #[.pointer (some ⟨B, 0, none⟩), .int .i64 7, .pointer (some ⟨M, 0, none⟩), .pointer (some ⟨K, 0, none⟩)] w fun e w' => e = .returned (.tuple #[]) ∧ ∃ vt vi vf vg vx ve vd kv, RS w w' H M K B all (secM 7 (m, cs) s).2 vt vi vf vg vx ve vd kv (secM 7 (m, cs) s).1.1 (secM 7 (m, cs) s).1.2 := by
  have A0 := hid h
  have S0 := hid hs
  have HB0 := hid (show m.exports.length ≤ 1000 + 0 from hl)
  clear h hs hl
  obtain ⟨P, hP⟩ : ∃ P, secM 7 (m, cs) s = P := ⟨_, rfl⟩
  have HM0 := hid hP.symm
  rw [hP]
  clear hP
  have LB0 := hid (show Below w.heap.size w (w.alloc (.cells #[.int .i64 0, .int .i64 16, .int .i64 16, .int .i64 16, .int .i64 1, .int .i64 1, .int .i64 8, .int .i64 8, .int .i64 0, .int .i64 4, .int .i64 16, .int .i64 4] 114)) from (Below.refl _ _).alloc (Nat.le_refl _) _)
  have A0 := hid (A0.out.below LB0.out)
  clear LB0
  go_enter Tryz.func24, Tryz.ntmps24
  go_wp2_with fail
  have hcf := cntM_facts 8 (by decide) s
  refine (ccount_any _ B all s 8 A0.out.cu S0.out).mono ?_
  rintro r w1 ⟨hr, h1, t1⟩
  have hle := cnt_le 8 (by decide) s
  obtain ⟨v1, s1, hv1⟩ : ∃ vz sz, cntM 8 s = (vz, sz) := ⟨_, _, rfl⟩
  have HM1 := hid (show P = loopM 7 v1.toNat (m, cs) s1 from HM0.out.trans (by rw [secM, if_neg (by decide), show limM 7 = 8 from rfl, hv1]))
  rw [hv1] at hr h1 hle
  rw [hv1] at hcf
  subst hr
  have A1 := hid (A0.out.read t1 h1)
  have S1 := hid (S0.out.le hle)
  clear h1 t1 hle hv1
  obtain ⟨N, rfl⟩ := Int.eq_ofNat_of_zero_le hcf.1
  have hN : N ≤ 16 := by have := hcf.2.1; omega
  have HM1 := hid (show P = loopM 7 N (m, cs) s1 from HM1.out)
  clear hcf
  go_wp2_with fail
  obtain ⟨m0, hm0⟩ : ∃ m0 : Mdl, m0 = m := ⟨_, rfl⟩
  go_loopw [36] (fun i wr => ∃ (k : Nat) (vt vi vf vg vx ve vd kv : Value) (mm : Mdl) (cc : List Cd) (sz : SB), k ≤ N ∧ i = .int .i64 k ∧ Hid (mm.exports.length ≤ 1000 + k) ∧ Hid (okSc sz) ∧ Hid (P = loopM 7 (N - k) (mm, cc) sz) ∧ Hid (RS w wr H M K B all sz vt vi vf vg vx ve vd kv mm cc)) (fun i _ => N - (RowKit.intOf i).toNat)
  case atStart => exact ⟨0, _, _, _, _, _, _, _, _, m, cs, s1, Nat.zero_le _, rfl, HB0, S1, HM1, A1⟩
  case round =>
    clear A0 A1 S1 S0 HM0 HM1
    obtain ⟨k, vt, vi, vf, vg, vx, ve, vd, kv, mm, cc, s2, hk, rfl, HBN, S2, HM2, A2⟩ := hrel
    have y2 := A2.out.cu.cell (i := 2) rfl
    by_cases hlt : k < N
    · by_cases hz : s2.2 ≠ 0
      · have hz2 : (s2.2 != 0) = true := by simpa using hz
        have HM3 := hid (show P = ((mm, cc), s2) from HM2.out.trans (loop_st hz))
        clear hz
        go_wp2_with fail
        first | go_end0 | refine bodyPost_ret (results_none rfl _ _ _) rfl ?_
        exact ⟨rfl, vt, vi, vf, vg, vx, ve, vd, kv, by rw [HM3.out]; exact A2.out⟩
      have hz2 : (s2.2 != 0) = false := by simpa using hz
      have HM2 := hid (show P = LG 7 up7 (N - (k + 1)) (mm, cc) (expM s2) from HM2.out.trans (by rw [show N - k = N - (k + 1) + 1 by omega]; exact loop_go (Classical.byContradiction hz) rfl))
      clear hz
      obtain ⟨n0, hn0⟩ : ∃ n, mm.exports.length = n := ⟨_, rfl⟩
      obtain ⟨css0, -, hrow⟩ := A2.out.mo.x
      rw [hn0] at hrow
      obtain ⟨ao, cap, rfl, _⟩ := own_sl hrow
      have HN0 := hid hn0
      clear hrow hn0
      go_wp2_with fail
      refine (cname_any _ B all s2 A2.out.cu S2.out).mono ?_
      rintro r w3 ⟨hr, h3, t3⟩
      have hle := nam_le s2
      obtain ⟨v3, s3, hv3⟩ : ∃ vz sz, namM s2 = (vz, sz) := ⟨_, _, rfl⟩
      have HM3 := hid (show P = LG 7 up7 (N - (k + 1)) (mm, cc) (expB v3 s3) from HM2.out.trans (by unfold expM; rw [hv3]))
      rw [hv3] at hr h3 hle
      subst hr
      have A3 := hid (A2.out.read t3 h3)
      have S3 := hid (S2.out.le hle)
      clear h3 t3 hle hv3
      have HS3 := A3
      have A3 := hid (RX.new A3.out #[.string v3, .int .i64 0] 88)
      go_wp2_with fail
      generalize w3.heap.size = X at *
      have HRL := hid (show ∀ j, (Value.slice ao n0 cap).ownBlock = some j → j < w3.heap.size from fun j hj => by obtain ⟨css1, -, hr1⟩ := HS3.out.mo.x; exact (World.ownsRow.lt hr1 j hj).2)
      clear HS3
      refine (cmust_any _ B all s3 0 6 A3.out.cu S3.out).mono ?_
      rintro r w4 ⟨hr, h4, t4⟩
      have hle := mst_le 0 6 s3
      obtain ⟨s4, hv4⟩ : ∃ sz, mustM 0 6 s3 = sz := ⟨_, rfl⟩
      have HM4 := hid (show P = LG 7 up7 (N - (k + 1)) (mm, cc) (expC v3 s4) from HM3.out.trans (by unfold expB; rw [hv4]))
      rw [hv4] at h4 hle
      subst hr
      have A4 := hid (A3.out.read t4 h4)
      have S4 := hid (S3.out.le hle)
      clear h4 t4 hle hv4
      go_wp2_with fail
      refine (cnum_any _ B all s4 A4.out.cu S4.out).mono ?_
      rintro r w5 ⟨hr, h5, t5⟩
      have hle := num_le s4
      obtain ⟨v5, s5, hv5⟩ : ∃ vz sz, numM s4 = (vz, sz) := ⟨_, _, rfl⟩
      have HM5 := hid (show P = LG 7 up7 (N - (k + 1)) (mm, cc) ((v3, v5), s5) from HM4.out.trans (by unfold expC; rw [hv5]))
      rw [hv5] at hr h5 hle
      subst hr
      have A5 := hid (A4.out.read t5 h5)
      have S5 := hid (S4.out.le hle)
      clear h5 t5 hle hv5
      have y1 := A5.out.x.cell (i := 1) rfl
      have yf := A5.out.x.free
      go_wp2_with fail
      have A6 := hid (A5.out.set 1 (.int .i64 v5))
      clear y1 yf
      have HX6 := hid (show ∀ wx, EIm wx H [.string v3, .int .i64 v5] (v3, v5) from fun _ => rfl)
      have A6 := hid A6.out.drew
      go_wp2_with fail
      refine wp_region_tail (S := (fun w' => w'.cell? ⟨M, 7, none⟩ = some (.slice ao n0 cap) ∧ w'.cell? ⟨X, 0, none⟩ = some (.string v3) ∧ w'.cell? ⟨X, 1, none⟩ = some (.int .i64 v5))) 10 (by kernel_rfl) (by kernel_rfl) ?_ (fun hHeld => ?_)
      · exact ⟨A6.out.ms.mo.blk.cell (i := 7) rfl, A6.out.x.cell (i := 0) rfl, A6.out.x.cell (i := 1) rfl⟩
      repeat ((first | refine tk 0 ?_ rfl ?_ ?_ | refine tk 1 ?_ rfl ?_ ?_ | refine tk 2 ?_ rfl ?_ ?_ | refine tk 3 ?_ rfl ?_ ?_ | refine tk 4 ?_ rfl ?_ ?_ | refine tk 5 ?_ rfl ?_ ?_ | refine tk 8 ?_ rfl ?_ ?_ | refine tk 9 ?_ rfl ?_ ?_); rotate_left; (intro wy hSw; (try dsimp only at hSw); (go_simp <;> with_reducible rfl)); (try simp only [List.getElem_toArray, List.getElem_cons_zero, List.getElem_cons_succ, Act.put, List.setIfInBounds_toArray, List.set_cons_zero, List.set_cons_succ]))
      generalize World.drew (w5.setCell ⟨X, 1, none⟩ (.int .i64 v5)) = wz at *
      refine wpT_one (k := 6) rfl (by kernel_rfl) (fun K hK => ?_)
      go_simp
      refine hK.out _ _ ?_ (fun hHeld => ?_)
      · exact ⟨cell_alloc _ (A6.out.ms.mo.blk.cell (i := 7) rfl), cell_alloc _ (A6.out.x.cell (i := 0) rfl), cell_alloc _ (A6.out.x.cell (i := 1) rfl)⟩
      clear hK K
      (try simp only [Act.put, List.setIfInBounds_toArray, List.set_cons_zero, List.set_cons_succ])
      obtain ⟨css, HC, hrow⟩ := A6.out.ms.mo.x
      have HBN2 := HBN.out
      have HN02 := HN0.out
      rw [HN02] at hrow HBN2
      refine wpT_one (k := 7) rfl (by kernel_rfl) (fun K hK => ?_)
      refine step_one1 elem_exportv (cs := [.string v3, .int .i64 v5]) (by rfl) _ _ (by rfl) (by rfl) (by rfl) rfl hrow rfl (by intro c hc; simp at hc; rcases hc with rfl | rfl <;> rfl) (by omega) (by omega) A6.out.ms.size ?_
      intro v' w6 ho6 hb6 hg6
      obtain ⟨az, cz, rfl, _⟩ := own_sl ho6
      have C4 := hid (A6.out.ms.pushX HN02 HC hrow (HX6.out _) hg6.1 ho6)
      have y0 := C4.out.1.1
      have yf := C4.out.1.2
      have hxk := A6.out.xkeep HRL.out hg6.1
      refine hK.out _ _ ?_ (fun hHeld => ?_)
      · exact ⟨y0, hxk.cell (i := 0) rfl, hxk.cell (i := 1) rfl⟩
      clear hK K
      (try simp only [Act.put, List.setIfInBounds_toArray, List.set_cons_zero, List.set_cons_succ])
      repeat ((first | refine tk 8 ?_ rfl ?_ ?_ | refine tk 9 ?_ rfl ?_ ?_); rotate_left; (intro wy hSw; (try dsimp only at hSw); (go_simp <;> with_reducible rfl)); (try simp only [List.getElem_toArray, List.getElem_cons_zero, List.getElem_cons_succ, Act.put, List.setIfInBounds_toArray, List.set_cons_zero, List.set_cons_succ]))
      refine wpT_done (by kernel_rfl) ?_
      go_wp2_with fail
      go_roundw
      case rel => exact ⟨k + 1, _, _, _, _, _, _, _, _, _, _, s5, hlt, by go_num, hid (by have := HBN.out; simp; omega), S5, hid HM5.out, hid C4.out.2⟩
      case measure => simp [RowKit.intOf]; omega
    have HM3 := hid (show P = ((mm, cc), s2) from HM2.out.trans (by rw [show N - k = 0 by omega]; rfl))
    go_wp2_with fail
    first | go_end0 | refine bodyPost_ret (results_none rfl _ _ _) rfl ?_
    exact ⟨rfl, vt, vi, vf, vg, vx, ve, vd, kv, by rw [HM3.out]; exact A2.out⟩
end Go.Proofs.YtakfineljffoaaaGreatDoor
namespace Go.Proofs.YtakfineljffoaaaGreatDoor
open Go.RowKit Go.Lib

theorem empty_size (t : ByteArray) : (!t.toList.isEmpty) = decide (t.size ≠ 0) := by
  rw [ByteArray.toList_eq]
  have h : t.data.toList.length = t.size := by simp
  cases hl : t.data.toList with
  | nil =>
    rw [hl] at h
    have h0 : t.size = 0 := h.symm
    simp [h0]
  | cons a l =>
    rw [hl] at h
    have h0 : t.size ≠ 0 := by rw [← h]; simp
    simp [h0]
theorem pie_say {s : SB} {v : Int} {s1 : SB} (hn : numM s = (v, s1)) :
    ((sayM (decide ((s1.1.size : Int) < v)) 3 s1).2 ≠ 0 → pieM s = (⟨#[]⟩, sayM (decide ((s1.1.size : Int) < v)) 3 s1)) ∧
    ((sayM (decide ((s1.1.size : Int) < v)) 3 s1).2 = 0 → s1.2 = 0 ∧ v ≤ s1.1.size ∧ sayM (decide ((s1.1.size : Int) < v)) 3 s1 = s1 ∧ pieM s = (s1.1.extract 0 v.toNat, (s1.1.extract v.toNat s1.1.size, 0))) := by
  unfold pieM
  rw [hn]
  simp only
  by_cases hb : s1.2 ≠ 0
  · rw [say_on hb, if_pos hb]
    exact ⟨fun _ => rfl, fun h => absurd h hb⟩
  · rw [if_neg hb]
    have hb0 : s1.2 = 0 := Classical.byContradiction hb
    by_cases hv : (s1.1.size : Int) < v
    · rw [if_pos hv, decide_eq_true hv, say_yes hb0]
      exact ⟨fun _ => rfl, fun h => absurd h (by show (3 : Int) ≠ 0; decide)⟩
    · rw [if_neg hv, decide_eq_false hv, say_no]
      exact ⟨fun h => absurd h hb, fun _ => ⟨hb0, by omega, rfl, rfl⟩⟩
theorem with_good {α : Type} {F : SB → α × SB} {d : α} {s : SB} {v : Int} {s1 : SB} {n : Nat} (hn : numM s = (v, s1)) (hz : s1.2 = 0) (hp : pieM s = (s1.1.extract 0 n, (s1.1.extract n s1.1.size, 0))) : withM F d s = ((F (s1.1.extract 0 n, 0)).1, (skipM n (dneM (F (s1.1.extract 0 n, 0)).2).2 s1).2) := by
  unfold withM withB
  rw [hp, hn]
  simp only
  rw [if_neg (by simp)]
  have e : ∀ x : Int, skipM n x s1 = if x ≠ 0 then (false, (s1.1, x)) else (true, (s1.1.extract n s1.1.size, 0)) := fun x => by unfold skipM; rw [if_neg (by simp [hz])]
  rw [e]
  by_cases hq : (dneM (F (s1.1.extract 0 n, 0)).2).2 ≠ 0
  · rw [if_pos hq, if_pos hq]
  · rw [if_neg hq, if_neg hq]
theorem with_bad {α : Type} {F : SB → α × SB} {d : α} {s : SB} (h : (pieM s).2.2 ≠ 0) : withM F d s = (d, (pieM s).2) := by
  unfold withM
  rw [if_pos h]
set_option maxRecDepth 100000 in
set_option maxHeartbeats 4000000 in
theorem cwithin_any {α : Type} (w : World) (B : Nat) (all : Int) (s : SB) (f : FuncId) (cap : Array Value) (F : SB → α × SB) (d : α) (Fcl : Nat → Prop) (Pre : World → Prop) (Post : ByteArray → World → Prop)
    (hcf : ∀ (args : Array Value) (wx : World), (callFunc f args).run Tryz.prog wx = .ok (.enter f args) wx) (h : CuB w B all s) (hs : okSc s) (hB : ¬ Fcl B) (hle : ∀ q, (F q).2.1.size ≤ q.1.size) (hp : Pre w) (hpre : ∀ wa wb, KT 58 wa wb → Pre wa → Pre wb) (hpost : ∀ p wa wb, KT 58 wa wb → Post p wa → Post p wb)
    (hcl : ∀ (wx : World) (D : Nat) (p : ByteArray), w.heap.size ≤ D → D ≠ B → p.size ≤ s.1.size → Pre wx → Touch (fun k => k = B) w wx → CuB wx D p.size (p, 0) → Calls Tryz.prog f (#[.pointer (some ⟨D, 0, none⟩)] ++ cap) wx (fun e w' => e = .returned (.tuple #[]) ∧ CuB w' D p.size (F (p, 0)).2 ∧ Post p w' ∧ Touch (fun k => k = D ∨ Fcl k) wx w')) :
    Calls Tryz.prog 22 #[.pointer (some ⟨B, 0, none⟩), .func (.func f) #[] cap] w fun e w' => e = .returned (.tuple #[]) ∧ CuB w' B all (withM F d s).2 ∧ (((pieM s).2.2 ≠ 0 ∧ Pre w') ∨ ((pieM s).2.2 = 0 ∧ Post (pieM s).1 w')) ∧ Touch (fun k => k = B ∨ Fcl k) w w' := by
  have C0 := hid h
  have S0 := hid hs
  have P0 := hid hp
  have HPR := hid hpre
  have HPO := hid hpost
  have HCL := hid hcl
  have HLE := hid hle
  have HB := hid hB
  have hnf := numM_facts s
  clear h hs hp hpre hpost hcl hle hB
  obtain ⟨v1, s1, hv1⟩ : ∃ vz sz, numM s = (vz, sz) := ⟨_, _, rfl⟩
  have HPS := hid (pie_say hv1)
  have HWG := hid (fun (n : Nat) => with_good (F := F) (d := d) (n := n) hv1)
  have HWB := hid (fun hz => with_bad (F := F) (d := d) (s := s) hz)
  have HC := hid (cnum_any _ B all s C0.out S0.out)
  rw [hv1] at hnf HC
  simp only at hnf
  generalize withM F d s = W at *
  generalize pieM s = PP at *
  go_enter Tryz.func22, Tryz.ntmps22
  go_wp2_with fail
  refine HC.out.mono ?_
  rintro r w1 ⟨rfl, h1, t1⟩
  have C1 := hid h1
  have T1 := hid t1
  have P1 := hid (HPR.out _ _ (KT.touch C0.out t1) P0.out)
  have S1 := hid (S0.out.le hnf.2.2.1)
  have HS12 := hid hnf.2.2.1
  have b0 := h1.cell (i := 0) rfl
  clear h1 t1 hv1 HC
  go_wp2_with fail
  refine (csay_any _ B all s1 _ 3 C1.out).mono ?_
  rintro r w2 ⟨rfl, h2, t2⟩
  obtain ⟨s2, hs2⟩ : ∃ z, sayM (decide ((s1.1.size : Int) < v1)) 3 s1 = z := ⟨_, rfl⟩
  rw [hs2] at h2 HPS
  have C2 := hid h2
  have T2 := hid (T1.out.trans t2)
  have P2 := hid (HPR.out _ _ (KT.touch C1.out t2) P1.out)
  have b2 := h2.cell (i := 2) rfl
  clear h2 t2 b0 hs2
  by_cases hb : s2.2 ≠ 0
  · have hb2 : (s2.2 != 0) = true := by simpa using hb
    have HX := hid (HPS.out.1 hb)
    have HN := hid hb
    have HY := hid (HWB.out (by rw [HX.out]; exact hb))
    clear hb
    go_wp2_with fail
    first | go_end0 | refine bodyPost_ret (results_none rfl _ _ _) rfl ?_
    exact ⟨rfl, by rw [HY.out, HX.out]; exact C2.out, .inl ⟨by rw [HX.out]; exact HN.out, P2.out⟩, T2.out.mono (fun _ _ e => .inl e)⟩
  · have hb2 : (s2.2 != 0) = false := by simpa using hb
    have hb0 : s2.2 = 0 := Classical.byContradiction hb
    obtain ⟨hz1, hvl, he, hpp⟩ := HPS.out.2 hb0
    subst he
    obtain ⟨n, rfl⟩ := Int.eq_ofNat_of_zero_le hnf.1
    rw [Int.toNat_natCast] at hpp
    have HPP := hid hpp
    have HZ := hid hz1
    have HW := hid (HWG.out n hz1 hpp)
    have b0 := C2.out.cell (i := 0) rfl
    have hv2 : (n : Int) ≤ (s2.1.size : Int) := hvl
    have hv0 : (0 : Int) ≤ (n : Int) := by omega
    have hs9 := S1.out
    unfold okSc at hs9
    have hx : ¬ (9223372036854775807 < s2.1.size) := by omega
    clear hb hpp hnf HPS HWG HWB hz1 hvl hb0
    have hps : (s2.1.extract 0 n).size ≤ s.1.size := by
      have := HS12.out
      simp only [ByteArray.size_extract]
      omega
    go_wp2_with fail
    obtain ⟨p, hpe⟩ : ∃ p, s2.1.extract 0 n = p := ⟨_, rfl⟩
    rw [hpe] at hps HW HPP
    simp only [hpe]
    refine (cover_any _ _).mono ?_
    rintro r w3 ⟨rfl, h3, b3⟩
    have C3 := hid (C2.out.below b3)
    have T3 := hid (T2.out.trans (Touch.of_below b3))
    have P3 := hid (HPR.out _ _ (KT.below b3) P2.out)
    have D3 := hid h3
    have hDB : w2.heap.size ≠ B := Nat.ne_of_gt C2.out.lt
    have hDw : w.heap.size ≤ w2.heap.size := T2.out.size
    generalize w2.heap.size = D at *
    clear h3 b3 b0 b2 hb2 hpe
    go_wp2_with fail
    refine (HCL.out _ D p hDw hDB hps P3.out T3.out D3.out).mono ?_
    rintro r w4 ⟨rfl, h4, hp4, t4⟩
    obtain ⟨q, hq⟩ : ∃ q, F (p, 0) = q := ⟨_, rfl⟩
    rw [hq] at h4 HW
    have C4 := hid (C3.out.touch t4 (fun e => by rcases e with e | e; exact hDB e.symm; exact HB.out e))
    have T4 := hid (show Touch (fun k => k = B ∨ Fcl k) w w4 from (T3.out.mono (fun _ _ e => .inl e)).trans' t4 (fun i hi e => by rcases e with rfl | e; omega; exact .inr e))
    have D4 := hid h4
    have PO4 := hid hp4
    have d0 := h4.cell (i := 0) rfl
    clear h4 hp4 t4 hq
    go_wp2_with fail
    refine (csay_as _ D _ q.2 _ (decide (q.2.1.size ≠ 0)) 4 D4.out ?_).mono ?_
    case refine_1 => exact empty_size _
    rintro r w5 ⟨rfl, h5, t5⟩
    have C5 := hid (C4.out.touch t5 (fun e => hDB e.symm))
    have T5 := hid (show Touch (fun k => k = B ∨ Fcl k) w w5 from T4.out.trans' t5 (fun i hi e => by subst e; omega))
    have PO5 := hid (HPO.out p _ _ (KT.touch D4.out t5) PO4.out)
    have d2 := h5.cell (i := 2) rfl
    have HD := hid (show sayM (decide (q.2.1.size ≠ 0)) 4 q.2 = dneM q.2 from rfl)
    rw [HD.out] at d2
    clear h5 t5 d0 HD
    go_wp2_with fail
    refine (cskip_any _ B all s2 n _ C5.out (fun _ _ => by omega) S1.out).mono ?_
    rintro r w6 ⟨rfl, h6, t6⟩
    have C6 := hid h6
    have T6 := hid (show Touch (fun k => k = B ∨ Fcl k) w w6 from T5.out.trans (t6.mono (fun _ _ e => .inl e)))
    have PO6 := hid (HPO.out p _ _ (KT.touch C5.out t6) PO5.out)
    clear h6 t6
    go_wp2_with fail
    first | go_end0 | refine bodyPost_ret (results_none rfl _ _ _) rfl ?_
    exact ⟨rfl, by rw [HW.out]; exact C6.out, .inr ⟨by rw [HPP.out], by rw [HPP.out]; exact PO6.out⟩, T6.out⟩
end Go.Proofs.YtakfineljffoaaaGreatDoor
