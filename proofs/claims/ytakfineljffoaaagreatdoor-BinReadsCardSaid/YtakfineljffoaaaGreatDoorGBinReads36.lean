/-
  MODULES READ, the program's reader: section 7. Conditions: a text in the form's reach. Printed by a program of mine.
-/
import Derived.Test.YtakfineljffoaaaGreatDoorGBinReads30
import Derived.Test.YtakfineljffoaaaGreatDoorGBinReads34
namespace Go.Proofs.YtakfineljffoaaaGreatDoor
open Go.RowKit Go.Lib

set_option maxRecDepth 100000 in
set_option maxHeartbeats 8000000 in
theorem blat7_any (w : World) (H M B : Nat) (t : ByteArray) (a : Nat) (vt vi vf vg vx ve vd : Value) (m : Mdl) (cs : List Cd) (h : MS w w H M B t a vt vi vf vg vx ve vd m) (ha : a ≤ t.size) (hs : t.size ≤ 1000000000) (WW : World) (hT : UTabs WW) (hW : Below WW.heap.size WW w) (hWM : WW.heap.size ≤ M) (hl : m.exports.length ≤ 1000) :
    Calls Tryz.prog 53 #[.pointer (some ⟨B, 0, none⟩), .int .u8 7, .pointer (some ⟨M, 0, none⟩)] w (PSec H M B t (.tuple #[]) (secM 7 (m, cs) (left t a, 0)).1.1 (secM 7 (m, cs) (left t a, 0)).2 w) := by
  have A0 := hid h
  have HTB := hid (fun (wx : World) (hx : Touch (FS M H) w wx) => hT.below (hW.trans (hx.below hW.size (fun j hj => by rcases hj with rfl | hj; exact hWM; exact Nat.le_trans (Nat.le_trans hWM (Nat.le_of_lt A0.out.hM)) hj))))
  clear h hT hW hWM
  obtain ⟨P, hP⟩ : ∃ P, secM 7 (m, cs) (left t a, 0) = P := ⟨_, rfl⟩
  have HM0 := hid hP.symm
  rw [hP]
  clear hP
  unfold PSec
  go_enter Tryz.func53, Tryz.ntmps53
  go_wp2_with fail
  have HB0 := hid (show m.exports.length ≤ 1000 + 0 from hl)
  clear hl
  have hcf := cntM_facts 8 (by decide) (left t a, 0)
  refine (bcount_any _ B t a 8 A0.out.rd ha hs).mono ?_
  rintro r w1 ⟨ht1, hor1⟩
  have HBD1 := hid (A0.out.bad ht1)
  have HA1 := hid (fun aa hh => A0.out.read (a' := aa) ht1 hh)
  clear ht1
  obtain ⟨v1, s1, hv1⟩ : ∃ v s, cntM 8 (left t a, 0) = (v, s) := ⟨_, _, rfl⟩
  have HM1 := hid (show P = loopM 7 v1.toNat (m, cs) s1 from HM0.out.trans (by rw [secM, if_neg (by decide), show limM 7 = 8 from rfl, hv1]))
  rw [hv1] at hor1
  rw [hv1] at hcf
  clear hv1
  rcases hor1 with ⟨hz, rfl, a1, ha1, hl, hb1⟩ | ⟨hnz, rfl⟩
  case inr =>
    have HN := hid hnz
    clear hnz
    go_wp2_with fail
    exact ⟨rfl, HBD1.out.1, .inr ⟨by rw [HM1.out, loop_st HN.out]; exact HN.out, by rw [HM1.out, loop_st HN.out], HBD1.out.2⟩⟩
  have hs1 : s1 = (left t a1, 0) := Prod.ext hl hz
  subst hs1
  have A1 := hid (HA1.out a1 hb1)
  clear hz hl hb1 HA1 HBD1
  obtain ⟨N, rfl⟩ := Int.eq_ofNat_of_zero_le hcf.1
  have hN : N ≤ 8 := by have := hcf.2.1; omega
  have HM1 := hid (show P = loopM 7 N (m, cs) (left t a1, 0) from HM1.out)
  clear hcf
  go_wp2_with fail
  obtain ⟨m0, hm0⟩ : ∃ m0 : Mdl, m0 = m := ⟨_, rfl⟩
  go_loopw [15] (fun i wr => ∃ (k : Nat) (vt vi vf vg vx ve vd : Value) (mm : Mdl) (aa : Nat), k ≤ N ∧ i = .int .i64 k ∧ aa ≤ t.size ∧ Hid (mm.exports.length ≤ 1000 + k) ∧ Hid (P = loopM 7 (N - k) (mm, cs) (left t aa, 0)) ∧ Hid (MS w wr H M B t aa vt vi vf vg vx ve vd mm)) (fun i _ => N - (RowKit.intOf i).toNat)
  case atStart => exact ⟨0, _, _, _, _, _, _, _, m, a1, Nat.zero_le _, rfl, ha1, HB0, HM1, A1⟩
  case round =>
    clear A0 A1
    obtain ⟨k, vt, vi, vf, vg, vx, ve, vd, mm, a2, hk, rfl, ha2, HBN, HM2, A2⟩ := hrel
    by_cases hlt : k < N
    · have HM2 := hid (show P = LG 7 up7 (N - (k + 1)) (mm, cs) (expM (left t a2, 0)) from HM2.out.trans (by rw [show N - k = N - (k + 1) + 1 by omega]; exact loop_go rfl rfl))
      obtain ⟨n0, hn0⟩ : ∃ n, mm.exports.length = n := ⟨_, rfl⟩
      obtain ⟨css0, -, hrow⟩ := A2.out.mo.x
      rw [hn0] at hrow
      obtain ⟨ao, cap, rfl, _⟩ := own_sl hrow
      have HN0 := hid hn0
      clear hrow hn0
      go_wp2_with fail
      refine (bname_any _ B t a2 A2.out.rd ha2 hs (HTB.out _ A2.out.tt)).mono ?_
      rintro r w3 ⟨ht3, hor3⟩
      have HBD3 := hid (A2.out.bad ht3)
      have HA3 := hid (fun aa hh => A2.out.read (a' := aa) ht3 hh)
      clear ht3
      obtain ⟨v3, s3, hv3⟩ : ∃ v s, namM (left t a2, 0) = (v, s) := ⟨_, _, rfl⟩
      have HM3 := hid (show P = LG 7 up7 (N - (k + 1)) (mm, cs) (expB v3 s3) from HM2.out.trans (by unfold expM; rw [hv3]))
      rw [hv3] at hor3
      clear hv3
      rcases hor3 with ⟨hz, rfl, a3, ha3, hl, hb3⟩ | ⟨hnz, rfl⟩
      case inr =>
        have HN := hid hnz
        clear hnz
        go_wp2_with fail
        exact ⟨rfl, HBD3.out.1, .inr ⟨by rw [HM3.out, LG_st (by rw [expB_st HN.out]; exact HN.out), expB_st HN.out]; exact HN.out, by rw [HM3.out, LG_st (by rw [expB_st HN.out]; exact HN.out), expB_st HN.out], HBD3.out.2⟩⟩
      have hs3 : s3 = (left t a3, 0) := Prod.ext hl hz
      subst hs3
      have A3 := hid (HA3.out a3 hb3)
      clear hz hl hb3 HA3 HBD3
      have HS3 := A3
      have A3 := hid (MX.new A3.out #[.string v3, .int .i64 0] 88)
      go_wp2_with fail
      generalize w3.heap.size = X at *
      have HRL := hid (show ∀ j, (Value.slice ao n0 cap).ownBlock = some j → j < w3.heap.size from fun j hj => by obtain ⟨css1, -, hr1⟩ := HS3.out.mo.x; exact (World.ownsRow.lt hr1 j hj).2)
      clear HS3
      refine (bfixed_any _ B t a3 0 6 (by decide) A3.out.rd ha3 hs).mono ?_
      rintro r w4 ⟨ht4, hor4⟩
      have HBD4 := hid (A3.out.bad ht4)
      have HA4 := hid (fun aa hh => A3.out.read (a' := aa) ht4 hh)
      clear ht4
      obtain ⟨s4, hv4⟩ : ∃ s, mustM 0 6 (left t a3, 0) = s := ⟨_, rfl⟩
      have HM4 := hid (show P = LG 7 up7 (N - (k + 1)) (mm, cs) (expC v3 s4) from HM3.out.trans (by unfold expB; rw [hv4]))
      rw [hv4] at hor4
      clear hv4
      rcases hor4 with ⟨hz, rfl, a4, ha4, hl, hb4⟩ | ⟨hnz, rfl⟩
      case inr =>
        have HN := hid hnz
        clear hnz
        go_wp2_with fail
        exact ⟨rfl, HBD4.out.1, .inr ⟨by rw [HM4.out, LG_st (by rw [expC_st HN.out]; exact HN.out), expC_st HN.out]; exact HN.out, by rw [HM4.out, LG_st (by rw [expC_st HN.out]; exact HN.out), expC_st HN.out], HBD4.out.2⟩⟩
      have hs4 : s4 = (left t a4, 0) := Prod.ext hl hz
      subst hs4
      have A4 := hid (HA4.out a4 hb4)
      clear hz hl hb4 HA4 HBD4
      go_wp2_with fail
      refine (bnumber_any _ B t a4 A4.out.rd ha4 hs).mono ?_
      rintro r w5 ⟨ht5, hor5⟩
      have HBD5 := hid (A4.out.bad ht5)
      have HA5 := hid (fun aa hh => A4.out.read (a' := aa) ht5 hh)
      clear ht5
      obtain ⟨v5, s5, hv5⟩ : ∃ v s, numM (left t a4, 0) = (v, s) := ⟨_, _, rfl⟩
      have HM5 := hid (show P = LG 7 up7 (N - (k + 1)) (mm, cs) ((v3, v5), s5) from HM4.out.trans (by unfold expC; rw [hv5]))
      rw [hv5] at hor5
      clear hv5
      rcases hor5 with ⟨hz, rfl, a5, ha5, hl, hb5⟩ | ⟨hnz, rfl⟩
      case inr =>
        have HN := hid hnz
        clear hnz
        go_wp2_with fail
        exact ⟨rfl, HBD5.out.1, .inr ⟨by rw [HM5.out, LG_st HN.out]; exact HN.out, by rw [HM5.out, LG_st HN.out], HBD5.out.2⟩⟩
      have hs5 : s5 = (left t a5, 0) := Prod.ext hl hz
      subst hs5
      have A5 := hid (HA5.out a5 hb5)
      clear hz hl hb5 HA5 HBD5
      have y1 := A5.out.x.cell (i := 1) rfl
      have yf := A5.out.x.free
      go_wp2_with fail
      have A6 := hid (A5.out.set 1 (.int .i64 v5))
      clear y1 yf
      have HX6 := hid (show ∀ wx, EIm wx H [.string v3, .int .i64 v5] (v3, v5) from fun _ => rfl)
      have A6 := hid A6.out.drew
      go_wp2_with fail
      refine wp_region_tail (S := (fun w' => w'.cell? ⟨M, 7, none⟩ = some (.slice ao n0 cap) ∧ w'.cell? ⟨X, 0, none⟩ = some (.string v3) ∧ w'.cell? ⟨X, 1, none⟩ = some (.int .i64 v5))) 10 (by kernel_rfl) (by kernel_rfl) ?_ (fun hHeld => ?_)
      · exact ⟨A6.out.ms.mo.blk.cell (i := 7) rfl, A6.out.x.cell (i := 0) rfl, A6.out.x.cell (i := 1) rfl⟩
      repeat ((first | refine tk 0 ?_ rfl ?_ ?_ | refine tk 1 ?_ rfl ?_ ?_ | refine tk 2 ?_ rfl ?_ ?_ | refine tk 3 ?_ rfl ?_ ?_ | refine tk 4 ?_ rfl ?_ ?_ | refine tk 5 ?_ rfl ?_ ?_ | refine tk 8 ?_ rfl ?_ ?_ | refine tk 9 ?_ rfl ?_ ?_); rotate_left; (intro wy hSw; (try dsimp only at hSw); (go_simp <;> with_reducible rfl)); (try simp only [List.getElem_toArray, List.getElem_cons_zero, List.getElem_cons_succ, Act.put, List.setIfInBounds_toArray, List.set_cons_zero, List.set_cons_succ]))
      generalize World.drew (w5.setCell ⟨X, 1, none⟩ (.int .i64 v5)) = wz at *
      refine wpT_one (k := 6) rfl (by kernel_rfl) (fun K hK => ?_)
      go_simp
      refine hK.out _ _ ?_ (fun hHeld => ?_)
      · exact ⟨cell_alloc _ (A6.out.ms.mo.blk.cell (i := 7) rfl), cell_alloc _ (A6.out.x.cell (i := 0) rfl), cell_alloc _ (A6.out.x.cell (i := 1) rfl)⟩
      clear hK K
      (try simp only [Act.put, List.setIfInBounds_toArray, List.set_cons_zero, List.set_cons_succ])
      obtain ⟨css, HC, hrow⟩ := A6.out.ms.mo.x
      have HBN2 := HBN.out
      have HN02 := HN0.out
      rw [HN02] at hrow HBN2
      refine wpT_one (k := 7) rfl (by kernel_rfl) (fun K hK => ?_)
      refine step_one1 elem_exportv (cs := [.string v3, .int .i64 v5]) (by rfl) _ _ (by rfl) (by rfl) (by rfl) rfl hrow rfl (by intro c hc; simp at hc; rcases hc with rfl | rfl <;> rfl) (by omega) (by omega) A6.out.ms.size ?_
      intro v' w6 ho6 hb6 hg6
      obtain ⟨az, cz, rfl, _⟩ := own_sl ho6
      have C4 := hid (A6.out.ms.pushX HN02 HC hrow (HX6.out _) hg6.1 ho6)
      have y0 := C4.out.1.1
      have yf := C4.out.1.2
      have hxk := A6.out.xkeep HRL.out hg6.1
      refine hK.out _ _ ?_ (fun hHeld => ?_)
      · exact ⟨y0, hxk.cell (i := 0) rfl, hxk.cell (i := 1) rfl⟩
      clear hK K
      (try simp only [Act.put, List.setIfInBounds_toArray, List.set_cons_zero, List.set_cons_succ])
      repeat ((first | refine tk 8 ?_ rfl ?_ ?_ | refine tk 9 ?_ rfl ?_ ?_); rotate_left; (intro wy hSw; (try dsimp only at hSw); (go_simp <;> with_reducible rfl)); (try simp only [List.getElem_toArray, List.getElem_cons_zero, List.getElem_cons_succ, Act.put, List.setIfInBounds_toArray, List.set_cons_zero, List.set_cons_succ]))
      refine wpT_done (by kernel_rfl) ?_
      go_wp2_with fail
      go_roundw
      case rel => exact ⟨k + 1, _, _, _, _, _, _, _, _, a5, hlt, by go_num, ha5, hid (by have := HBN.out; simp; omega), hid HM5.out, hid C4.out.2⟩
      case measure => simp [RowKit.intOf]; omega
    obtain rfl : k = N := by omega
    have HM2 := hid (show P = ((mm, cs), (left t a2, 0)) from HM2.out.trans (by rw [Nat.sub_self]; rfl))
    go_wp2_with fail
    go_end0
    exact ⟨A2.out.tt, .inl ⟨by rw [HM2.out], rfl, vt, vi, vf, vg, vx, ve, vd, a2, ha2, by rw [HM2.out], by rw [HM2.out]; exact A2.out.mo, A2.out.rd⟩⟩
end Go.Proofs.YtakfineljffoaaaGreatDoor
namespace Go.Proofs.YtakfineljffoaaaGreatDoor
open Go.RowKit Go.Lib

set_option maxRecDepth 100000 in
set_option maxHeartbeats 8000000 in
theorem csec2_any (w : World) (H M K B : Nat) (all : Int) (s : SB) (vt vi vf vg vx ve vd kv : Value) (m : Mdl) (cs : List Cd) (h : RS w w H M K B all s vt vi vf vg vx ve vd kv m cs) (hs : okSc s) (hl : m.imports.length ≤ 1000) :
    Calls Tryz.prog 24 #[.pointer (some ⟨B, 0, none⟩), .int .i64 2, .pointer (some ⟨M, 0, none⟩), .pointer (some ⟨K, 0, none⟩)] w fun e w' => e = .returned (.tuple #[]) ∧ ∃ vt vi vf vg vx ve vd kv, RS w w' H M K B all (secM 2 (m, cs) s).2 vt vi vf vg vx ve vd kv (secM 2 (m, cs) s).1.1 (secM 2 (m, cs) s).1.2 := by
  have A0 := hid h
  have S0 := hid hs
  have HB0 := hid (show m.imports.length ≤ 1000 + 0 from hl)
  clear h hs hl
  obtain ⟨P, hP⟩ : ∃ P, secM 2 (m, cs) s = P := ⟨_, rfl⟩
  have HM0 := hid hP.symm
  rw [hP]
  clear hP
  have LB0 := hid (show Below w.heap.size w (w.alloc (.cells #[.int .i64 0, .int .i64 16, .int .i64 16, .int .i64 16, .int .i64 1, .int .i64 1, .int .i64 8, .int .i64 8, .int .i64 0, .int .i64 4, .int .i64 16, .int .i64 4] 114)) from (Below.refl _ _).alloc (Nat.le_refl _) _)
  have A0 := hid (A0.out.below LB0.out)
  clear LB0
  go_enter Tryz.func24, Tryz.ntmps24
  go_wp2_with fail
  have hcf := cntM_facts 16 (by decide) s
  refine (ccount_any _ B all s 16 A0.out.cu S0.out).mono ?_
  rintro r w1 ⟨hr, h1, t1⟩
  have hle := cnt_le 16 (by decide) s
  obtain ⟨v1, s1, hv1⟩ : ∃ vz sz, cntM 16 s = (vz, sz) := ⟨_, _, rfl⟩
  have HM1 := hid (show P = loopM 2 v1.toNat (m, cs) s1 from HM0.out.trans (by rw [secM, if_neg (by decide), show limM 2 = 16 from rfl, hv1]))
  rw [hv1] at hr h1 hle
  rw [hv1] at hcf
  subst hr
  have A1 := hid (A0.out.read t1 h1)
  have S1 := hid (S0.out.le hle)
  clear h1 t1 hle hv1
  obtain ⟨N, rfl⟩ := Int.eq_ofNat_of_zero_le hcf.1
  have hN : N ≤ 16 := by have := hcf.2.1; omega
  have HM1 := hid (show P = loopM 2 N (m, cs) s1 from HM1.out)
  clear hcf
  go_wp2_with fail
  obtain ⟨m0, hm0⟩ : ∃ m0 : Mdl, m0 = m := ⟨_, rfl⟩
  go_loopw [36] (fun i wr => ∃ (k : Nat) (vt vi vf vg vx ve vd kv : Value) (mm : Mdl) (cc : List Cd) (sz : SB), k ≤ N ∧ i = .int .i64 k ∧ Hid (mm.imports.length ≤ 1000 + k) ∧ Hid (okSc sz) ∧ Hid (P = loopM 2 (N - k) (mm, cc) sz) ∧ Hid (RS w wr H M K B all sz vt vi vf vg vx ve vd kv mm cc)) (fun i _ => N - (RowKit.intOf i).toNat)
  case atStart => exact ⟨0, _, _, _, _, _, _, _, _, m, cs, s1, Nat.zero_le _, rfl, HB0, S1, HM1, A1⟩
  case round =>
    clear A0 A1 S1 S0 HM0 HM1
    obtain ⟨k, vt, vi, vf, vg, vx, ve, vd, kv, mm, cc, s2, hk, rfl, HBN, S2, HM2, A2⟩ := hrel
    have y2 := A2.out.cu.cell (i := 2) rfl
    by_cases hlt : k < N
    · by_cases hz : s2.2 ≠ 0
      · have hz2 : (s2.2 != 0) = true := by simpa using hz
        have HM3 := hid (show P = ((mm, cc), s2) from HM2.out.trans (loop_st hz))
        clear hz
        go_wp2_with fail
        first | go_end0 | refine bodyPost_ret (results_none rfl _ _ _) rfl ?_
        exact ⟨rfl, vt, vi, vf, vg, vx, ve, vd, kv, by rw [HM3.out]; exact A2.out⟩
      have hz2 : (s2.2 != 0) = false := by simpa using hz
      have HM2 := hid (show P = LG 2 up2 (N - (k + 1)) (mm, cc) (impM s2) from HM2.out.trans (by rw [show N - k = N - (k + 1) + 1 by omega]; exact loop_go (Classical.byContradiction hz) rfl))
      clear hz
      obtain ⟨n0, hn0⟩ : ∃ n, mm.imports.length = n := ⟨_, rfl⟩
      obtain ⟨css0, -, hrow⟩ := A2.out.mo.i
      rw [hn0] at hrow
      obtain ⟨ao, cap, rfl, _⟩ := own_sl hrow
      have HN0 := hid hn0
      clear hrow hn0
      go_wp2_with fail
      refine (cname_any _ B all s2 A2.out.cu S2.out).mono ?_
      rintro r w3 ⟨hr, h3, t3⟩
      have hle := nam_le s2
      obtain ⟨v3, s3, hv3⟩ : ∃ vz sz, namM s2 = (vz, sz) := ⟨_, _, rfl⟩
      have HM3 := hid (show P = LG 2 up2 (N - (k + 1)) (mm, cc) (impA v3 s3) from HM2.out.trans (by unfold impM; rw [hv3]))
      rw [hv3] at hr h3 hle
      subst hr
      have A3 := hid (A2.out.read t3 h3)
      have S3 := hid (S2.out.le hle)
      clear h3 t3 hle hv3
      go_wp2_with fail
      refine (csay_as _ B all s3 _ (!(v3.toList == ([104, 111, 115, 116] : List UInt8))) 6 A3.out.cu (by first | rfl | simp)).mono ?_
      rintro r w4 ⟨hr, h4, t4⟩
      have hle := say_le (!(v3.toList == ([104, 111, 115, 116] : List UInt8))) 6 s3
      obtain ⟨s4, hv4⟩ : ∃ sz, sayM (!(v3.toList == ([104, 111, 115, 116] : List UInt8))) 6 s3 = sz := ⟨_, rfl⟩
      have HM4 := hid (show P = LG 2 up2 (N - (k + 1)) (mm, cc) (expM s4) from HM3.out.trans (by unfold impA; rw [hv4]))
      rw [hv4] at h4 hle
      subst hr
      have A4 := hid (A3.out.read t4 h4)
      have S4 := hid (S3.out.le hle)
      clear h4 t4 hle hv4
      go_wp2_with fail
      refine (cname_any _ B all s4 A4.out.cu S4.out).mono ?_
      rintro r w5 ⟨hr, h5, t5⟩
      have hle := nam_le s4
      obtain ⟨v5, s5, hv5⟩ : ∃ vz sz, namM s4 = (vz, sz) := ⟨_, _, rfl⟩
      have HM5 := hid (show P = LG 2 up2 (N - (k + 1)) (mm, cc) (expB v5 s5) from HM4.out.trans (by unfold expM; rw [hv5]))
      rw [hv5] at hr h5 hle
      subst hr
      have A5 := hid (A4.out.read t5 h5)
      have S5 := hid (S4.out.le hle)
      clear h5 t5 hle hv5
      have HS5 := A5
      have A5 := hid (RX.new A5.out #[.string v5, .int .i64 0] 81)
      go_wp2_with fail
      generalize w5.heap.size = X at *
      have HRL := hid (show ∀ j, (Value.slice ao n0 cap).ownBlock = some j → j < w5.heap.size from fun j hj => by obtain ⟨css1, -, hr1⟩ := HS5.out.mo.i; exact (World.ownsRow.lt hr1 j hj).2)
      clear HS5
      refine (cmust_any _ B all s5 0 6 A5.out.cu S5.out).mono ?_
      rintro r w6 ⟨hr, h6, t6⟩
      have hle := mst_le 0 6 s5
      obtain ⟨s6, hv6⟩ : ∃ sz, mustM 0 6 s5 = sz := ⟨_, rfl⟩
      have HM6 := hid (show P = LG 2 up2 (N - (k + 1)) (mm, cc) (expC v5 s6) from HM5.out.trans (by unfold expB; rw [hv6]))
      rw [hv6] at h6 hle
      subst hr
      have A6 := hid (A5.out.read t6 h6)
      have S6 := hid (S5.out.le hle)
      clear h6 t6 hle hv6
      go_wp2_with fail
      refine (cnum_any _ B all s6 A6.out.cu S6.out).mono ?_
      rintro r w7 ⟨hr, h7, t7⟩
      have hle := num_le s6
      obtain ⟨v7, s7, hv7⟩ : ∃ vz sz, numM s6 = (vz, sz) := ⟨_, _, rfl⟩
      have HM7 := hid (show P = LG 2 up2 (N - (k + 1)) (mm, cc) ((v5, v7), s7) from HM6.out.trans (by unfold expC; rw [hv7]))
      rw [hv7] at hr h7 hle
      subst hr
      have A7 := hid (A6.out.read t7 h7)
      have S7 := hid (S6.out.le hle)
      clear h7 t7 hle hv7
      have y1 := A7.out.x.cell (i := 1) rfl
      have yf := A7.out.x.free
      go_wp2_with fail
      have A8 := hid (A7.out.set 1 (.int .i64 v7))
      clear y1 yf
      have HX8 := hid (show ∀ wx, EIm wx H [.string v5, .int .i64 v7] (v5, v7) from fun _ => rfl)
      have A8 := hid A8.out.drew
      go_wp2_with fail
      refine wp_region_tail (S := (fun w' => w'.cell? ⟨M, 1, none⟩ = some (.slice ao n0 cap) ∧ w'.cell? ⟨X, 0, none⟩ = some (.string v5) ∧ w'.cell? ⟨X, 1, none⟩ = some (.int .i64 v7))) 10 (by kernel_rfl) (by kernel_rfl) ?_ (fun hHeld => ?_)
      · exact ⟨A8.out.ms.mo.blk.cell (i := 1) rfl, A8.out.x.cell (i := 0) rfl, A8.out.x.cell (i := 1) rfl⟩
      repeat ((first | refine tk 0 ?_ rfl ?_ ?_ | refine tk 1 ?_ rfl ?_ ?_ | refine tk 2 ?_ rfl ?_ ?_ | refine tk 3 ?_ rfl ?_ ?_ | refine tk 4 ?_ rfl ?_ ?_ | refine tk 5 ?_ rfl ?_ ?_ | refine tk 8 ?_ rfl ?_ ?_ | refine tk 9 ?_ rfl ?_ ?_); rotate_left; (intro wy hSw; (try dsimp only at hSw); (go_simp <;> with_reducible rfl)); (try simp only [List.getElem_toArray, List.getElem_cons_zero, List.getElem_cons_succ, Act.put, List.setIfInBounds_toArray, List.set_cons_zero, List.set_cons_succ]))
      generalize World.drew (w7.setCell ⟨X, 1, none⟩ (.int .i64 v7)) = wz at *
      refine wpT_one (k := 6) rfl (by kernel_rfl) (fun K hK => ?_)
      go_simp
      refine hK.out _ _ ?_ (fun hHeld => ?_)
      · exact ⟨cell_alloc _ (A8.out.ms.mo.blk.cell (i := 1) rfl), cell_alloc _ (A8.out.x.cell (i := 0) rfl), cell_alloc _ (A8.out.x.cell (i := 1) rfl)⟩
      clear hK K
      (try simp only [Act.put, List.setIfInBounds_toArray, List.set_cons_zero, List.set_cons_succ])
      obtain ⟨css, HC, hrow⟩ := A8.out.ms.mo.i
      have HBN2 := HBN.out
      have HN02 := HN0.out
      rw [HN02] at hrow HBN2
      refine wpT_one (k := 7) rfl (by kernel_rfl) (fun K hK => ?_)
      refine step_one1 elem_importv (cs := [.string v5, .int .i64 v7]) (by rfl) _ _ (by rfl) (by rfl) (by rfl) rfl hrow rfl (by intro c hc; simp at hc; rcases hc with rfl | rfl <;> rfl) (by omega) (by omega) A8.out.ms.size ?_
      intro v' w9 ho6 hb6 hg6
      obtain ⟨az, cz, rfl, _⟩ := own_sl ho6
      have C4 := hid (A8.out.ms.pushI HN02 HC hrow (HX8.out _) hg6.1 ho6)
      have y0 := C4.out.1.1
      have yf := C4.out.1.2
      have hxk := A8.out.xkeep HRL.out hg6.1
      refine hK.out _ _ ?_ (fun hHeld => ?_)
      · exact ⟨y0, hxk.cell (i := 0) rfl, hxk.cell (i := 1) rfl⟩
      clear hK K
      (try simp only [Act.put, List.setIfInBounds_toArray, List.set_cons_zero, List.set_cons_succ])
      repeat ((first | refine tk 8 ?_ rfl ?_ ?_ | refine tk 9 ?_ rfl ?_ ?_); rotate_left; (intro wy hSw; (try dsimp only at hSw); (go_simp <;> with_reducible rfl)); (try simp only [List.getElem_toArray, List.getElem_cons_zero, List.getElem_cons_succ, Act.put, List.setIfInBounds_toArray, List.set_cons_zero, List.set_cons_succ]))
      refine wpT_done (by kernel_rfl) ?_
      go_wp2_with fail
      go_roundw
      case rel => exact ⟨k + 1, _, _, _, _, _, _, _, _, _, _, s7, hlt, by go_num, hid (by have := HBN.out; simp; omega), S7, hid HM7.out, hid C4.out.2⟩
      case measure => simp [RowKit.intOf]; omega
    have HM3 := hid (show P = ((mm, cc), s2) from HM2.out.trans (by rw [show N - k = 0 by omega]; rfl))
    go_wp2_with fail
    first | go_end0 | refine bodyPost_ret (results_none rfl _ _ _) rfl ?_
    exact ⟨rfl, vt, vi, vf, vg, vx, ve, vd, kv, by rw [HM3.out]; exact A2.out⟩
end Go.Proofs.YtakfineljffoaaaGreatDoor
