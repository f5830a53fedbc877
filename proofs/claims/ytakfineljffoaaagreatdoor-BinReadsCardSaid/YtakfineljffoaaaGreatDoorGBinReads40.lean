/-
  MODULES READ, the program's reader: section 8. Conditions: a text in the form's reach. Printed by a program of mine.
-/
import Derived.Test.YtakfineljffoaaaGreatDoorGBinReads30
import Derived.Test.YtakfineljffoaaaGreatDoorGBinReads34
namespace Go.Proofs.YtakfineljffoaaaGreatDoor
open Go.RowKit Go.Lib

set_option maxRecDepth 100000 in
set_option maxHeartbeats 8000000 in
theorem blat8_any (w : World) (H M B : Nat) (t : ByteArray) (a : Nat) (vt vi vf vg vx ve vd : Value) (m : Mdl) (cs : List Cd) (h : MS w w H M B t a vt vi vf vg vx ve vd m) (ha : a ≤ t.size) (hs : t.size ≤ 1000000000) :
    Calls Tryz.prog 53 #[.pointer (some ⟨B, 0, none⟩), .int .u8 8, .pointer (some ⟨M, 0, none⟩)] w (PSec H M B t (.tuple #[]) (secM 8 (m, cs) (left t a, 0)).1.1 (secM 8 (m, cs) (left t a, 0)).2 w) := by
  have A0 := hid h
  clear h
  obtain ⟨P, hP⟩ : ∃ P, secM 8 (m, cs) (left t a, 0) = P := ⟨_, rfl⟩
  have HM0 := hid hP.symm
  rw [hP]
  clear hP
  unfold PSec
  go_enter Tryz.func53, Tryz.ntmps53
  go_wp2_with fail
  have hf := numM_facts (left t a, 0)
  refine (bnumber_any _ B t a A0.out.rd ha hs).mono ?_
  rintro r w1 ⟨ht1, hor1⟩
  have HBD1 := hid (A0.out.bad ht1)
  have HA1 := hid (fun aa hh => A0.out.read (a' := aa) ht1 hh)
  clear ht1
  obtain ⟨v1, s1, hv1⟩ : ∃ v s, numM (left t a, 0) = (v, s) := ⟨_, _, rfl⟩
  have HM1 := hid (show P = (({ m with start := (staA v1 s1).1 }, cs), (staA v1 s1).2) from HM0.out.trans (by rw [secM, if_pos rfl, staM, hv1]))
  rw [hv1] at hor1
  rw [hv1] at hf
  clear hv1
  rcases hor1 with ⟨hz, rfl, a1, ha1, hl, hb1⟩ | ⟨hnz, rfl⟩
  case inr =>
    have HN := hid hnz
    clear hnz
    go_wp2_with fail
    exact ⟨rfl, HBD1.out.1, .inr ⟨by rw [HM1.out, staA_st HN.out]; exact HN.out, by rw [HM1.out, staA_st HN.out], HBD1.out.2⟩⟩
  have hs1 : s1 = (left t a1, 0) := Prod.ext hl hz
  subst hs1
  have A1 := hid (HA1.out a1 hb1)
  clear hz hl hb1 HA1 HBD1
  have hw1 : 0 ≤ v1 ∧ v1 < 4294967296 := ⟨hf.1, hf.2.1⟩
  clear hf
  have y8 := A1.out.mo.blk.cell (i := 8) rfl
  have yf := A1.out.mo.blk.free
  have A2 := hid (A1.out.set_start (v1 + 1))
  have z8 := A2.out.mo.blk.cell (i := 8) rfl
  go_wp2_with fail
  have HM1 := hid (show P = (({ m with start := v1 + 1 }, cs), sayM (decide (4294967295 < v1 + 1)) 4 (left t a1, 0)) from HM1.out)
  refine (throw_any _ _ _ _).mono ?_
  rintro r wt (⟨hq, rfl, hwt⟩ | ⟨hq, rfl, hwt⟩)
  case inl =>
    have hwt := hwt.symm
    subst hwt
    have HQ := hid (show P = (({ m with start := v1 + 1 }, cs), (left t a1, 4)) from HM1.out.trans (by rw [show decide (4294967295 < v1 + 1) = true from decide_eq_true (by have := of_decide_eq_true hq; omega), say_yes rfl]))
    clear hq
    go_wp2_with fail
    have HN : Hid ((4 : Int) ≠ 0) := hid (by decide)
    exact ⟨rfl, A2.out.tt, .inr ⟨by rw [HQ.out]; exact HN.out, by rw [HQ.out], A2.out.m11⟩⟩
  have hwt := hwt.symm
  subst hwt
  have HM1 := hid (show P = (({ m with start := v1 + 1 }, cs), (left t a1, 0)) from HM1.out.trans (by rw [show decide (4294967295 < v1 + 1) = false from decide_eq_false (by have := of_decide_eq_false hq; omega), say_no]))
  clear hq
  go_wp2_with fail
  go_end0
  exact ⟨A2.out.tt, .inl ⟨by rw [HM1.out], rfl, _, _, _, _, _, _, _, a1, ha1, by rw [HM1.out], by rw [HM1.out]; exact A2.out.mo, A2.out.rd⟩⟩
end Go.Proofs.YtakfineljffoaaaGreatDoor
namespace Go.Proofs.YtakfineljffoaaaGreatDoor
open Go.RowKit Go.Lib

set_option maxRecDepth 100000 in
set_option maxHeartbeats 8000000 in
theorem csec8_any (w : World) (H M K B : Nat) (all : Int) (s : SB) (vt vi vf vg vx ve vd kv : Value) (m : Mdl) (cs : List Cd) (h : RS w w H M K B all s vt vi vf vg vx ve vd kv m cs) (hs : okSc s) :
    Calls Tryz.prog 24 #[.pointer (some ⟨B, 0, none⟩), .int .i64 8, .pointer (some ⟨M, 0, none⟩), .pointer (some ⟨K, 0, none⟩)] w fun e w' => e = .returned (.tuple #[]) ∧ ∃ vt vi vf vg vx ve vd kv, RS w w' H M K B all (secM 8 (m, cs) s).2 vt vi vf vg vx ve vd kv (secM 8 (m, cs) s).1.1 (secM 8 (m, cs) s).1.2 := by
  have A0 := hid h
  have S0 := hid hs
  clear h hs
  obtain ⟨P, hP⟩ : ∃ P, secM 8 (m, cs) s = P := ⟨_, rfl⟩
  have HM0 := hid hP.symm
  rw [hP]
  clear hP
  have LB0 := hid (show Below w.heap.size w (w.alloc (.cells #[.int .i64 0, .int .i64 16, .int .i64 16, .int .i64 16, .int .i64 1, .int .i64 1, .int .i64 8, .int .i64 8, .int .i64 0, .int .i64 4, .int .i64 16, .int .i64 4] 114)) from (Below.refl _ _).alloc (Nat.le_refl _) _)
  have A0 := hid (A0.out.below LB0.out)
  clear LB0
  go_enter Tryz.func24, Tryz.ntmps24
  go_wp2_with fail
  have hnf := numM_facts s
  refine (cnum_any _ B all s A0.out.cu S0.out).mono ?_
  rintro r w1 ⟨hr, h1, t1⟩
  have hle := num_le s
  obtain ⟨v1, s1, hv1⟩ : ∃ vz sz, numM s = (vz, sz) := ⟨_, _, rfl⟩
  have HM1 := hid (show P = (({ m with start := (staA v1 s1).1 }, cs), (staA v1 s1).2) from HM0.out.trans (by rw [secM, if_pos rfl, staM, hv1]))
  rw [hv1] at hr h1 hle
  rw [hv1] at hnf
  subst hr
  have A1 := hid (A0.out.read t1 h1)
  have S1 := hid (S0.out.le hle)
  clear h1 t1 hle hv1
  have hw1 : 0 ≤ v1 ∧ v1 < 4294967296 := ⟨hnf.1, hnf.2.1⟩
  clear hnf
  have y8 := A1.out.mo.blk.cell (i := 8) rfl
  have yf := A1.out.mo.blk.free
  have A2 := hid (A1.out.set_start (v1 + 1))
  have z8 := A2.out.mo.blk.cell (i := 8) rfl
  have S2 := S1
  have HM2 := HM1
  go_wp2_with fail
  clear y8 yf z8
  refine (csay_as _ B all s1 _ (decide (4294967295 < v1 + 1)) 4 A2.out.cu (by first | rfl | (rw [Bool.eq_iff_iff]; simp <;> omega))).mono ?_
  rintro r w3 ⟨hr, h3, t3⟩
  have hle := say_le (decide (4294967295 < v1 + 1)) 4 s1
  obtain ⟨s3, hv3⟩ : ∃ sz, sayM (decide (4294967295 < v1 + 1)) 4 s1 = sz := ⟨_, rfl⟩
  have HM3 := hid (show P = (({ m with start := v1 + 1 }, cs), s3) from HM2.out.trans (by unfold staA; rw [hv3]))
  rw [hv3] at h3 hle
  subst hr
  have A3 := hid (A2.out.read t3 h3)
  have S3 := hid (S2.out.le hle)
  clear h3 t3 hle hv3
  go_wp2_with fail
  first | go_end0 | refine bodyPost_ret (results_none rfl _ _ _) rfl ?_
  exact ⟨rfl, vt, vi, vf, vg, vx, ve, vd, kv, by rw [HM3.out]; exact A3.out⟩
end Go.Proofs.YtakfineljffoaaaGreatDoor
namespace Go.Proofs.YtakfineljffoaaaGreatDoor
open Go.RowKit Go.Lib

set_option maxRecDepth 100000 in
set_option maxHeartbeats 8000000 in
theorem csec9_any (w : World) (H M K B : Nat) (all : Int) (s : SB) (vt vi vf vg vx ve vd kv : Value) (m : Mdl) (cs : List Cd) (h : RS w w H M K B all s vt vi vf vg vx ve vd kv m cs) (hs : okSc s) (hl : m.elems.length ≤ 1000) :
    Calls Tryz.prog 24 #[.pointer (some ⟨B, 0, none⟩), .int .i64 9, .pointer (some ⟨M, 0, none⟩), .pointer (some ⟨K, 0, none⟩)] w fun e w' => e = .returned (.tuple #[]) ∧ ∃ vt vi vf vg vx ve vd kv, RS w w' H M K B all (secM 9 (m, cs) s).2 vt vi vf vg vx ve vd kv (secM 9 (m, cs) s).1.1 (secM 9 (m, cs) s).1.2 := by
  have A0 := hid h
  have S0 := hid hs
  have HB0 := hid (show m.elems.length ≤ 1000 + 0 from hl)
  clear h hs hl
  obtain ⟨P, hP⟩ : ∃ P, secM 9 (m, cs) s = P := ⟨_, rfl⟩
  have HM0 := hid hP.symm
  rw [hP]
  clear hP
  have LB0 := hid (show Below w.heap.size w (w.alloc (.cells #[.int .i64 0, .int .i64 16, .int .i64 16, .int .i64 16, .int .i64 1, .int .i64 1, .int .i64 8, .int .i64 8, .int .i64 0, .int .i64 4, .int .i64 16, .int .i64 4] 114)) from (Below.refl _ _).alloc (Nat.le_refl _) _)
  have A0 := hid (A0.out.below LB0.out)
  clear LB0
  go_enter Tryz.func24, Tryz.ntmps24
  go_wp2_with fail
  have hcf := cntM_facts 4 (by decide) s
  refine (ccount_any _ B all s 4 A0.out.cu S0.out).mono ?_
  rintro r w1 ⟨hr, h1, t1⟩
  have hle := cnt_le 4 (by decide) s
  obtain ⟨v1, s1, hv1⟩ : ∃ vz sz, cntM 4 s = (vz, sz) := ⟨_, _, rfl⟩
  have HM1 := hid (show P = loopM 9 v1.toNat (m, cs) s1 from HM0.out.trans (by rw [secM, if_neg (by decide), show limM 9 = 4 from rfl, hv1]))
  rw [hv1] at hr h1 hle
  rw [hv1] at hcf
  subst hr
  have A1 := hid (A0.out.read t1 h1)
  have S1 := hid (S0.out.le hle)
  clear h1 t1 hle hv1
  obtain ⟨N, rfl⟩ := Int.eq_ofNat_of_zero_le hcf.1
  have hN : N ≤ 16 := by have := hcf.2.1; omega
  have HM1 := hid (show P = loopM 9 N (m, cs) s1 from HM1.out)
  clear hcf
  go_wp2_with fail
  obtain ⟨m0, hm0⟩ : ∃ m0 : Mdl, m0 = m := ⟨_, rfl⟩
  go_loopw [36] (fun i wr => ∃ (k : Nat) (vt vi vf vg vx ve vd kv : Value) (mm : Mdl) (cc : List Cd) (sz : SB), k ≤ N ∧ i = .int .i64 k ∧ Hid (mm.elems.length ≤ 1000 + k) ∧ Hid (okSc sz) ∧ Hid (P = loopM 9 (N - k) (mm, cc) sz) ∧ Hid (RS w wr H M K B all sz vt vi vf vg vx ve vd kv mm cc)) (fun i _ => N - (RowKit.intOf i).toNat)
  case atStart => exact ⟨0, _, _, _, _, _, _, _, _, m, cs, s1, Nat.zero_le _, rfl, HB0, S1, HM1, A1⟩
  case round =>
    clear A0 A1 S1 S0 HM0 HM1
    obtain ⟨k, vt, vi, vf, vg, vx, ve, vd, kv, mm, cc, s2, hk, rfl, HBN, S2, HM2, A2⟩ := hrel
    have y2 := A2.out.cu.cell (i := 2) rfl
    by_cases hlt : k < N
    · by_cases hz : s2.2 ≠ 0
      · have hz2 : (s2.2 != 0) = true := by simpa using hz
        have HM3 := hid (show P = ((mm, cc), s2) from HM2.out.trans (loop_st hz))
        clear hz
        go_wp2_with fail
        first | go_end0 | refine bodyPost_ret (results_none rfl _ _ _) rfl ?_
        exact ⟨rfl, vt, vi, vf, vg, vx, ve, vd, kv, by rw [HM3.out]; exact A2.out⟩
      have hz2 : (s2.2 != 0) = false := by simpa using hz
      have HM2 := hid (show P = LG 9 up9 (N - (k + 1)) (mm, cc) (elmM s2) from HM2.out.trans (by rw [show N - k = N - (k + 1) + 1 by omega]; exact loop_go (Classical.byContradiction hz) rfl))
      clear hz
      obtain ⟨n0, hn0⟩ : ∃ n, mm.elems.length = n := ⟨_, rfl⟩
      obtain ⟨css0, -, hrow⟩ := A2.out.mo.e
      rw [hn0] at hrow
      obtain ⟨ao, cap, rfl, _⟩ := own_sl hrow
      have HN0 := hid hn0
      clear hrow hn0
      go_wp2_with fail
      refine (cplace_any _ B all s2 A2.out.cu S2.out).mono ?_
      rintro r w3 ⟨hr, h3, t3⟩
      have hle := plc_le s2
      obtain ⟨v3, s3, hv3⟩ : ∃ vz sz, plcM s2 = (vz, sz) := ⟨_, _, rfl⟩
      have HM3 := hid (show P = LG 9 up9 (N - (k + 1)) (mm, cc) (elmA v3 s3) from HM2.out.trans (by unfold elmM; rw [hv3]))
      rw [hv3] at hr h3 hle
      subst hr
      have A3 := hid (A2.out.read t3 h3)
      have S3 := hid (S2.out.le hle)
      clear h3 t3 hle hv3
      have HS3 := A3
      have A3 := hid (RX.new A3.out #[.int .i64 v3, .slice none 0 0] 72)
      go_wp2_with fail
      generalize w3.heap.size = X at *
      have HRL := hid (show ∀ j, (Value.slice ao n0 cap).ownBlock = some j → j < w3.heap.size from fun j hj => by obtain ⟨css1, -, hr1⟩ := HS3.out.mo.e; exact (World.ownsRow.lt hr1 j hj).2)
      clear HS3
      have hcf := cntM_facts 16 (by decide) s3
      refine (ccount_any _ B all s3 16 A3.out.cu S3.out).mono ?_
      rintro r w4 ⟨hr, h4, t4⟩
      have hle := cnt_le 16 (by decide) s3
      obtain ⟨v4, s4, hv4⟩ : ∃ vz sz, cntM 16 s3 = (vz, sz) := ⟨_, _, rfl⟩
      have HM4 := hid (show P = LG 9 up9 (N - (k + 1)) (mm, cc) (elmB v3 v4.toNat [] s4) from HM3.out.trans (by unfold elmA; rw [hv4]))
      rw [hv4] at hr h4 hle
      rw [hv4] at hcf
      subst hr
      have A4 := hid (A3.out.read t4 h4)
      have S4 := hid (S3.out.le hle)
      clear h4 t4 hle hv4
      obtain ⟨N4, rfl⟩ := Int.eq_ofNat_of_zero_le hcf.1
      have hN4 : N4 ≤ 16 := by have := hcf.2.1; omega
      have HM4 := hid (show P = LG 9 up9 (N - (k + 1)) (mm, cc) (elmB v3 N4 [] s4) from HM4.out)
      clear hcf
      have O4 := hid (OwnI.nil w4 w3.heap.size .i64 3)
      go_wp2_with fail
      go_loopw [204] (fun i wr => ∃ (j : Nat) (u : Value) (xs : List Int) (sz : SB), j ≤ N4 ∧ i = .int .i64 j ∧ xs.length = j ∧ Hid (okSc sz) ∧ Hid (P = LG 9 up9 (N - (k + 1)) (mm, cc) (elmB v3 (N4 - j) xs sz)) ∧ Hid (RX w w3 wr H M K B all sz vt vi vf vg vx (.slice ao n0 cap) vd kv mm cc X 72 [.int .i64 v3, u]) ∧ Hid (OwnI wr w3.heap.size .i64 3 u xs)) (fun i _ => N4 - (RowKit.intOf i).toNat)
      case atStart => exact ⟨0, _, [], s4, Nat.zero_le _, rfl, rfl, S4, HM4, A4, O4⟩
      case round =>
        clear A4 O4 A3 S4 HM4
        obtain ⟨j, u, xs, s5, hj, rfl, hxl, S5, HM5, A5, O5⟩ := hrel
        by_cases hlt2 : j < N4
        · have HM5 := hid (show P = LG 9 up9 (N - (k + 1)) (mm, cc) (elmB v3 (N4 - (j + 1) + 1) xs s5) from HM5.out.trans (by rw [show N4 - (j + 1) + 1 = N4 - j by omega]))
          obtain ⟨bo, cbp, rfl, _⟩ := own_sl O5.out
          have A6 := hid A5.out.drew
          have O6 := hid (show OwnI (World.drew _) w3.heap.size .i64 3 _ xs from O5.out)
          have HM6 := HM5
          have S6 := S5
          have HXL := hid hxl
          clear hxl
          go_wp2_with fail
          refine wp_region_tail (S := (fun w' => w'.cell? ⟨X, 1, none⟩ = some (.slice bo xs.length cbp))) 7 (by kernel_rfl) (by kernel_rfl) ?_ (fun hHeld => ?_)
          · exact A6.out.x.cell (i := 1) rfl
          repeat ((first | refine tk 0 ?_ rfl ?_ ?_ | refine tk 1 ?_ rfl ?_ ?_ | refine tk 2 ?_ rfl ?_ ?_ | refine tk 6 ?_ rfl ?_ ?_); rotate_left; (intro wy hSw; (try dsimp only at hSw); (go_simp <;> with_reducible rfl)); (try simp only [List.getElem_toArray, List.getElem_cons_zero, List.getElem_cons_succ, Act.put, List.setIfInBounds_toArray, List.set_cons_zero, List.set_cons_succ]))
          refine wpT_one (k := 3) rfl (by kernel_rfl) (fun K hK => ?_)
          go_simp
          refine (cnum_any _ B all s5 A6.out.cu S6.out).mono ?_
          rintro r w7 ⟨hr, h7, t7⟩
          have hle := num_le s5
          obtain ⟨v7, s7, hv7⟩ : ∃ vz sz, numM s5 = (vz, sz) := ⟨_, _, rfl⟩
          have HM7 := hid (show P = LG 9 up9 (N - (k + 1)) (mm, cc) (elmB v3 (N4 - (j + 1)) (xs ++ [v7]) s7) from HM6.out.trans (by rw [elmB_succ, hv7]))
          rw [hv7] at hr h7 hle
          subst hr
          have A7 := hid (A6.out.read t7 h7)
          have S7 := hid (S6.out.le hle)
          have O7 := hid ((KT.touch A6.out.cu t7).own O6.out rfl)
          clear h7 t7 hle hv7
          refine hK.out _ _ ?_ (fun hHeld => ?_)
          · exact A7.out.x.cell (i := 1) rfl
          clear hK K
          (try simp only [Act.put, List.setIfInBounds_toArray, List.set_cons_zero, List.set_cons_succ])
          refine wpT_one (k := 4) rfl (by kernel_rfl) (fun K hK => ?_)
          go_simp
          refine hK.out _ _ ?_ (fun hHeld => ?_)
          · exact cell_alloc _ (A7.out.x.cell (i := 1) rfl)
          clear hK K
          (try simp only [Act.put, List.setIfInBounds_toArray, List.set_cons_zero, List.set_cons_succ])
          have hlx : xs.length ≤ 16 := by have := HXL.out; omega
          refine wpT_one (k := 5) rfl (by kernel_rfl) (fun K hK => ?_)
          refine step_one1 elem_intv (cs := [.int .i64 v7]) (by rfl) _ _ (by rfl) (by rfl) (by rfl) rfl O7.out rfl (by intro c hc; simp at hc; subst hc; rfl) (by first | omega | (simp; omega)) (by first | omega | (simp; omega)) (by have := A7.out.tx.size; omega) ?_
          intro v' w8 ho8 hb8 hg8
          obtain ⟨a8, c8, rfl, _⟩ := own_sl ho8
          have C7 := hid (A7.out.pushI rfl O7.out hg8.1 (OwnI.of_app ho8))
          have y0 := C7.out.1.1
          have yf := C7.out.1.2
          refine hK.out _ _ ?_ (fun hHeld => ?_)
          · exact y0
          clear hK K
          (try simp only [Act.put, List.setIfInBounds_toArray, List.set_cons_zero, List.set_cons_succ])
          repeat ((first | refine tk 6 ?_ rfl ?_ ?_); rotate_left; (intro wy hSw; (try dsimp only at hSw); (go_simp <;> with_reducible rfl)); (try simp only [List.getElem_toArray, List.getElem_cons_zero, List.getElem_cons_succ, Act.put, List.setIfInBounds_toArray, List.set_cons_zero, List.set_cons_succ]))
          refine wpT_done (by kernel_rfl) ?_
          go_wp2_with fail
          go_roundw
          case rel => exact ⟨j + 1, _, xs ++ [v7], s7, hlt2, by go_num, by have := HXL.out; simp; omega, S7, HM7, hid C7.out.2.1, hid C7.out.2.2.1⟩
          case measure => simp [RowKit.intOf]; omega
        obtain rfl : j = N4 := by omega
        have HM5 := hid (show P = LG 9 up9 (N - (k + 1)) (mm, cc) ((v3, xs), s5) from HM5.out.trans (by rw [Nat.sub_self]; rfl))
        obtain ⟨bo, cbp, rfl, _⟩ := own_sl O5.out
        clear hxl hlt2
        have HX6 := hid (show EEl (World.drew _) H [.int .i64 v3, .slice bo xs.length cbp] (v3, xs) from ⟨_, rfl, own_mono' O5.out (by obtain ⟨az, gz⟩ := A5.out.sx; exact gz.size)⟩)
        have A6 := A5
        have A6 := hid A6.out.drew
        go_wp2_with fail
        refine wp_region_tail (S := (fun w' => w'.cell? ⟨M, 9, none⟩ = some (.slice ao n0 cap) ∧ w'.cell? ⟨X, 0, none⟩ = some (.int .i64 v3) ∧ w'.cell? ⟨X, 1, none⟩ = some (.slice bo xs.length cbp))) 10 (by kernel_rfl) (by kernel_rfl) ?_ (fun hHeld => ?_)
        · exact ⟨A6.out.ms.mo.blk.cell (i := 9) rfl, A6.out.x.cell (i := 0) rfl, A6.out.x.cell (i := 1) rfl⟩
        repeat ((first | refine tk 0 ?_ rfl ?_ ?_ | refine tk 1 ?_ rfl ?_ ?_ | refine tk 2 ?_ rfl ?_ ?_ | refine tk 3 ?_ rfl ?_ ?_ | refine tk 4 ?_ rfl ?_ ?_ | refine tk 5 ?_ rfl ?_ ?_ | refine tk 8 ?_ rfl ?_ ?_ | refine tk 9 ?_ rfl ?_ ?_); rotate_left; (intro wy hSw; (try dsimp only at hSw); (go_simp <;> with_reducible rfl)); (try simp only [List.getElem_toArray, List.getElem_cons_zero, List.getElem_cons_succ, Act.put, List.setIfInBounds_toArray, List.set_cons_zero, List.set_cons_succ]))
        skip
        refine wpT_one (k := 6) rfl (by kernel_rfl) (fun K hK => ?_)
        go_simp
        refine hK.out _ _ ?_ (fun hHeld => ?_)
        · exact ⟨cell_alloc _ (A6.out.ms.mo.blk.cell (i := 9) rfl), cell_alloc _ (A6.out.x.cell (i := 0) rfl), cell_alloc _ (A6.out.x.cell (i := 1) rfl)⟩
        clear hK K
        (try simp only [Act.put, List.setIfInBounds_toArray, List.set_cons_zero, List.set_cons_succ])
        obtain ⟨css, HC, hrow⟩ := A6.out.ms.mo.e
        have HBN2 := HBN.out
        have HN02 := HN0.out
        rw [HN02] at hrow HBN2
        refine wpT_one (k := 7) rfl (by kernel_rfl) (fun K hK => ?_)
        refine step_one1 elem_elemv (cs := [.int .i64 v3, .slice bo xs.length cbp]) (by rfl) _ _ (by rfl) (by rfl) (by rfl) rfl hrow rfl (by intro c hc; simp at hc; rcases hc with rfl | rfl <;> rfl) (by omega) (by omega) A6.out.ms.size ?_
        intro v' w6 ho6 hb6 hg6
        obtain ⟨az, cz, rfl, _⟩ := own_sl ho6
        have C4 := hid (A6.out.ms.pushE HN02 HC hrow HX6.out hg6.1 ho6)
        have y0 := C4.out.1.1
        have yf := C4.out.1.2
        have hxk := A6.out.xkeep HRL.out hg6.1
        refine hK.out _ _ ?_ (fun hHeld => ?_)
        · exact ⟨y0, hxk.cell (i := 0) rfl, hxk.cell (i := 1) rfl⟩
        clear hK K
        (try simp only [Act.put, List.setIfInBounds_toArray, List.set_cons_zero, List.set_cons_succ])
        repeat ((first | refine tk 8 ?_ rfl ?_ ?_ | refine tk 9 ?_ rfl ?_ ?_); rotate_left; (intro wy hSw; (try dsimp only at hSw); (go_simp <;> with_reducible rfl)); (try simp only [List.getElem_toArray, List.getElem_cons_zero, List.getElem_cons_succ, Act.put, List.setIfInBounds_toArray, List.set_cons_zero, List.set_cons_succ]))
        refine wpT_done (by kernel_rfl) ?_
        go_wp2_with fail
        go_roundw
        case rel => exact ⟨k + 1, _, _, _, _, _, _, _, _, { mm with elems := mm.elems ++ [(v3, xs)] }, cc, s5, hlt, by go_num, hid (by have := HBN.out; show (mm.elems ++ [_]).length ≤ _; rw [List.length_append, List.length_singleton]; omega), S5, hid HM5.out, hid C4.out.2⟩
        case measure => simp [RowKit.intOf]; omega
    have HM3 := hid (show P = ((mm, cc), s2) from HM2.out.trans (by rw [show N - k = 0 by omega]; rfl))
    go_wp2_with fail
    first | go_end0 | refine bodyPost_ret (results_none rfl _ _ _) rfl ?_
    exact ⟨rfl, vt, vi, vf, vg, vx, ve, vd, kv, by rw [HM3.out]; exact A2.out⟩
end Go.Proofs.YtakfineljffoaaaGreatDoor
