/-
  MODULES AS BYTES, the reference's BinWrite, over the contracts of BinCheck and sections. No condition besides.
-/
import Derived.Test.YthoalneknadheaaGreatDoorGBinWrites30
import Derived.Test.YthoalneknadheaaGreatDoorGBinWrites37
import Derived.Test.YthoalneknadheaaGreatDoorGBinWrites38
import Derived.Test.YthoalneknadheaaGreatDoorGBinWrites45
import Derived.Test.YthoalneknadheaaGreatDoorGBinWrites47
import Derived.Test.YthoalneknadheaaGreatDoorGBinWrites48
import Derived.Test.YthoalneknadheaaGreatDoorRows
import Derived.PinnedBridge
namespace Go.Proofs.YthoalneknadheaaGreatDoor
open Go.RowKit

theorem sumC_bulk {α : Type} (c b : α → Nat) (h : ∀ x, c x ≤ 4 * b x) (l : List α) : sumC c l ≤ 4 * (l.map b).sum := by
  unfold sumC
  induction l with
  | nil => simp
  | cons x r ih =>
    have := h x
    simp only [List.map_cons, List.sum_cons]
    omega
theorem ones_sum (l : List Int) : (l.map (fun _ => 1)).sum = l.length := by
  induction l with
  | nil => rfl
  | cons a r ih => rw [List.map_cons, List.sum_cons, ih, List.length_cons]; omega
theorem bSig (y : D_api_Sig) : cSig y ≤ 4 * b_api_Sig y := by
  unfold cSig b_api_Sig c_api_Sig b_s_api_Kind
  simp only [ones_sum]
  omega
theorem bFunc (y : D_api_Func) : cFunc y ≤ 4 * b_api_Func y := by
  unfold cFunc b_api_Func c_api_Func b_s_api_Kind b_s_api_Ins
  simp only [ones_sum]
  omega
theorem bElem (y : D_api_Elem) : cElem y ≤ 4 * b_api_Elem y := by
  unfold cElem b_api_Elem c_api_Elem b_s_int
  simp only [ones_sum]
  omega
end Go.Proofs.YthoalneknadheaaGreatDoor
namespace Go.Proofs.YthoalneknadheaaGreatDoor
open Go.RowKit Go.Lib

set_option maxRecDepth 100000 in
set_option maxHeartbeats 8000000 in
theorem rwrite_any (W : World) (cs : List Value) (y : D_api_Module) (hR : R_api_Module W cs y)
    (hCK : ∀ wx, Below W.heap.size W wx → Calls Tryz.prog 32 #[.agg cs.toArray] wx fun e w' => e = .returned (.int .i64 (fModule y)) ∧ Below wx.heap.size wx w')
    (hSE : fModule y = 0 → ∀ wx, Below W.heap.size W wx → Calls Tryz.prog 33 #[.agg cs.toArray] wx fun e w' => e = .returned (.agg (secVals y)) ∧ Below wx.heap.size wx w') :
    Calls Tryz.prog 6 #[.agg cs.toArray] W fun e w' => e = .returned (.tuple #[.string (wModX y), .int .i64 (wModE y)]) ∧ Below W.heap.size W w' := by
  have HCK := hid hCK
  have HSE := hid hSE
  clear hCK hSE
  obtain ⟨_, _, rfl, h1, _, _, rfl, h2, _, _, rfl, h3, _, _, rfl, ⟨rfl, _⟩, _, _, rfl, ⟨rfl, _⟩, _, _, rfl, ⟨rfl, _⟩, _, _, rfl, h4, _, _, rfl, h5, _, _, rfl, ⟨rfl, _⟩, _, _, rfl, h6, _, _, rfl, h7, rfl⟩ := hR
  obtain ⟨u1, rfl⟩ := sl_one h1
  obtain ⟨u2, rfl⟩ := sl_one h2
  obtain ⟨u3, rfl⟩ := sl_one h3
  obtain ⟨u4, rfl⟩ := sl_one h4
  obtain ⟨u5, rfl⟩ := sl_one h5
  obtain ⟨u6, rfl⟩ := sl_one h6
  obtain ⟨u7, rfl⟩ := sl_one h7
  obtain ⟨a1, k1, rfl, _, _, _⟩ := sl_shape h1
  obtain ⟨a2, k2, rfl, _, _, _⟩ := sl_shape h2
  obtain ⟨a3, k3, rfl, _, _, _⟩ := sl_shape h3
  obtain ⟨a4, k4, rfl, _, _, _⟩ := sl_shape h4
  obtain ⟨a5, k5, rfl, _, _, _⟩ := sl_shape h5
  obtain ⟨a6, k6, rfl, _, _, _⟩ := sl_shape h6
  obtain ⟨a7, k7, rfl, _, _, _⟩ := sl_shape h7
  clear h1 h2 h3 h4 h5 h6 h7
  have BM := Blk.new W #[.slice a1 y.1.length k1, .slice a2 y.2.1.length k2, .slice a3 y.2.2.1.length k3, .int .i64 y.2.2.2.1, .int .i64 y.2.2.2.2.1, .int .i64 y.2.2.2.2.2.1, .slice a4 y.2.2.2.2.2.2.1.length k4, .slice a5 y.2.2.2.2.2.2.2.1.length k5, .int .i64 y.2.2.2.2.2.2.2.2.1, .slice a6 y.2.2.2.2.2.2.2.2.2.1.length k6, .slice a7 y.2.2.2.2.2.2.2.2.2.2.1.length k7] 30 _ rfl
  have BQ := hid BM
  have bm := (Below.refl W.heap.size W).alloc (Nat.le_refl _) (.cells #[.slice a1 y.1.length k1, .slice a2 y.2.1.length k2, .slice a3 y.2.2.1.length k3, .int .i64 y.2.2.2.1, .int .i64 y.2.2.2.2.1, .int .i64 y.2.2.2.2.2.1, .slice a4 y.2.2.2.2.2.2.1.length k4, .slice a5 y.2.2.2.2.2.2.2.1.length k5, .int .i64 y.2.2.2.2.2.2.2.2.1, .slice a6 y.2.2.2.2.2.2.2.2.2.1.length k6, .slice a7 y.2.2.2.2.2.2.2.2.2.2.1.length k7] 30)
  have BX := hid bm
  clear bm BM
  by_cases hz : fModule y = 0
  case neg =>
    have HWX := hid (show wModX y = ⟨#[]⟩ from if_neg (fun h => hz h.1))
    have HWE := hid (show wModE y = fModule y from if_neg hz)
    have hz1 : (fModule y == 0) = false := by rw [beq_eq_false_iff_ne]; exact hz
    have hz2 : (fModule y != 0) = true := by rw [bne, hz1]; rfl
    clear HSE
    generalize fModule y = F at *
    clear hz
    go_enter Tryz.func6, Tryz.ntmps6
    go_wp2_with fail
    refine (HCK.out _ BX.out).mono ?_
    rintro r w1 ⟨rfl, hb1⟩
    have B1 := hid (BX.out.trans (hb1.mono BX.out.size))
    clear hb1
    go_wp2_with fail
    go_ret2
    exact ⟨by rw [HWX.out, HWE.out]; rfl, B1.out⟩
  have HS := hid (HSE.out hz)
  have GW := hid (goodW hz)
  have HWX := hid (show wModX y = if (outK y 12).size ≤ 4096 then outK y 12 else ⟨#[]⟩ from by rw [outK_all]; unfold wModX; by_cases h : (allB y).size ≤ 4096; rw [if_pos ⟨hz, h⟩, if_pos h]; rw [if_neg (fun g => h g.2), if_neg h])
  have HWE := hid (show wModE y = if (outK y 12).size ≤ 4096 then 0 else 2 from by rw [outK_all]; exact if_pos hz)
  rw [hz] at HCK
  clear hz HSE
  obtain ⟨X, hX⟩ : ∃ X, wModX y = X := ⟨_, rfl⟩
  obtain ⟨E, hE⟩ : ∃ E, wModE y = E := ⟨_, rfl⟩
  rw [hX, hE]
  rw [hX] at HWX
  rw [hE] at HWE
  clear hX hE
  go_enter Tryz.func6, Tryz.ntmps6
  go_wp2_with fail
  refine (HCK.out _ BX.out).mono ?_
  rintro r w1 ⟨rfl, hb1⟩
  have B1 := hid (BX.out.trans (hb1.mono BX.out.size))
  have BQ1 := hid (BQ.out.below hb1)
  clear hb1
  have m0 := BQ1.out.cell (i := 0) rfl
  have m1 := BQ1.out.cell (i := 1) rfl
  have m2 := BQ1.out.cell (i := 2) rfl
  have m3 := BQ1.out.cell (i := 3) rfl
  have m4 := BQ1.out.cell (i := 4) rfl
  have m5 := BQ1.out.cell (i := 5) rfl
  have m6 := BQ1.out.cell (i := 6) rfl
  have m7 := BQ1.out.cell (i := 7) rfl
  have m8 := BQ1.out.cell (i := 8) rfl
  have m9 := BQ1.out.cell (i := 9) rfl
  have m10 := BQ1.out.cell (i := 10) rfl
  go_wp2_with fail
  clear m0 m1 m2 m3 m4 m5 m6 m7 m8 m9 m10
  refine (HS.out _ B1.out).mono ?_
  rintro r w2 ⟨rfl, hb2⟩
  have B2 := hid (B1.out.trans (hb2.mono B1.out.size))
  clear hb2
  go_wp2_with fail
  go_loopw [5, 6, 7, 15] (fun o _ _ i wr => ∃ k : Nat, k ≤ 12 ∧ i = .int .i64 k ∧ o = .string (outK y k) ∧ Hid (Below W.heap.size W wr)) (fun _ _ _ i _ => 12 - (RowKit.intOf i).toNat)
  case atStart => exact ⟨0, by omega, rfl, rfl, B2⟩
  case round =>
    obtain ⟨k, hk, rfl, rfl, BW⟩ := hrel
    by_cases hlt : k < 12
    · have hix := secIdx y k hlt wr
      have hos := outK_size GW.out k hk
      have hss := secAt_size GW.out k hlt
      have HNX := hid (show outK y (k + 1) = outK y k ++ secB k (secAt y k) from rfl)
      have hk12 : (k : Int) < 12 := by omega
      generalize outK y k = o at *
      generalize secAt y k = s at *
      by_cases hz : s.size = 0
      · have hz2 : s.toList.isEmpty = true := by
          rw [ByteArray.toList_eq, List.isEmpty_iff, ← List.length_eq_zero_iff, Array.length_toList]
          exact hz
        have HN2 := hid (show outK y (k + 1) = o from by rw [HNX.out]; unfold secB; rw [if_pos hz, ba_nil])
        clear hz hos hss HNX
        go_wp2_with fail
        go_roundw
        case rel => exact ⟨k + 1, by omega, by go_num, by rw [HN2.out], BW⟩
        case measure => simp [RowKit.intOf]; omega
      · have hz2 : s.toList.isEmpty = false := by
          rw [ByteArray.toList_eq, List.isEmpty_eq_false_iff]
          intro h
          apply hz
          show s.data.size = 0
          rw [← Array.length_toList, h]
          rfl
        obtain ⟨A, hA⟩ : ∃ A, oneB (k : Int) = A := ⟨_, rfl⟩
        obtain ⟨B, hB⟩ : ∃ B, numB (s.size : Int) = B := ⟨_, rfl⟩
        have HN2 := hid (show outK y (k + 1) = o ++ (A ++ B ++ s) from by rw [HNX.out, ← hA, ← hB]; unfold secB; rw [if_neg hz])
        have HCH := hid (fun wx => (chr_any (k : Int) wx).mono (fun e w' (h : e = .returned (.string (S [byteOf (k : Int)])) ∧ Below wx.heap.size wx w') => (show e = .returned (.string (oneB (k : Int))) ∧ Below wx.heap.size wx w' from h)))
        have HU := hid (fun wx => ru_any s.size (by omega) wx)
        rw [hA] at HCH
        rw [hB] at HU
        have sA : A.size = 1 := by rw [← hA]; exact oneB_size _
        have sB : B.size ≤ 10 := by rw [← hB]; exact numB_size _
        have q0 : ¬ 9223372036854775807 < A.size + B.size := by omega
        have q1 : ¬ 9223372036854775807 < A.size + B.size + s.size := by omega
        have q2 : ¬ 9223372036854775807 < o.size + (A.size + B.size + s.size) := by omega
        have q1' : ¬ 9223372036854775807 < (A ++ B).size + s.size := by rw [ba_size]; omega
        have q2' : ¬ 9223372036854775807 < o.size + (A ++ B ++ s).size := by rw [ba_size, ba_size]; omega
        clear hz hos hss HNX sA sB hA hB
        go_wp2_with fail
        refine (HCH.out _).mono ?_
        rintro r e1 ⟨rfl, hb1⟩
        have C1 := hid (BW.out.trans (hb1.mono BW.out.size))
        clear hb1
        go_wp2_with fail
        refine (HU.out _).mono ?_
        rintro r e2 ⟨rfl, hb1⟩
        have C2 := hid (C1.out.trans (hb1.mono C1.out.size))
        clear hb1
        go_wp2_with fail
        go_roundw
        case rel => exact ⟨k + 1, by omega, by go_num, by rw [HN2.out], C2⟩
        case measure => simp [RowKit.intOf]; omega
    · obtain rfl : k = 12 := by omega
      have hz := outK_size GW.out 12 (by omega)
      generalize outK y 12 = o at *
      clear hk hlt
      by_cases hs : o.size ≤ 4096
      · have hs1 : ¬ (4096 : Int) < o.size := by omega
        have HX := hid (HWX.out.trans (if_pos hs))
        have HE := hid (HWE.out.trans (if_pos hs))
        clear hs hz
        go_wp2_with fail
        go_ret2
        exact ⟨by rw [HX.out, HE.out]; rfl, BW.out⟩
      · have hs1 : (4096 : Int) < o.size := by omega
        have HX := hid (HWX.out.trans (if_neg hs))
        have HE := hid (HWE.out.trans (if_neg hs))
        clear hs hz
        go_wp2_with fail
        go_ret2
        exact ⟨by rw [HX.out, HE.out]; rfl, BW.out⟩
end Go.Proofs.YthoalneknadheaaGreatDoor
namespace Go.Proofs.YthoalneknadheaaGreatDoor
open Go.RowKit

theorem laid_accept : (Rows.laid_unicode_utf8_acceptRanges : DataW Unit) = Lib.acceptData := by kernel_rfl
theorem utabs_of_laid {W : World} (hL : laidMet Tryz.prog Rows.binWritesUptoRow.laid W) : UTabs W := by
  have h3 := Lib.laidMet.reads hL (n := "unicode/utf8.first") (d := Rows.laid_unicode_utf8_first) (by simp [Rows.binWritesUptoRow])
  have h4 := Lib.laidMet.reads hL (n := "unicode/utf8.acceptRanges") (d := Rows.laid_unicode_utf8_acceptRanges) (by simp [Rows.binWritesUptoRow])
  rw [show Rows.laid_unicode_utf8_first = Lib.firstData from Pinned.utf8First_eq] at h3
  rw [laid_accept] at h4
  exact utf8Tabs_of_readsT { Tryz.laysValid with } u8extra h3 h4
set_option maxRecDepth 100000 in
set_option maxHeartbeats 8000000 in
theorem law_BinWrites (v0 : Value) (x0 : D_api_Module) (W : World) (i0 : IsAgg (R_api_Module W) v0 x0) (hB : b_api_Module x0 ≤ 1048576) (hT : UTabs W) (hM : MaxL W) :
    Calls Tryz.prog 3 #[v0] W fun e w' => e = .returned (.bool true) ∧ Below W.heap.size W w' := by
  obtain ⟨cs, rfl, hR⟩ := i0
  have g1 := sumC_bulk cSig b_api_Sig bSig x0.1
  have g2 := sumC_bulk cImport b_api_Import (fun y => by unfold cImport b_api_Import; omega) x0.2.1
  have g3 := sumC_bulk cFunc b_api_Func bFunc x0.2.2.1
  have g4 := sumC_bulk cGlobal b_api_Global (fun y => by unfold cGlobal b_api_Global; omega) x0.2.2.2.2.2.2.1
  have g5 := sumC_bulk cExport b_api_Export (fun y => by unfold cExport b_api_Export; omega) x0.2.2.2.2.2.2.2.1
  have g6 := sumC_bulk cElem b_api_Elem bElem x0.2.2.2.2.2.2.2.2.2.1
  have g7 := sumC_bulk cData b_api_Data (fun y => by unfold cData b_api_Data; omega) x0.2.2.2.2.2.2.2.2.2.2.1
  unfold b_api_Module c_api_Module b_s_api_Sig b_s_api_Import b_s_api_Func b_s_api_Global b_s_api_Export b_s_api_Elem b_s_api_Data at hB
  simp only at hB
  have HP := hid (fun wx (hb : Below W.heap.size W wx) => pwrite_any wx cs x0 (hT.below hb) (module_bel hR hb))
  have HQ := hid (fun wx (hb : Below W.heap.size W wx) => rwrite_any wx cs x0 (module_bel hR hb) (fun wy hy => refCheck_any wy cs x0 ((hM.below hb).below hy) (module_bel (module_bel hR hb) hy) (by omega) (by omega) (by omega) (by omega) (by omega) (by omega) (by omega)) (fun hz wy hy => rsections_any wy cs x0 ((hM.below hb).below hy) hz (module_bel (module_bel hR hb) hy)))
  clear g1 g2 g3 g4 g5 g6 g7 hB hT hM
  generalize wModX x0 = X at *
  generalize wModE x0 = E at *
  obtain ⟨_, _, rfl, h1, _, _, rfl, h2, _, _, rfl, h3, _, _, rfl, ⟨rfl, _⟩, _, _, rfl, ⟨rfl, _⟩, _, _, rfl, ⟨rfl, _⟩, _, _, rfl, h4, _, _, rfl, h5, _, _, rfl, ⟨rfl, _⟩, _, _, rfl, h6, _, _, rfl, h7, rfl⟩ := hR
  obtain ⟨u1, rfl⟩ := sl_one h1
  obtain ⟨u2, rfl⟩ := sl_one h2
  obtain ⟨u3, rfl⟩ := sl_one h3
  obtain ⟨u4, rfl⟩ := sl_one h4
  obtain ⟨u5, rfl⟩ := sl_one h5
  obtain ⟨u6, rfl⟩ := sl_one h6
  obtain ⟨u7, rfl⟩ := sl_one h7
  obtain ⟨a1, k1, rfl, _, _, _⟩ := sl_shape h1
  obtain ⟨a2, k2, rfl, _, _, _⟩ := sl_shape h2
  obtain ⟨a3, k3, rfl, _, _, _⟩ := sl_shape h3
  obtain ⟨a4, k4, rfl, _, _, _⟩ := sl_shape h4
  obtain ⟨a5, k5, rfl, _, _, _⟩ := sl_shape h5
  obtain ⟨a6, k6, rfl, _, _, _⟩ := sl_shape h6
  obtain ⟨a7, k7, rfl, _, _, _⟩ := sl_shape h7
  clear h1 h2 h3 h4 h5 h6 h7
  have hX := Blk.new W #[.slice a1 x0.1.length k1, .slice a2 x0.2.1.length k2, .slice a3 x0.2.2.1.length k3, .int .i64 x0.2.2.2.1, .int .i64 x0.2.2.2.2.1, .int .i64 x0.2.2.2.2.2.1, .slice a4 x0.2.2.2.2.2.2.1.length k4, .slice a5 x0.2.2.2.2.2.2.2.1.length k5, .int .i64 x0.2.2.2.2.2.2.2.2.1, .slice a6 x0.2.2.2.2.2.2.2.2.2.1.length k6, .slice a7 x0.2.2.2.2.2.2.2.2.2.2.1.length k7] 30 _ rfl
  have X0 := hid hX
  have b0 := (Below.refl W.heap.size W).alloc (Nat.le_refl _) (.cells #[.slice a1 x0.1.length k1, .slice a2 x0.2.1.length k2, .slice a3 x0.2.2.1.length k3, .int .i64 x0.2.2.2.1, .int .i64 x0.2.2.2.2.1, .int .i64 x0.2.2.2.2.2.1, .slice a4 x0.2.2.2.2.2.2.1.length k4, .slice a5 x0.2.2.2.2.2.2.2.1.length k5, .int .i64 x0.2.2.2.2.2.2.2.2.1, .slice a6 x0.2.2.2.2.2.2.2.2.2.1.length k6, .slice a7 x0.2.2.2.2.2.2.2.2.2.2.1.length k7] 30)
  have B0 := hid b0
  clear hX b0
  have m0 := X0.out.cell (i := 0) rfl
  have m1 := X0.out.cell (i := 1) rfl
  have m2 := X0.out.cell (i := 2) rfl
  have m3 := X0.out.cell (i := 3) rfl
  have m4 := X0.out.cell (i := 4) rfl
  have m5 := X0.out.cell (i := 5) rfl
  have m6 := X0.out.cell (i := 6) rfl
  have m7 := X0.out.cell (i := 7) rfl
  have m8 := X0.out.cell (i := 8) rfl
  have m9 := X0.out.cell (i := 9) rfl
  have m10 := X0.out.cell (i := 10) rfl
  go_enter Tryz.func3, Tryz.ntmps3
  go_wp2_with fail
  clear m0 m1 m2 m3 m4 m5 m6 m7 m8 m9 m10
  refine (HP.out _ B0.out).mono ?_
  rintro r w1 ⟨rfl, hb1⟩
  have B1 := hid (B0.out.trans (hb1.mono B0.out.size))
  have X1 := hid (X0.out.below hb1)
  clear hb1
  have m0 := X1.out.cell (i := 0) rfl
  have m1 := X1.out.cell (i := 1) rfl
  have m2 := X1.out.cell (i := 2) rfl
  have m3 := X1.out.cell (i := 3) rfl
  have m4 := X1.out.cell (i := 4) rfl
  have m5 := X1.out.cell (i := 5) rfl
  have m6 := X1.out.cell (i := 6) rfl
  have m7 := X1.out.cell (i := 7) rfl
  have m8 := X1.out.cell (i := 8) rfl
  have m9 := X1.out.cell (i := 9) rfl
  have m10 := X1.out.cell (i := 10) rfl
  go_wp2_with fail
  clear m0 m1 m2 m3 m4 m5 m6 m7 m8 m9 m10
  refine (HQ.out _ B1.out).mono ?_
  rintro r w2 ⟨rfl, hb2⟩
  have B2 := hid (B1.out.trans (hb2.mono B1.out.size))
  clear hb2
  go_wp2_with fail
  go_ret
  exact ⟨rfl, B2.out⟩
end Go.Proofs.YthoalneknadheaaGreatDoor
