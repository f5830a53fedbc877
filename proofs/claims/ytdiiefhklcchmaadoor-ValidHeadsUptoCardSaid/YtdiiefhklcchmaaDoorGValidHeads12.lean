/-
  HEADS OF MODULES, the program's: Head. Condition: unicode/utf8's two tables hold what the row lists.
-/
import Derived.Test.YtdiiefhklcchmaaDoorGValidHeads11
namespace Go.Proofs.YtdiiefhklcchmaaDoor
open Go.RowKit Go.Lib

def vExF (y : D_api_Module) (k : Nat) : Int := if h : k < y.2.2.2.2.2.2.2.1.length then vEx1 (vMany y) (y.2.2.2.2.2.2.2.1.take k) (y.2.2.2.2.2.2.2.1[k]) else 0
theorem vExF_at {y : D_api_Module} {k : Nat} (h : k < y.2.2.2.2.2.2.2.1.length) : vExF y k = vEx1 (vMany y) (y.2.2.2.2.2.2.2.1.take k) (y.2.2.2.2.2.2.2.1[k]) := dif_pos h
theorem vExp_eq (y : D_api_Module) : vExp y = foldI (vExF y) y.2.2.2.2.2.2.2.1.length := rfl
theorem foldI_hit {F : Nat → Int} {n k : Nat} {e : Int} (h : foldI F k = 0) (hk : k < n) (hf : F k = e) (he : e ≠ 0) : foldI F n = e := by
  have h1 : foldI F (k + 1) = e := by rw [foldI, h, hf]; rfl
  rw [foldI_stop F n (k + 1) (by omega) (by rw [h1]; exact he), h1]
theorem foldI_step {F : Nat → Int} {k : Nat} (h : foldI F k = 0) (hf : F k = 0) : foldI F (k + 1) = 0 := by rw [foldI, h, hf]; rfl
theorem vSig_small {y : D_api_Module} (hg : GoodM y) (n : Int) : (vSig y n).1.length ≤ 4 ∧ (vSig y n).2.1.length ≤ 1 := by
  unfold vSig
  split
  · rw [List.getD_eq_getElem?_getD]
    rcases Nat.lt_or_ge ((vTys y).getD n.toNat 0).toNat y.1.length with h | h
    · rw [List.getElem?_eq_getElem h]
      exact hg.sigs _ (List.getElem_mem h)
    · rw [List.getElem?_eq_none h]
      exact ⟨by decide, by decide⟩
  · exact ⟨by decide, by decide⟩
theorem vIdx_no {n t : Int} (h : ¬ n ≤ t) : vIdx n t = 0 := by unfold vIdx; rw [decide_eq_false h]; rfl
theorem vIdx_yes {n t : Int} (h : n ≤ t) : vIdx n t = 8 := by unfold vIdx; rw [decide_eq_true h]; rfl
set_option maxRecDepth 100000 in
set_option maxHeartbeats 16000000 in
theorem phead_any (W w : World) (cs : List Value) (y : D_api_Module) (hb : Below W.heap.size W w) (hT : UTabs W) (hR : R_api_Module W cs y) :
    Calls Tryd.prog 7 #[.agg cs.toArray] w fun e w' => e = .returned (.int .i64 (vHead y)) ∧ Below W.heap.size W w' := by
  have HCK := hid (fun wx (hx : Below W.heap.size W wx) => binCheck_any wx cs y (hT.below hx) (module_bel hR hx))
  have HTY := hid (fun (hg : GoodM y) (ht : ∀ t ∈ vTys y, 0 ≤ t ∧ t < y.1.length) wx (hx : Below W.heap.size W wx) n (hn : -1 ≤ n ∧ n ≤ 4294967295) => ptyp_any wx cs y n (by omega) hg ht (module_bel hR hx))
  have HPA := hid (fun (hg : GoodM y) (ht : ∀ t ∈ vTys y, 0 ≤ t ∧ t < y.1.length) wx (hx : Below W.heap.size W wx) => pparts_any W wx cs y hx hg ht hR)
  obtain ⟨_, _, rfl, h1, _, _, rfl, h2, _, _, rfl, h3, _, _, rfl, ⟨rfl, _⟩, _, _, rfl, ⟨rfl, _⟩, _, _, rfl, ⟨rfl, _⟩, _, _, rfl, h4, _, _, rfl, h5, _, _, rfl, ⟨rfl, _⟩, _, _, rfl, h6, _, _, rfl, h7, rfl⟩ := hR
  obtain ⟨u1, rfl⟩ := sl_one h1
  have K1 := hid h1
  obtain ⟨u2, rfl⟩ := sl_one h2
  have K2 := hid h2
  obtain ⟨u3, rfl⟩ := sl_one h3
  have K3 := hid h3
  obtain ⟨u4, rfl⟩ := sl_one h4
  have K4 := hid h4
  obtain ⟨u5, rfl⟩ := sl_one h5
  have K5 := hid h5
  obtain ⟨u6, rfl⟩ := sl_one h6
  have K6 := hid h6
  obtain ⟨u7, rfl⟩ := sl_one h7
  have K7 := hid h7
  obtain ⟨a1, k1, rfl, kb1, kc1, _⟩ := sl_shape h1
  obtain ⟨a2, k2, rfl, kb2, kc2, _⟩ := sl_shape h2
  obtain ⟨a3, k3, rfl, kb3, kc3, _⟩ := sl_shape h3
  obtain ⟨a4, k4, rfl, kb4, kc4, _⟩ := sl_shape h4
  obtain ⟨a5, k5, rfl, kb5, kc5, _⟩ := sl_shape h5
  obtain ⟨a6, k6, rfl, kb6, kc6, _⟩ := sl_shape h6
  obtain ⟨a7, k7, rfl, kb7, kc7, _⟩ := sl_shape h7
  clear h1 h2 h3 h4 h5 h6 h7
  have HM0 := hid (show MB W (w.alloc (.cells #[.slice a1 y.1.length k1, .slice a2 y.2.1.length k2, .slice a3 y.2.2.1.length k3, .int .i64 y.2.2.2.1, .int .i64 y.2.2.2.2.1, .int .i64 y.2.2.2.2.2.1, .slice a4 y.2.2.2.2.2.2.1.length k4, .slice a5 y.2.2.2.2.2.2.2.1.length k5, .int .i64 y.2.2.2.2.2.2.2.2.1, .slice a6 y.2.2.2.2.2.2.2.2.2.1.length k6, .slice a7 y.2.2.2.2.2.2.2.2.2.2.1.length k7] 30)) w.heap.size [.slice a1 y.1.length k1, .slice a2 y.2.1.length k2, .slice a3 y.2.2.1.length k3, .int .i64 y.2.2.2.1, .int .i64 y.2.2.2.2.1, .int .i64 y.2.2.2.2.2.1, .slice a4 y.2.2.2.2.2.2.1.length k4, .slice a5 y.2.2.2.2.2.2.2.1.length k5, .int .i64 y.2.2.2.2.2.2.2.2.1, .slice a6 y.2.2.2.2.2.2.2.2.2.1.length k6, .slice a7 y.2.2.2.2.2.2.2.2.2.2.1.length k7] from ⟨Blk.new w #[.slice a1 y.1.length k1, .slice a2 y.2.1.length k2, .slice a3 y.2.2.1.length k3, .int .i64 y.2.2.2.1, .int .i64 y.2.2.2.2.1, .int .i64 y.2.2.2.2.2.1, .slice a4 y.2.2.2.2.2.2.1.length k4, .slice a5 y.2.2.2.2.2.2.2.1.length k5, .int .i64 y.2.2.2.2.2.2.2.2.1, .slice a6 y.2.2.2.2.2.2.2.2.2.1.length k6, .slice a7 y.2.2.2.2.2.2.2.2.2.2.1.length k7] 30 _ rfl, hb.alloc hb.size _⟩)
  clear hT hb
  obtain ⟨E, hE⟩ : ∃ E, fModule y = E := ⟨_, rfl⟩
  have HEE := hid hE
  rw [hE] at HCK
  clear hE
  have hbx : ∀ w : World, (Instr.makeMap 79 none).run Tryd.prog w = .ok (.map (some w.heap.size)) (w.alloc (.map #[] 0)) := fun w => by kernel_rfl
  have m0 := HM0.out.m.cell (i := 0) rfl
  have m1 := HM0.out.m.cell (i := 1) rfl
  have m2 := HM0.out.m.cell (i := 2) rfl
  have m3 := HM0.out.m.cell (i := 3) rfl
  have m4 := HM0.out.m.cell (i := 4) rfl
  have m5 := HM0.out.m.cell (i := 5) rfl
  have m6 := HM0.out.m.cell (i := 6) rfl
  have m7 := HM0.out.m.cell (i := 7) rfl
  have m8 := HM0.out.m.cell (i := 8) rfl
  have m9 := HM0.out.m.cell (i := 9) rfl
  have m10 := HM0.out.m.cell (i := 10) rfl
  go_enter Tryd.func7, Tryd.ntmps7
  go_wp2_with fail
  clear m0 m1 m2 m3 m4 m5 m6 m7 m8 m9 m10
  refine (HCK.out _ HM0.out.bel).mono ?_
  rintro r w1 ⟨rfl, hb1⟩
  have M1 := hid (HM0.out.below hb1)
  clear hb1
  by_cases he : E = 0
  · subst he
    have hg := good_of HEE.out
    have HG := hid hg
    have hl2 : (y.2.1.length : Int) ≤ 16 := by have := hg.imp.1; omega
    have hl3 : (y.2.2.1.length : Int) ≤ 16 := by have := hg.fun_.1; omega
    have hl1 : (y.1.length : Int) ≤ 16 := by have := hg.typ; omega
    have hl5 : (y.2.2.2.2.2.2.2.1.length : Int) ≤ 8 := by have := hg.exp.1; omega
    have HV0 := hid (show vHead y = orE (vTyp y) (orE (vExp y) (orE (vStart y) (vParts y))) from by unfold vHead; rw [HEE.out]; rfl)
    clear hg
    have m1 := M1.out.m.cell (i := 1) rfl
    go_wp2_with fail
    clear m1
    go_loopw [5, 25] (fun _ i wr => ∃ k : Nat, k ≤ y.2.1.length ∧ i = .int .i64 k ∧ Hid (foldE (fun x : D_api_Import => vIdx y.1.length x.2.1) (y.2.1.take k) = 0) ∧ Hid (MB W wr w.heap.size [.slice a1 y.1.length k1, .slice a2 y.2.1.length k2, .slice a3 y.2.2.1.length k3, .int .i64 y.2.2.2.1, .int .i64 y.2.2.2.2.1, .int .i64 y.2.2.2.2.2.1, .slice a4 y.2.2.2.2.2.2.1.length k4, .slice a5 y.2.2.2.2.2.2.2.1.length k5, .int .i64 y.2.2.2.2.2.2.2.2.1, .slice a6 y.2.2.2.2.2.2.2.2.2.1.length k6, .slice a7 y.2.2.2.2.2.2.2.2.2.2.1.length k7])) (fun _ i _ => y.2.1.length - (RowKit.intOf i).toNat)
    case atStart => exact ⟨0, Nat.zero_le _, rfl, hid rfl, M1⟩
    case round =>
      obtain ⟨k, hk, rfl, ZZ, MM⟩ := hrel
      by_cases hlt : k < y.2.1.length
      · obtain ⟨lb, lo, cap', xs, hv, _, _, _, hX, hcc⟩ := sliceR_at K2.out (by decide) k hlt
        simp only [Value.slice.injEq] at hv
        obtain ⟨rfl, -, rfl⟩ := hv
        have HST := hid (fun e => fold_step (F := fun x : D_api_Import => vIdx y.1.length x.2.1) ZZ.out hlt e)
        have HHI := hid (fun e (h : vIdx y.1.length (y.2.1[k]).2.1 = e) h0 => fold_hit (F := fun x : D_api_Import => vIdx y.1.length x.2.1) ZZ.out hlt h h0)
        have HNB := hid (HG.out.imp.2 _ (List.getElem_mem hlt))
        generalize y.2.1[k] = x at *
        obtain ⟨_, _, rfl, ⟨rfl, _⟩, _, _, rfl, ⟨rfl, _⟩, rfl⟩ := hX
        have y0 : wr.cell? ⟨lb, lo + k * 2, none⟩ = some (.string x.1) := hcc wr MM.out.bel 0 (by decide)
        have y1 : wr.cell? ⟨lb, lo + k * 2 + 1, none⟩ = some (.int .i64 x.2.1) := hcc wr MM.out.bel 1 (by decide)
        clear hcc
        have MA := hid (MM.out.alloc (.cells #[.string x.1, .int .i64 x.2.1] 44))
        have m0 := MA.out.m.cell (i := 0) rfl
        by_cases hbad : (y.1.length : Int) ≤ x.2.1
        · have HV := hid (show vHead y = 8 from by
            rw [HV0.out]; unfold vTyp; rw [HHI.out 8 (vIdx_yes hbad) (by decide)]; rfl)
          go_wp2_with fail
          go_ret
          rw [HV.out]
          exact ⟨rfl, MA.out.bel⟩
        · have HV := hid (HST.out (vIdx_no hbad))
          go_wp2_with fail
          go_roundw
          case rel => exact ⟨k + 1, by omega, by go_num, HV, MA⟩
          case measure => simp [RowKit.intOf]; omega
      · obtain rfl : k = y.2.1.length := by omega
        have Z1 := hid (show foldE (fun x : D_api_Import => vIdx y.1.length x.2.1) y.2.1 = 0 from by have := ZZ.out; rwa [List.take_length] at this)
        have M2 := hid MM.out
        clear ZZ MM hk
        have m2 := M2.out.m.cell (i := 2) rfl
        go_wp2_with fail
        clear m2
        go_loopw [7, 39] (fun _ i wr => ∃ k : Nat, k ≤ y.2.2.1.length ∧ i = .int .i64 k ∧ Hid (foldE (fun x : D_api_Func => vIdx y.1.length x.1) (y.2.2.1.take k) = 0) ∧ Hid (MB W wr w.heap.size [.slice a1 y.1.length k1, .slice a2 y.2.1.length k2, .slice a3 y.2.2.1.length k3, .int .i64 y.2.2.2.1, .int .i64 y.2.2.2.2.1, .int .i64 y.2.2.2.2.2.1, .slice a4 y.2.2.2.2.2.2.1.length k4, .slice a5 y.2.2.2.2.2.2.2.1.length k5, .int .i64 y.2.2.2.2.2.2.2.2.1, .slice a6 y.2.2.2.2.2.2.2.2.2.1.length k6, .slice a7 y.2.2.2.2.2.2.2.2.2.2.1.length k7])) (fun _ i _ => y.2.2.1.length - (RowKit.intOf i).toNat)
        case atStart => exact ⟨0, Nat.zero_le _, rfl, hid rfl, M2⟩
        case round =>
          obtain ⟨k, hk, rfl, ZZ, MM⟩ := hrel
          by_cases hlt : k < y.2.2.1.length
          · obtain ⟨lb, lo, cap', xs, hv, _, _, _, hX, hcc⟩ := sliceR_at K3.out (by decide) k hlt
            simp only [Value.slice.injEq] at hv
            obtain ⟨rfl, -, rfl⟩ := hv
            have HST := hid (fun e => fold_step (F := fun x : D_api_Func => vIdx y.1.length x.1) ZZ.out hlt e)
            have HHI := hid (fun e (h : vIdx y.1.length (y.2.2.1[k]).1 = e) h0 => fold_hit (F := fun x : D_api_Func => vIdx y.1.length x.1) ZZ.out hlt h h0)
            generalize y.2.2.1[k] = x at *
            obtain ⟨_, _, rfl, ⟨rfl, _⟩, _, _, rfl, g1, _, _, rfl, g2, rfl⟩ := hX
            obtain ⟨q1, rfl⟩ := sl_one g1
            obtain ⟨q2, rfl⟩ := sl_one g2
            obtain ⟨e1, d1, rfl, _, _, _⟩ := sl_shape g1
            obtain ⟨e2, d2, rfl, _, _, _⟩ := sl_shape g2
            clear g1 g2
            have y0 : wr.cell? ⟨lb, lo + k * 3, none⟩ = some (.int .i64 x.1) := hcc wr MM.out.bel 0 (by decide)
            have y1 : wr.cell? ⟨lb, lo + k * 3 + 1, none⟩ = some (.slice e1 x.2.1.length d1) := hcc wr MM.out.bel 1 (by decide)
            have y2 : wr.cell? ⟨lb, lo + k * 3 + 2, none⟩ = some (.slice e2 x.2.2.1.length d2) := hcc wr MM.out.bel 2 (by decide)
            clear hcc
            have MA := hid (MM.out.alloc (.cells #[.int .i64 x.1, .slice e1 x.2.1.length d1, .slice e2 x.2.2.1.length d2] 51))
            have m0 := MA.out.m.cell (i := 0) rfl
            by_cases hbad : (y.1.length : Int) ≤ x.1
            · have HV := hid (show vHead y = 8 from by
                rw [HV0.out]; unfold vTyp; rw [Z1.out, HHI.out 8 (vIdx_yes hbad) (by decide)]; rfl)
              go_wp2_with fail
              go_ret
              rw [HV.out]
              exact ⟨rfl, MA.out.bel⟩
            · have HV := hid (HST.out (vIdx_no hbad))
              go_wp2_with fail
              go_roundw
              case rel => exact ⟨k + 1, by omega, by go_num, HV, MA⟩
              case measure => simp [RowKit.intOf]; omega
          · obtain rfl : k = y.2.2.1.length := by omega
            have HT0 := hid (show vTyp y = 0 from by unfold vTyp; rw [Z1.out]; have := ZZ.out; rw [List.take_length] at this; rw [this]; rfl)
            have M3 := hid MM.out
            clear ZZ MM hk Z1
            have HGT := hid (vTys_good HG.out HT0.out)
            have HV1 := hid (show vHead y = orE (vExp y) (orE (vStart y) (vParts y)) from by rw [HV0.out, HT0.out]; rfl)
            have M4 := hid (M3.out.alloc (.map #[] 0))
            have S4 := hid (SeenM.made wr)
            have HMN := hid (show w.heap.size ≠ wr.heap.size from fun e => by have := M3.out.m.lt; omega)
            have HMW := hid (show W.heap.size ≤ wr.heap.size from M3.out.bel.size)
            have m7 := M4.out.m.cell (i := 7) rfl
            go_wp2_with fail
            clear m7
            generalize hMK : wr.heap.size = MK at *
            have HMK := hid hMK
            clear hMK
            go_loopw [9, 10, 11, 12, 13, 14, 54] (fun _ _ _ _ _ _ i wq => ∃ k : Nat, k ≤ y.2.2.2.2.2.2.2.1.length ∧ i = .int .i64 k ∧ Hid (foldI (vExF y) k = 0) ∧ Hid (MB W wq w.heap.size [.slice a1 y.1.length k1, .slice a2 y.2.1.length k2, .slice a3 y.2.2.1.length k3, .int .i64 y.2.2.2.1, .int .i64 y.2.2.2.2.1, .int .i64 y.2.2.2.2.2.1, .slice a4 y.2.2.2.2.2.2.1.length k4, .slice a5 y.2.2.2.2.2.2.2.1.length k5, .int .i64 y.2.2.2.2.2.2.2.2.1, .slice a6 y.2.2.2.2.2.2.2.2.2.1.length k6, .slice a7 y.2.2.2.2.2.2.2.2.2.2.1.length k7]) ∧ Hid (SeenM wq MK k ((y.2.2.2.2.2.2.2.1.take k).map fun z => z.1))) (fun _ _ _ _ _ _ i _ => y.2.2.2.2.2.2.2.1.length - (RowKit.intOf i).toNat)
            case atStart => exact ⟨0, Nat.zero_le _, rfl, hid rfl, M4, S4⟩
            case round =>
              obtain ⟨k, hk, rfl, ZX, MX, SX⟩ := hrel
              by_cases hlt : k < y.2.2.2.2.2.2.2.1.length
              · obtain ⟨lb, lo, cap', xs, hv, _, _, _, hX, hcc⟩ := sliceR_at K5.out (by decide) k hlt
                simp only [Value.slice.injEq] at hv
                obtain ⟨rfl, -, rfl⟩ := hv
                have HFX := hid (vExF_at hlt)
                have HNB := hid (HG.out.exp.2 _ (List.getElem_mem hlt))
                have HTK := hid (show (y.2.2.2.2.2.2.2.1.take k).map (fun z => z.1) ++ [(y.2.2.2.2.2.2.2.1[k]).1] = (y.2.2.2.2.2.2.2.1.take (k + 1)).map (fun z => z.1) from by rw [List.take_succ_eq_append_getElem hlt, List.map_append]; rfl)
                have HAN := hid (show ((y.2.2.2.2.2.2.2.1.take k).map fun z => z.1).any (fun z => (y.2.2.2.2.2.2.2.1[k]).1 == z) = (y.2.2.2.2.2.2.2.1.take k).any (fun z => (y.2.2.2.2.2.2.2.1[k]).1 == z.1) from by rw [List.any_map]; rfl)
                generalize y.2.2.2.2.2.2.2.1[k] = x at *
                have HX2 := hid hX
                obtain ⟨_, _, rfl, ⟨rfl, hxs⟩, _, _, rfl, ⟨rfl, _⟩, rfl⟩ := hX
                have HXS := hid hxs
                clear hxs
                have y0 : wr.cell? ⟨lb, lo + k * 2, none⟩ = some (.string x.1) := hcc wr MX.out.bel 0 (by decide)
                have y1 : wr.cell? ⟨lb, lo + k * 2 + 1, none⟩ = some (.int .i64 x.2.1) := hcc wr MX.out.bel 1 (by decide)
                clear hcc
                have MA := hid (MX.out.alloc (.cells #[.string x.1, .int .i64 x.2.1] 62))
                have SA := hid (SX.out.below ((Below.refl _ _).alloc (Nat.le_refl _) (.cells #[.string x.1, .int .i64 x.2.1] 62)))
                have XA := hid (Blk.new wr #[.string x.1, .int .i64 x.2.1] 62 _ rfl)
                have m0 := MA.out.m.cell (i := 0) rfl
                have m1 := MA.out.m.cell (i := 1) rfl
                have m2 := MA.out.m.cell (i := 2) rfl
                have m3 := MA.out.m.cell (i := 3) rfl
                have m4 := MA.out.m.cell (i := 4) rfl
                have m5 := MA.out.m.cell (i := 5) rfl
                have m6 := MA.out.m.cell (i := 6) rfl
                have m7 := MA.out.m.cell (i := 7) rfl
                have m8 := MA.out.m.cell (i := 8) rfl
                have m9 := MA.out.m.cell (i := 9) rfl
                have m10 := MA.out.m.cell (i := 10) rfl
                have xa1 := XA.out.cell (i := 1) rfl
                go_wp2_with fail
                clear m0 m1 m2 m3 m4 m5 m6 m7 m8 m9 m10 xa1
                refine (HTY.out HG.out HGT.out _ MA.out.bel x.2.1 (by have := HNB.out; omega)).mono ?_
                rintro r w4 ⟨⟨b1, c1, b2, c2, rfl⟩, hb4⟩
                have M5 := hid ((MA.out.below hb4).alloc (.cells #[.slice b1 (vSig y x.2.1).1.length c1, .slice b2 (vSig y x.2.1).2.1.length c2] 40))
                have S5 := hid ((SA.out.below hb4).below ((Below.refl _ _).alloc (Nat.le_refl _) (.cells #[.slice b1 (vSig y x.2.1).1.length c1, .slice b2 (vSig y x.2.1).2.1.length c2] 40)))
                have X5 := hid ((XA.out.below hb4).below ((Below.refl _ _).alloc (Nat.le_refl _) (.cells #[.slice b1 (vSig y x.2.1).1.length c1, .slice b2 (vSig y x.2.1).2.1.length c2] 40)))
                clear hb4
                generalize (vSig y x.2.1).1.length = l1 at *
                generalize (vSig y x.2.1).2.1.length = l2 at *
                cases hi : vIs y x.2.1 with
                | false =>
                  have HV := hid (show vHead y = 8 from by
                    have e : vExF y k = 8 := by rw [HFX.out]; unfold vEx1; rw [vIdx_out HNB.out.1 hi]; rfl
                    rw [HV1.out, vExp_eq, foldI_hit ZX.out hlt e (by decide)]; rfl)
                  rw [hi] at *
                  clear hi
                  go_wp2_with fail
                  go_ret
                  rw [HV.out]
                  exact ⟨rfl, M5.out.bel⟩
                | true =>
                  have HFX2 := hid (show vExF y k = bdE ((y.2.2.2.2.2.2.2.1.take k).any fun z => x.1 == z.1) 12 from by rw [HFX.out]; unfold vEx1; rw [vIdx_in hi]; rfl)
                  rw [hi] at *
                  clear hi
                  obtain ⟨av, hlook⟩ := S5.out.look x.1 (by have := HXS.out; unfold maxLen; omega)
                  rw [HAN.out] at hlook
                  have x0 := X5.out.cell (i := 0) rfl
                  cases hh : (y.2.2.2.2.2.2.2.1.take k).any fun z => x.1 == z.1 with
                  | true =>
                    have HV := hid (show vHead y = 12 from by
                      have e : vExF y k = 12 := by rw [HFX2.out, hh]; rfl
                      rw [HV1.out, vExp_eq, foldI_hit ZX.out hlt e (by decide)]; rfl)
                    rw [hh] at hlook
                    clear hh
                    go_wp2_with fail
                    go_ret
                    rw [HV.out]
                    exact ⟨rfl, M5.out.bel⟩
                  | false =>
                    have HZ := hid (foldI_step ZX.out (by rw [HFX2.out, hh]; rfl))
                    rw [hh] at hlook
                    clear hh
                    obtain ⟨w6, hput, hS6, hT6⟩ := S5.out.put (by have := HG.out.exp.1; unfold maxLen; omega) x.1 (by have := HXS.out; unfold maxLen; omega) k (by have := HG.out.exp.1; omega)
                    rw [HTK.out] at hS6
                    have S6 := hid hS6
                    have T6 := hid hT6
                    clear hS6 hT6
                    go_wp2_with fail
                    go_roundw
                    case rel => exact ⟨k + 1, by omega, by go_num, HZ, hid ⟨M5.out.m.touch T6.out HMN.out, M5.out.bel.trans (T6.out.below M5.out.bel.size (fun _ h => h ▸ HMW.out))⟩, S6⟩
                    case measure => simp [RowKit.intOf]; omega
              · obtain rfl : k = y.2.2.2.2.2.2.2.1.length := by omega
                have HX0 := hid (show vExp y = 0 from by rw [vExp_eq]; exact ZX.out)
                have M5 := hid MX.out
                clear ZX MX SX hk
                have HVS := hid (show vHead y = orE (vStart y) (vParts y) from by rw [HV1.out, HX0.out]; rfl)
                have m8 := M5.out.m.cell (i := 8) rfl
                have hst := HG.out.start
                obtain ⟨hs0, hs1⟩ := hst
                by_cases hpos : 0 < y.2.2.2.2.2.2.2.2.1
                · have m0 := M5.out.m.cell (i := 0) rfl
                  have m1 := M5.out.m.cell (i := 1) rfl
                  have m2 := M5.out.m.cell (i := 2) rfl
                  have m3 := M5.out.m.cell (i := 3) rfl
                  have m4 := M5.out.m.cell (i := 4) rfl
                  have m5 := M5.out.m.cell (i := 5) rfl
                  have m6 := M5.out.m.cell (i := 6) rfl
                  have m7 := M5.out.m.cell (i := 7) rfl
                  have m8 := M5.out.m.cell (i := 8) rfl
                  have m9 := M5.out.m.cell (i := 9) rfl
                  have m10 := M5.out.m.cell (i := 10) rfl
                  go_wp2_with fail
                  clear m0 m1 m2 m3 m4 m5 m6 m7 m8 m9 m10
                  refine (HTY.out HG.out HGT.out _ M5.out.bel (y.2.2.2.2.2.2.2.2.1 - 1) (by omega)).mono ?_
                  rintro r w8 ⟨⟨b1, c1, b2, c2, rfl⟩, hb8⟩
                  have M6 := hid (M5.out.below hb8)
                  have M7 := hid (M6.out.alloc (.cells #[.slice b1 (vSig y (y.2.2.2.2.2.2.2.2.1 - 1)).1.length c1, .slice b2 (vSig y (y.2.2.2.2.2.2.2.2.1 - 1)).2.1.length c2] 40))
                  clear hb8
                  have HSS := hid (show vStart y = orE (bdE (!vIs y (y.2.2.2.2.2.2.2.2.1 - 1)) 8) (bdE (decide (0 < ((vSig y (y.2.2.2.2.2.2.2.2.1 - 1)).1.length : Int) + (vSig y (y.2.2.2.2.2.2.2.2.1 - 1)).2.1.length)) 10) from by unfold vStart; rw [if_pos hpos])
                  have HSM := hid (vSig_small HG.out (y.2.2.2.2.2.2.2.2.1 - 1))
                  have HXS := hid (Blk.new w8 #[.slice b1 (vSig y (y.2.2.2.2.2.2.2.2.1 - 1)).1.length c1, .slice b2 (vSig y (y.2.2.2.2.2.2.2.2.1 - 1)).2.1.length c2] 40 _ rfl)
                  generalize vIs y (y.2.2.2.2.2.2.2.2.1 - 1) = is at *
                  generalize (vSig y (y.2.2.2.2.2.2.2.2.1 - 1)).1.length = l1 at *
                  generalize (vSig y (y.2.2.2.2.2.2.2.2.1 - 1)).2.1.length = l2 at *
                  cases is with
                  | false =>
                    have HV := hid (show vHead y = 8 from by rw [HVS.out, HSS.out]; rfl)
                    go_wp2_with fail
                    go_ret
                    rw [HV.out]
                    exact ⟨rfl, M7.out.bel⟩
                  | true =>
                    have hl1' : (l1 : Int) ≤ 4 := by have := HSM.out.1; omega
                    have hl2' : (l2 : Int) ≤ 1 := by have := HSM.out.2; omega
                    by_cases hval : (0 : Int) < (l1 : Int) + (l2 : Int)
                    · have hvd : decide ((0 : Int) < (l1 : Int) + (l2 : Int)) = true := decide_eq_true hval
                      have HV := hid (show vHead y = 10 from by rw [HVS.out, HSS.out, hvd]; rfl)
                      clear hval
                      go_wp2_with fail
                      go_ret
                      rw [HV.out]
                      exact ⟨rfl, M7.out.bel⟩
                    · have hvd : decide ((0 : Int) < (l1 : Int) + (l2 : Int)) = false := decide_eq_false hval
                      have HV := hid (show vHead y = vParts y from by rw [HVS.out, HSS.out, hvd]; rfl)
                      clear hval
                      have m0 := M7.out.m.cell (i := 0) rfl
                      have m1 := M7.out.m.cell (i := 1) rfl
                      have m2 := M7.out.m.cell (i := 2) rfl
                      have m3 := M7.out.m.cell (i := 3) rfl
                      have m4 := M7.out.m.cell (i := 4) rfl
                      have m5 := M7.out.m.cell (i := 5) rfl
                      have m6 := M7.out.m.cell (i := 6) rfl
                      have m7 := M7.out.m.cell (i := 7) rfl
                      have m8 := M7.out.m.cell (i := 8) rfl
                      have m9 := M7.out.m.cell (i := 9) rfl
                      have m10 := M7.out.m.cell (i := 10) rfl
                      have xs0 := HXS.out.cell (i := 0) rfl
                      have xs1 := HXS.out.cell (i := 1) rfl
                      go_wp2_with fail
                      clear m0 m1 m2 m3 m4 m5 m6 m7 m8 m9 m10
                      refine (HPA.out HG.out HGT.out _ M7.out.bel).mono ?_
                      rintro r w9 ⟨rfl, hb9⟩
                      go_wp2_with fail
                      go_ret
                      rw [HV.out]
                      exact ⟨rfl, hb9⟩
                · have hpd : decide (0 < y.2.2.2.2.2.2.2.2.1) = false := decide_eq_false hpos
                  have HV := hid (show vHead y = vParts y from by rw [HVS.out]; unfold vStart; rw [if_neg hpos]; rfl)
                  clear hpos
                  have m0 := M5.out.m.cell (i := 0) rfl
                  have m1 := M5.out.m.cell (i := 1) rfl
                  have m2 := M5.out.m.cell (i := 2) rfl
                  have m3 := M5.out.m.cell (i := 3) rfl
                  have m4 := M5.out.m.cell (i := 4) rfl
                  have m5 := M5.out.m.cell (i := 5) rfl
                  have m6 := M5.out.m.cell (i := 6) rfl
                  have m7 := M5.out.m.cell (i := 7) rfl
                  have m8 := M5.out.m.cell (i := 8) rfl
                  have m9 := M5.out.m.cell (i := 9) rfl
                  have m10 := M5.out.m.cell (i := 10) rfl
                  go_wp2_with fail
                  clear m0 m1 m2 m3 m4 m5 m6 m7 m8 m9 m10
                  refine (HPA.out HG.out HGT.out _ M5.out.bel).mono ?_
                  rintro r w9 ⟨rfl, hb9⟩
                  go_wp2_with fail
                  go_ret
                  rw [HV.out]
                  exact ⟨rfl, hb9⟩
  · have hz : (E != 0) = true := by simpa using he
    have HV := hid (show vHead y = E from by unfold vHead; rw [HEE.out]; exact orE_stop he _)
    go_wp2_with fail
    go_ret
    rw [HV.out]
    exact ⟨rfl, M1.out.bel⟩
end Go.Proofs.YtdiiefhklcchmaaDoor
