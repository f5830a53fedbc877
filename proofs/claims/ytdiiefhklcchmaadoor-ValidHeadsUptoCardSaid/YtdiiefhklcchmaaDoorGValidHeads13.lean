/-
  HEADS OF MODULES, the reference's: ValidHead. Conditions: the sizes of the module's parts; MaxL.
-/
import Derived.Test.YtdiiefhklcchmaaDoorGValidHeads11
import Derived.Test.YtdiiefhklcchmaaDoorGValidHeads12
namespace Go.Proofs.YtdiiefhklcchmaaDoor
open Go.RowKit Go.Lib
attribute [local go_sem ↓] Go.wp_at_zero Go.wp_at_succ

def vImF (y : D_api_Module) (x : D_api_Import) : Int := vIdx y.1.length x.2.1
def vFuF (y : D_api_Module) (x : D_api_Func) : Int := vIdx y.1.length x.1
theorem vTyp_eq (y : D_api_Module) : vTyp y = orE (foldE (vImF y) y.2.1) (foldE (vFuF y) y.2.2.1) := rfl
theorem ba_toList (a b : ByteArray) : (a == b) = (a.toList == b.toList) := by
  rw [ba_iff, Go.ByteArray.toList_eq, Go.ByteArray.toList_eq]
  by_cases h : a = b
  · subst h; simp
  · rw [decide_eq_false h]
    exact (beq_eq_false_iff_ne.2 (fun e => h (bytes_eq e))).symm
def nmF (s : ByteArray) (z : D_api_Export) : Int := bdE (s == z.1) 12
theorem nm_any (s : ByteArray) (l : List D_api_Export) : foldE (nmF s) l = bdE (l.any fun z => s == z.1) 12 := fold_any (fun z : D_api_Export => s == z.1) 12 (by decide) l
set_option maxRecDepth 100000 in
set_option maxHeartbeats 40000000 in
theorem rhead_any (W : World) (cs : List Value) (y : D_api_Module) (hM : MaxL W) (hR : R_api_Module W cs y)
    (hc1 : sumC cSig y.1 ≤ 4194304) (hc2 : sumC cImport y.2.1 ≤ 4194304) (hc3 : sumC cFunc y.2.2.1 ≤ 4194304) (hc4 : sumC cGlobal y.2.2.2.2.2.2.1 ≤ 4194304) (hc5 : sumC cExport y.2.2.2.2.2.2.2.1 ≤ 4194304) (hc6 : sumC cElem y.2.2.2.2.2.2.2.2.2.1 ≤ 4194304) (hc7 : sumC cData y.2.2.2.2.2.2.2.2.2.2.1 ≤ 4194304) :
    Calls Tryd.prog 8 #[.agg cs.toArray] W fun e w' => e = .returned (.int .i64 (vHead y)) ∧ Below W.heap.size W w' := by
  have HCK := hid (fun wx (hx : Below W.heap.size W wx) => refCheck_any wx cs y (hM.below hx) (module_bel hR hx) hc1 hc2 hc3 hc4 hc5 hc6 hc7)
  have HSI := hid (fun (hg : GoodM y) (ht : ∀ t ∈ vTys y, 0 ≤ t ∧ t < y.1.length) wx (hx : Below W.heap.size W wx) n (hn : -1 ≤ n ∧ n ≤ 4294967295) => rsig_any wx cs y n (by omega) hg ht (module_bel hR hx))
  clear hM hc1 hc2 hc3 hc4 hc5 hc6 hc7
  obtain ⟨_, _, rfl, h1, _, _, rfl, h2, _, _, rfl, h3, _, _, rfl, ⟨rfl, _⟩, _, _, rfl, ⟨rfl, _⟩, _, _, rfl, ⟨rfl, _⟩, _, _, rfl, h4, _, _, rfl, h5, _, _, rfl, ⟨rfl, _⟩, _, _, rfl, h6, _, _, rfl, h7, rfl⟩ := hR
  obtain ⟨u1, rfl⟩ := sl_one h1
  have K1 := hid h1
  obtain ⟨u2, rfl⟩ := sl_one h2
  have K2 := hid h2
  obtain ⟨u3, rfl⟩ := sl_one h3
  have K3 := hid h3
  obtain ⟨u4, rfl⟩ := sl_one h4
  have K4 := hid h4
  obtain ⟨u5, rfl⟩ := sl_one h5
  have K5 := hid h5
  obtain ⟨u6, rfl⟩ := sl_one h6
  have K6 := hid h6
  obtain ⟨u7, rfl⟩ := sl_one h7
  have K7 := hid h7
  obtain ⟨a1, k1, rfl, kb1, kc1, _⟩ := sl_shape h1
  obtain ⟨a2, k2, rfl, kb2, kc2, _⟩ := sl_shape h2
  obtain ⟨a3, k3, rfl, kb3, kc3, _⟩ := sl_shape h3
  obtain ⟨a4, k4, rfl, kb4, kc4, _⟩ := sl_shape h4
  obtain ⟨a5, k5, rfl, kb5, kc5, _⟩ := sl_shape h5
  obtain ⟨a6, k6, rfl, kb6, kc6, _⟩ := sl_shape h6
  obtain ⟨a7, k7, rfl, kb7, kc7, _⟩ := sl_shape h7
  clear h1 h2 h3 h4 h5 h6 h7
  have HM0 := hid (show MB W (W.alloc (.cells #[.slice a1 y.1.length k1, .slice a2 y.2.1.length k2, .slice a3 y.2.2.1.length k3, .int .i64 y.2.2.2.1, .int .i64 y.2.2.2.2.1, .int .i64 y.2.2.2.2.2.1, .slice a4 y.2.2.2.2.2.2.1.length k4, .slice a5 y.2.2.2.2.2.2.2.1.length k5, .int .i64 y.2.2.2.2.2.2.2.2.1, .slice a6 y.2.2.2.2.2.2.2.2.2.1.length k6, .slice a7 y.2.2.2.2.2.2.2.2.2.2.1.length k7] 30)) W.heap.size [.slice a1 y.1.length k1, .slice a2 y.2.1.length k2, .slice a3 y.2.2.1.length k3, .int .i64 y.2.2.2.1, .int .i64 y.2.2.2.2.1, .int .i64 y.2.2.2.2.2.1, .slice a4 y.2.2.2.2.2.2.1.length k4, .slice a5 y.2.2.2.2.2.2.2.1.length k5, .int .i64 y.2.2.2.2.2.2.2.2.1, .slice a6 y.2.2.2.2.2.2.2.2.2.1.length k6, .slice a7 y.2.2.2.2.2.2.2.2.2.2.1.length k7] from ⟨Blk.new W #[.slice a1 y.1.length k1, .slice a2 y.2.1.length k2, .slice a3 y.2.2.1.length k3, .int .i64 y.2.2.2.1, .int .i64 y.2.2.2.2.1, .int .i64 y.2.2.2.2.2.1, .slice a4 y.2.2.2.2.2.2.1.length k4, .slice a5 y.2.2.2.2.2.2.2.1.length k5, .int .i64 y.2.2.2.2.2.2.2.2.1, .slice a6 y.2.2.2.2.2.2.2.2.2.1.length k6, .slice a7 y.2.2.2.2.2.2.2.2.2.2.1.length k7] 30 _ rfl, (Below.refl _ _).alloc (Nat.le_refl _) _⟩)
  obtain ⟨E, hE⟩ : ∃ E, fModule y = E := ⟨_, rfl⟩
  have HEE := hid hE
  rw [hE] at HCK
  clear hE
  have m0 := HM0.out.m.cell (i := 0) rfl
  have m1 := HM0.out.m.cell (i := 1) rfl
  have m2 := HM0.out.m.cell (i := 2) rfl
  have m3 := HM0.out.m.cell (i := 3) rfl
  have m4 := HM0.out.m.cell (i := 4) rfl
  have m5 := HM0.out.m.cell (i := 5) rfl
  have m6 := HM0.out.m.cell (i := 6) rfl
  have m7 := HM0.out.m.cell (i := 7) rfl
  have m8 := HM0.out.m.cell (i := 8) rfl
  have m9 := HM0.out.m.cell (i := 9) rfl
  have m10 := HM0.out.m.cell (i := 10) rfl
  go_enter Tryd.func8, Tryd.ntmps8
  go_wp2_with fail
  clear m0 m1 m2 m3 m4 m5 m6 m7 m8 m9 m10
  refine (HCK.out _ HM0.out.bel).mono ?_
  rintro r w1 ⟨rfl, hb1⟩
  have M1 := hid (HM0.out.below hb1)
  clear hb1
  by_cases he : E = 0
  · subst he
    have hg := good_of HEE.out
    have HG := hid hg
    have hl2 : (y.2.1.length : Int) ≤ 16 := by have := hg.imp.1; omega
    have hl3 : (y.2.2.1.length : Int) ≤ 16 := by have := hg.fun_.1; omega
    have hl1 : (y.1.length : Int) ≤ 16 := by have := hg.typ; omega
    have hl5 : (y.2.2.2.2.2.2.2.1.length : Int) ≤ 8 := by have := hg.exp.1; omega
    have hl6 : (y.2.2.2.2.2.2.2.2.2.1.length : Int) ≤ 4 := by have := hg.elem.1; omega
    have HV0 := hid (show vHead y = orE (vTyp y) (orE (vExp y) (orE (vStart y) (vParts y))) from by unfold vHead; rw [HEE.out]; rfl)
    clear hg
    have R0 := hid (show RB W (w1.alloc (.cells #[.slice none 0 0] 74)) w1.heap.size W.heap.size 0 0 [.slice a1 y.1.length k1, .slice a2 y.2.1.length k2, .slice a3 y.2.2.1.length k3, .int .i64 y.2.2.2.1, .int .i64 y.2.2.2.2.1, .int .i64 y.2.2.2.2.2.1, .slice a4 y.2.2.2.2.2.2.1.length k4, .slice a5 y.2.2.2.2.2.2.2.1.length k5, .int .i64 y.2.2.2.2.2.2.2.2.1, .slice a6 y.2.2.2.2.2.2.2.2.2.1.length k6, .slice a7 y.2.2.2.2.2.2.2.2.2.2.1.length k7] from ⟨⟨⟨[], ⟨M1.out.bel.size, ⟨_, Blk.new w1 #[.slice none 0 0] 74 _ rfl, OwnI.nil _ _ _ _⟩, by have := M1.out.bel.size; simp; omega⟩, rfl, (fun _ h => by cases h), Nat.le_refl _⟩⟩, M1.out.m.below ((Below.refl _ _).alloc (Nat.le_refl _) _), (fun e => by have := M1.out.m.lt; omega), M1.out.bel.alloc M1.out.bel.size _⟩)
    have m1 := R0.out.m.cell (i := 1) rfl
    go_wp2_with fail
    clear m1 M1
    generalize hBq : w1.heap.size = B at *
    have HBQ := hid hBq
    clear hBq
    go_loopw [6, 28] (fun _ i wr => ∃ k : Nat, k ≤ y.2.1.length ∧ i = .int .i64 k ∧ Hid (RB W wr B W.heap.size (orE 0 (foldE (vImF y) (y.2.1.take k))) (k) [.slice a1 y.1.length k1, .slice a2 y.2.1.length k2, .slice a3 y.2.2.1.length k3, .int .i64 y.2.2.2.1, .int .i64 y.2.2.2.2.1, .int .i64 y.2.2.2.2.2.1, .slice a4 y.2.2.2.2.2.2.1.length k4, .slice a5 y.2.2.2.2.2.2.2.1.length k5, .int .i64 y.2.2.2.2.2.2.2.2.1, .slice a6 y.2.2.2.2.2.2.2.2.2.1.length k6, .slice a7 y.2.2.2.2.2.2.2.2.2.2.1.length k7])) (fun _ i _ => y.2.1.length - (RowKit.intOf i).toNat)
    case atStart => exact ⟨0, Nat.zero_le _, rfl, hid R0.out⟩
    case round =>
      obtain ⟨k, hk, rfl, LL⟩ := hrel
      by_cases hlt : k < y.2.1.length
      · obtain ⟨lb, lo, cap', xs, hv, _, _, _, hX, hcc⟩ := sliceR_at K2.out (by decide) k hlt
        simp only [Value.slice.injEq] at hv
        obtain ⟨rfl, -, rfl⟩ := hv
        have HNX := hid (foldE_next (vImF y) y.2.1 k hlt 0)
        generalize hcur : orE 0 (foldE (vImF y) (y.2.1.take k)) = cur at *
        generalize y.2.1[k] = x at *
        clear hcur
        have HVX := hid (show vImF y x = bdE (decide ((y.1.length : Int) ≤ x.2.1)) 8 from rfl)
        obtain ⟨_, _, rfl, ⟨rfl, _⟩, _, _, rfl, ⟨rfl, _⟩, rfl⟩ := hX
        have y0 : wr.cell? ⟨lb, lo + k * 2, none⟩ = some (.string x.1) := hcc wr LL.out.bel 0 (by decide)
        have y1 : wr.cell? ⟨lb, lo + k * 2 + 1, none⟩ = some (.int .i64 x.2.1) := hcc wr LL.out.bel 1 (by decide)
        clear hcc
        have RA := hid (LL.out.alloc (.cells #[.string x.1, .int .i64 x.2.1] 44))
        have m0 := RA.out.m.cell (i := 0) rfl
        go_wp2_with fail
        clear m0 y0 y1
        refine (rad_any _ W.heap.size B k cur 8 (decide ((y.1.length : Int) ≤ x.2.1)) (fun _ => by decide) (by omega) RA.out.rf).mono ?_
        rintro r w2 hp
        have RA1 := hid (RA.out.next hp)
        obtain ⟨rfl, -⟩ := hp
        go_wp2_with fail
        go_roundw
        case rel => exact ⟨k + 1, by omega, by go_num, hid (RA1.out.cast (by rw [← HNX.out, HVX.out]) (by omega))⟩
        case measure => simp [RowKit.intOf]; omega
      · obtain rfl : k = y.2.1.length := by omega
        have R1x := LL.out
        rw [List.take_length] at R1x
        obtain ⟨b1, hb1⟩ : ∃ b, orE 0 (foldE (vImF y) y.2.1) = b := ⟨_, rfl⟩
        rw [hb1] at R1x
        have HB1 := hid hb1
        have R1 := hid R1x
        clear hb1 R1x LL hk
        have m2 := R1.out.m.cell (i := 2) rfl
        go_wp2_with fail
        clear m2
        go_loopw [8, 43] (fun _ i wr => ∃ k : Nat, k ≤ y.2.2.1.length ∧ i = .int .i64 k ∧ Hid (RB W wr B W.heap.size (orE b1 (foldE (vFuF y) (y.2.2.1.take k))) (16 + k) [.slice a1 y.1.length k1, .slice a2 y.2.1.length k2, .slice a3 y.2.2.1.length k3, .int .i64 y.2.2.2.1, .int .i64 y.2.2.2.2.1, .int .i64 y.2.2.2.2.2.1, .slice a4 y.2.2.2.2.2.2.1.length k4, .slice a5 y.2.2.2.2.2.2.2.1.length k5, .int .i64 y.2.2.2.2.2.2.2.2.1, .slice a6 y.2.2.2.2.2.2.2.2.2.1.length k6, .slice a7 y.2.2.2.2.2.2.2.2.2.2.1.length k7])) (fun _ i _ => y.2.2.1.length - (RowKit.intOf i).toNat)
        case atStart => exact ⟨0, Nat.zero_le _, rfl, hid (R1.out.cast (orE_none b1).symm (by omega))⟩
        case round =>
          obtain ⟨k, hk, rfl, LL⟩ := hrel
          by_cases hlt : k < y.2.2.1.length
          · obtain ⟨lb, lo, cap', xs, hv, _, _, _, hX, hcc⟩ := sliceR_at K3.out (by decide) k hlt
            simp only [Value.slice.injEq] at hv
            obtain ⟨rfl, -, rfl⟩ := hv
            have HNX := hid (foldE_next (vFuF y) y.2.2.1 k hlt b1)
            generalize hcur : orE b1 (foldE (vFuF y) (y.2.2.1.take k)) = cur at *
            generalize y.2.2.1[k] = x at *
            clear hcur
            have HVX := hid (show vFuF y x = bdE (decide ((y.1.length : Int) ≤ x.1)) 8 from rfl)
            obtain ⟨_, _, rfl, ⟨rfl, _⟩, _, _, rfl, g1, _, _, rfl, g2, rfl⟩ := hX
            obtain ⟨q1, rfl⟩ := sl_one g1
            obtain ⟨q2, rfl⟩ := sl_one g2
            obtain ⟨e1, d1, rfl, _, _, _⟩ := sl_shape g1
            obtain ⟨e2, d2, rfl, _, _, _⟩ := sl_shape g2
            clear g1 g2
            have y0 : wr.cell? ⟨lb, lo + k * 3, none⟩ = some (.int .i64 x.1) := hcc wr LL.out.bel 0 (by decide)
            have y1 : wr.cell? ⟨lb, lo + k * 3 + 1, none⟩ = some (.slice e1 x.2.1.length d1) := hcc wr LL.out.bel 1 (by decide)
            have y2 : wr.cell? ⟨lb, lo + k * 3 + 2, none⟩ = some (.slice e2 x.2.2.1.length d2) := hcc wr LL.out.bel 2 (by decide)
            clear hcc
            have RA := hid (LL.out.alloc (.cells #[.int .i64 x.1, .slice e1 x.2.1.length d1, .slice e2 x.2.2.1.length d2] 51))
            have m0 := RA.out.m.cell (i := 0) rfl
            go_wp2_with fail
            clear m0 y0 y1 y2
            refine (rad_any _ W.heap.size B (16 + k) cur 8 (decide ((y.1.length : Int) ≤ x.1)) (fun _ => by decide) (by omega) RA.out.rf).mono ?_
            rintro r w2 hp
            have RA1 := hid (RA.out.next hp)
            obtain ⟨rfl, -⟩ := hp
            go_wp2_with fail
            go_roundw
            case rel => exact ⟨k + 1, by omega, by go_num, hid (RA1.out.cast (by rw [← HNX.out, HVX.out]) (by omega))⟩
            case measure => simp [RowKit.intOf]; omega
          · obtain rfl : k = y.2.2.1.length := by omega
            have R2x := LL.out
            rw [List.take_length] at R2x
            have hvt : vTyp y = orE b1 (foldE (vFuF y) y.2.2.1) := by rw [vTyp_eq, ← HB1.out, orE_zero]
            rw [← hvt] at R2x
            obtain ⟨b2, hb2⟩ : ∃ b, vTyp y = b := ⟨_, rfl⟩
            rw [hb2] at R2x HV0
            have HB2 := hid hb2
            have R2 := hid (R2x.cast rfl (show 16 + y.2.2.1.length ≤ 32 from by omega))
            clear hvt hb2 R2x LL hk HB1
            obtain ⟨LF, hF, hf1, _, _⟩ := R2.out.rf.ex
            obtain ⟨_, ⟨vF, hBk, hO⟩, _⟩ := hF
            have HFA := hid (ffirst_any wr vF LF (OwnI.ints hO))
            rw [hf1] at HFA
            obtain ⟨aF, cF, rfl, _⟩ := own_sl hO
            have q0 := hBk.cell (i := 0) rfl
            clear hf1 hO hBk
            go_wp2_with fail
            refine HFA.out.mono ?_
            rintro r wz ⟨rfl, rfl⟩
            by_cases h0 : b2 = 0
            · subst h0
              have HGT := hid (vTys_good HG.out HB2.out)
              have HV1 := hid (show vHead y = orE (vExp y) (orE (vStart y) (vParts y)) from by rw [HV0.out]; rfl)
              have HMY := hid (show vMany y = (y.2.1.length : Int) + (y.2.2.1.length : Int) from rfl)
              clear HFA q0 HV0
              have m1 := R2.out.m.cell (i := 1) rfl
              have m2 := R2.out.m.cell (i := 2) rfl
              have m7 := R2.out.m.cell (i := 7) rfl
              go_wp2_with fail
              clear m1 m2 m7
              go_loopw [10, 11, 70] (fun _ _ i wr => ∃ k : Nat, k ≤ y.2.2.2.2.2.2.2.1.length ∧ i = .int .i64 k ∧ Hid (RB W wr B W.heap.size (foldI (vExF y) k) (32 + 9 * k) [.slice a1 y.1.length k1, .slice a2 y.2.1.length k2, .slice a3 y.2.2.1.length k3, .int .i64 y.2.2.2.1, .int .i64 y.2.2.2.2.1, .int .i64 y.2.2.2.2.2.1, .slice a4 y.2.2.2.2.2.2.1.length k4, .slice a5 y.2.2.2.2.2.2.2.1.length k5, .int .i64 y.2.2.2.2.2.2.2.2.1, .slice a6 y.2.2.2.2.2.2.2.2.2.1.length k6, .slice a7 y.2.2.2.2.2.2.2.2.2.2.1.length k7])) (fun _ _ i _ => y.2.2.2.2.2.2.2.1.length - (RowKit.intOf i).toNat)
              case atStart => exact ⟨0, Nat.zero_le _, rfl, hid (R2.out.cast rfl (by omega))⟩
              case round =>
                obtain ⟨k, hk, rfl, LL⟩ := hrel
                by_cases hlt : k < y.2.2.2.2.2.2.2.1.length
                · obtain ⟨lb, lo, cap', xs, hv, hcq, _, _, hX, hcc⟩ := sliceR_at K5.out (by decide) k hlt
                  simp only [Value.slice.injEq] at hv
                  obtain ⟨rfl, -, rfl⟩ := hv
                  have HFX := hid (show foldI (vExF y) (k + 1) = orE (foldI (vExF y) k) (orE (vIdx (vMany y) (y.2.2.2.2.2.2.2.1[k]).2.1) (foldE (nmF (y.2.2.2.2.2.2.2.1[k]).1) (y.2.2.2.2.2.2.2.1.take k))) from by rw [nm_any]; show orE _ (vExF y k) = _; rw [vExF_at hlt]; rfl)
                  generalize foldI (vExF y) k = cur at *
                  have HLN := hid (show (y.2.2.2.2.2.2.2.1.take k).length = k from by rw [List.length_take]; omega)
                  generalize y.2.2.2.2.2.2.2.1[k] = x at *
                  obtain ⟨_, _, rfl, ⟨rfl, _⟩, _, _, rfl, ⟨rfl, _⟩, rfl⟩ := hX
                  have y0 : wr.cell? ⟨lb, lo + k * 2, none⟩ = some (.string x.1) := hcc wr LL.out.bel 0 (by decide)
                  have y1 : wr.cell? ⟨lb, lo + k * 2 + 1, none⟩ = some (.int .i64 x.2.1) := hcc wr LL.out.bel 1 (by decide)
                  clear hcc
                  have XB := hid (show wr.heap.size ≠ B from fun e => by have := LL.out.rf.lt; omega)
                  have XA := hid (Blk.new wr #[.string x.1, .int .i64 x.2.1] 62 _ rfl)
                  have RA := hid (LL.out.alloc (.cells #[.string x.1, .int .i64 x.2.1] 62))
                  go_wp2_with fail
                  clear y0 y1
                  refine (rad_any _ W.heap.size B (32 + 9 * k) cur 8 (decide ((y.2.1.length : Int) + (y.2.2.1.length : Int) ≤ x.2.1)) (fun _ => by decide) (by omega) RA.out.rf).mono ?_
                  rintro r w2 hp
                  have RA1 := hid (RA.out.next hp)
                  have XA1 := hid (X_next XA.out XB.out (by rfl) hp)
                  obtain ⟨rfl, -⟩ := hp
                  obtain ⟨c1, hc1⟩ : ∃ c, orE cur (bdE (decide ((y.2.1.length : Int) + (y.2.2.1.length : Int) ≤ x.2.1)) 8) = c := ⟨_, rfl⟩
                  rw [hc1] at RA1
                  have HC1 := hid hc1
                  clear hc1
                  have hkk : k ≤ k5 := by omega
                  have hki : (k : Int) ≤ (k5 : Int) := by omega
                  have m7 := RA1.out.m.cell (i := 7) rfl
                  go_wp2_with fail
                  clear m7
                  generalize hXQ : wr.heap.size = XQ at *
                  have HXQ := hid hXQ
                  clear hXQ
                  go_loopw [13, 85] (fun _ i wq => ∃ j : Nat, j ≤ k ∧ i = .int .i64 j ∧ Hid (RB W wq B W.heap.size (orE c1 (foldE (nmF x.1) ((y.2.2.2.2.2.2.2.1.take k).take j))) (32 + 9 * k + 1 + j) [.slice a1 y.1.length k1, .slice a2 y.2.1.length k2, .slice a3 y.2.2.1.length k3, .int .i64 y.2.2.2.1, .int .i64 y.2.2.2.2.1, .int .i64 y.2.2.2.2.2.1, .slice a4 y.2.2.2.2.2.2.1.length k4, .slice (some ⟨lb, lo, none⟩) y.2.2.2.2.2.2.2.1.length k5, .int .i64 y.2.2.2.2.2.2.2.2.1, .slice a6 y.2.2.2.2.2.2.2.2.2.1.length k6, .slice a7 y.2.2.2.2.2.2.2.2.2.2.1.length k7]) ∧ Hid (Blk wq XQ 62 [.string x.1, .int .i64 x.2.1])) (fun _ i _ => k - (RowKit.intOf i).toNat)
                  case atStart => exact ⟨0, Nat.zero_le _, rfl, hid (RA1.out.cast (orE_none c1).symm (by omega)), XA1⟩
                  case round =>
                    obtain ⟨j, hj, rfl, LI, XI⟩ := hrel
                    by_cases hjl : j < k
                    · obtain ⟨lb2, lo2, cap2, xs2, hv2, _, _, _, hX2, hcc2⟩ := sliceR_at K5.out (by decide) j (by omega)
                      simp only [Value.slice.injEq] at hv2
                      obtain ⟨hv3, -, hv4⟩ := hv2
                      cases hv3
                      cases hv4
                      have HNX := hid (foldE_next (nmF x.1) (y.2.2.2.2.2.2.2.1.take k) j (by rw [HLN.out]; exact hjl) c1)
                      rw [List.getElem_take] at HNX
                      generalize hcur2 : orE c1 (foldE (nmF x.1) ((y.2.2.2.2.2.2.2.1.take k).take j)) = cj at *
                      generalize y.2.2.2.2.2.2.2.1[j] = z at *
                      clear hcur2
                      have HVZ := hid (show nmF x.1 z = bdE (x.1.toList == z.1.toList) 12 from by unfold nmF; rw [ba_toList])
                      obtain ⟨_, _, rfl, ⟨rfl, _⟩, _, _, rfl, ⟨rfl, _⟩, rfl⟩ := hX2
                      have y0 : wr.cell? ⟨lb, lo + j * 2, none⟩ = some (.string z.1) := hcc2 wr LI.out.bel 0 (by decide)
                      have y1 : wr.cell? ⟨lb, lo + j * 2 + 1, none⟩ = some (.int .i64 z.2.1) := hcc2 wr LI.out.bel 1 (by decide)
                      clear hcc2
                      have RI := hid (LI.out.alloc (.cells #[.string z.1, .int .i64 z.2.1] 62))
                      have XI1 := hid (XI.out.below ((Below.refl _ _).alloc (Nat.le_refl _) (.cells #[.string z.1, .int .i64 z.2.1] 62)))
                      have xq0 := XI1.out.cell (i := 0) rfl
                      go_wp2_with fail
                      clear xq0 y0 y1
                      refine (rad_any _ W.heap.size B (32 + 9 * k + 1 + j) cj 12 (x.1.toList == z.1.toList) (fun _ => by decide) (by omega) RI.out.rf).mono ?_
                      rintro r w3 hp
                      have RI1 := hid (RI.out.next hp)
                      have XI2 := hid (X_next XI1.out XB.out (by rfl) hp)
                      obtain ⟨rfl, -⟩ := hp
                      go_wp2_with fail
                      go_roundw
                      case rel => exact ⟨j + 1, by omega, by go_num, hid (RI1.out.cast (by rw [← HNX.out, HVZ.out]) (by omega)), XI2⟩
                      case measure => simp [RowKit.intOf]; omega
                    · obtain rfl : j = k := by omega
                      have RIz := LI.out
                      rw [List.take_take, Nat.min_self] at RIz
                      go_wp2_with fail
                      go_roundw
                      case rel => exact ⟨j + 1, by omega, by go_num, hid (RIz.cast (by rw [HFX.out, ← HC1.out, orE_assoc]; rfl) (by omega))⟩
                      case measure => simp [RowKit.intOf]; omega
                · obtain rfl : k = y.2.2.2.2.2.2.2.1.length := by omega
                  obtain ⟨c3, hc3⟩ : ∃ c, vExp y = c := ⟨_, rfl⟩
                  have R3x := LL.out
                  rw [← vExp_eq, hc3] at R3x
                  have HC3 := hid hc3
                  have R3 := hid (R3x.cast rfl (show 32 + 9 * y.2.2.2.2.2.2.2.1.length ≤ 104 from by omega))
                  clear LL hk hc3 R3x
                  have hst := HG.out.start
                  obtain ⟨hs0, hs1⟩ := hst
                  by_cases hpos : 0 < y.2.2.2.2.2.2.2.2.1
                  · have HPS := hid hpos
                    have m0 := R3.out.m.cell (i := 0) rfl
                    have m1 := R3.out.m.cell (i := 1) rfl
                    have m2 := R3.out.m.cell (i := 2) rfl
                    have m3 := R3.out.m.cell (i := 3) rfl
                    have m4 := R3.out.m.cell (i := 4) rfl
                    have m5 := R3.out.m.cell (i := 5) rfl
                    have m6 := R3.out.m.cell (i := 6) rfl
                    have m7 := R3.out.m.cell (i := 7) rfl
                    have m8 := R3.out.m.cell (i := 8) rfl
                    have m9 := R3.out.m.cell (i := 9) rfl
                    have m10 := R3.out.m.cell (i := 10) rfl
                    go_wp2_with fail
                    clear m0 m1 m2 m3 m4 m5 m6 m7 m8 m9 m10
                    refine (HSI.out HG.out HGT.out _ R3.out.bel (y.2.2.2.2.2.2.2.2.1 - 1) (by omega)).mono ?_
                    rintro r w8 ⟨⟨b1', c1', b2', c2', rfl⟩, hb8⟩
                    have R4 := hid ((R3.out.below hb8).alloc (.cells #[.slice b1' (vSig y (y.2.2.2.2.2.2.2.2.1 - 1)).1.length c1', .slice b2' (vSig y (y.2.2.2.2.2.2.2.2.1 - 1)).2.1.length c2'] 40))
                    have XB := hid (show w8.heap.size ≠ B from fun e => by have := (R3.out.below hb8).rf.lt; omega)
                    have X4 := hid (Blk.new w8 #[.slice b1' (vSig y (y.2.2.2.2.2.2.2.2.1 - 1)).1.length c1', .slice b2' (vSig y (y.2.2.2.2.2.2.2.2.1 - 1)).2.1.length c2'] 40 _ rfl)
                    clear hb8
                    have HSS := hid (show vStart y = orE (bdE (!vIs y (y.2.2.2.2.2.2.2.2.1 - 1)) 8) (bdE (decide (0 < ((vSig y (y.2.2.2.2.2.2.2.2.1 - 1)).1.length : Int) + (vSig y (y.2.2.2.2.2.2.2.2.1 - 1)).2.1.length)) 10) from by unfold vStart; rw [if_pos hpos])
                    have HSM := hid (vSig_small HG.out (y.2.2.2.2.2.2.2.2.1 - 1))
                    generalize vIs y (y.2.2.2.2.2.2.2.2.1 - 1) = is at *
                    generalize (vSig y (y.2.2.2.2.2.2.2.2.1 - 1)).1.length = l1 at *
                    generalize (vSig y (y.2.2.2.2.2.2.2.2.1 - 1)).2.1.length = l2 at *
                    have hl1' : (l1 : Int) ≤ 4 := by have := HSM.out.1; omega
                    have hl2' : (l2 : Int) ≤ 1 := by have := HSM.out.2; omega
                    clear hpos
                    go_wp2_with fail
                    refine (rad_any _ W.heap.size B 104 c3 8 (!is) (fun _ => by decide) (by omega) R4.out.rf).mono ?_
                    rintro r w9 hp
                    have R41 := hid (R4.out.next hp)
                    have X41 := hid (X_next X4.out XB.out (by rfl) hp)
                    obtain ⟨rfl, -⟩ := hp
                    have xs0 := X41.out.cell (i := 0) rfl
                    have xs1 := X41.out.cell (i := 1) rfl
                    go_wp2_with fail
                    clear xs0 xs1
                    refine (rad_any _ W.heap.size B 105 _ 10 (decide ((0 : Int) < (l1 : Int) + (l2 : Int))) (fun _ => by decide) (by omega) R41.out.rf).mono ?_
                    rintro r w10 hp
                    have R42x := R41.out.next hp
                    obtain ⟨rfl, -⟩ := hp
                    rw [orE_assoc, ← HSS.out] at R42x
                    have R42 := hid (R42x.cast rfl (show 105 + 1 ≤ 110 from by omega))
                    clear R42x X4 X41 R4 R41 HSM
                    obtain ⟨c4, hc4⟩ : ∃ c, orE c3 (vStart y) = c := ⟨_, rfl⟩
                    have R5x := R42.out
                    rw [hc4] at R5x
                    have HC4 := hid hc4
                    have R5 := hid R5x
                    clear R5x hc4
                    have m9 := R5.out.m.cell (i := 9) rfl
                    go_wp2_with fail
                    clear m9
                    go_loopw [17, 123] (fun _ i wr => ∃ k : Nat, k ≤ y.2.2.2.2.2.2.2.2.2.1.length ∧ i = .int .i64 k ∧ Hid (RB W wr B W.heap.size (orE c4 (foldE (vElem y) (y.2.2.2.2.2.2.2.2.2.1.take k))) (110 + 17 * k) [.slice a1 y.1.length k1, .slice a2 y.2.1.length k2, .slice a3 y.2.2.1.length k3, .int .i64 y.2.2.2.1, .int .i64 y.2.2.2.2.1, .int .i64 y.2.2.2.2.2.1, .slice a4 y.2.2.2.2.2.2.1.length k4, .slice a5 y.2.2.2.2.2.2.2.1.length k5, .int .i64 y.2.2.2.2.2.2.2.2.1, .slice a6 y.2.2.2.2.2.2.2.2.2.1.length k6, .slice a7 y.2.2.2.2.2.2.2.2.2.2.1.length k7])) (fun _ i _ => y.2.2.2.2.2.2.2.2.2.1.length - (RowKit.intOf i).toNat)
                    case atStart => exact ⟨0, Nat.zero_le _, rfl, hid (R5.out.cast (orE_none c4).symm (by omega))⟩
                    case round =>
                      obtain ⟨k, hk, rfl, LL⟩ := hrel
                      by_cases hlt : k < y.2.2.2.2.2.2.2.2.2.1.length
                      · obtain ⟨lb, lo, cap', xs, hv, _, _, _, hX, hcc⟩ := sliceR_at K6.out (by decide) k hlt
                        simp only [Value.slice.injEq] at hv
                        obtain ⟨rfl, -, rfl⟩ := hv
                        have HNX := hid (foldE_next (vElem y) y.2.2.2.2.2.2.2.2.2.1 k hlt c4)
                        have HEL := hid (HG.out.elem.2 _ (List.getElem_mem hlt))
                        generalize hcur : orE c4 (foldE (vElem y) (y.2.2.2.2.2.2.2.2.2.1.take k)) = cur at *
                        generalize y.2.2.2.2.2.2.2.2.2.1[k] = x at *
                        clear hcur
                        have HVX := hid (show vElem y x = orE (bdE (y.2.2.2.1 == 0) 8) (foldE (vIdx (vMany y)) x.2.1) from by unfold vElem; rw [show (y.2.2.2.1 == 0) = decide (y.2.2.2.1 = 0) from rfl])
                        obtain ⟨_, _, rfl, ⟨rfl, _⟩, _, _, rfl, g1, rfl⟩ := hX
                        obtain ⟨q1, rfl⟩ := sl_one g1
                        have J1 := hid (ints_of g1)
                        obtain ⟨e1, d1, rfl, _, hd1, _⟩ := sl_shape g1
                        clear g1
                        have y0 : wr.cell? ⟨lb, lo + k * 2, none⟩ = some (.int .i64 x.1) := hcc wr LL.out.bel 0 (by decide)
                        have y1 : wr.cell? ⟨lb, lo + k * 2 + 1, none⟩ = some (.slice e1 x.2.1.length d1) := hcc wr LL.out.bel 1 (by decide)
                        clear hcc
                        have XB := hid (show wr.heap.size ≠ B from fun e => by have := LL.out.rf.lt; omega)
                        have XA := hid (Blk.new wr #[.int .i64 x.1, .slice e1 x.2.1.length d1] 67 _ rfl)
                        have RA := hid (LL.out.alloc (.cells #[.int .i64 x.1, .slice e1 x.2.1.length d1] 67))
                        have m3 := RA.out.m.cell (i := 3) rfl
                        have hx16 : (x.2.1.length : Int) ≤ 16 := by have := HEL.out.1; omega
                        go_wp2_with fail
                        clear m3 y0 y1
                        refine (rad_any _ W.heap.size B (110 + 17 * k) cur 8 (y.2.2.2.1 == 0) (fun _ => by decide) (by omega) RA.out.rf).mono ?_
                        rintro r w2 hp
                        have RA1 := hid (RA.out.next hp)
                        have XA1 := hid (X_next XA.out XB.out (by rfl) hp)
                        obtain ⟨rfl, -⟩ := hp
                        obtain ⟨c5, hc5⟩ : ∃ c, orE cur (bdE (y.2.2.2.1 == 0) 8) = c := ⟨_, rfl⟩
                        rw [hc5] at RA1
                        have HC5 := hid hc5
                        clear hc5
                        have x1 := XA1.out.cell (i := 1) rfl
                        go_wp2_with fail
                        clear x1
                        go_loopw [19, 134] (fun _ i wq => ∃ j : Nat, j ≤ x.2.1.length ∧ i = .int .i64 j ∧ Hid (RB W wq B W.heap.size (orE c5 (foldE (vIdx (vMany y)) (x.2.1.take j))) (110 + 17 * k + 1 + j) [.slice a1 y.1.length k1, .slice a2 y.2.1.length k2, .slice a3 y.2.2.1.length k3, .int .i64 y.2.2.2.1, .int .i64 y.2.2.2.2.1, .int .i64 y.2.2.2.2.2.1, .slice a4 y.2.2.2.2.2.2.1.length k4, .slice a5 y.2.2.2.2.2.2.2.1.length k5, .int .i64 y.2.2.2.2.2.2.2.2.1, .slice (some ⟨lb, lo, none⟩) y.2.2.2.2.2.2.2.2.2.1.length k6, .slice a7 y.2.2.2.2.2.2.2.2.2.2.1.length k7])) (fun _ i _ => x.2.1.length - (RowKit.intOf i).toNat)
                        case atStart => exact ⟨0, Nat.zero_le _, rfl, hid (RA1.out.cast (orE_none c5).symm (by omega))⟩
                        case round =>
                          obtain ⟨j, hj, rfl, LI⟩ := hrel
                          by_cases hjl : j < x.2.1.length
                          · have hI := L1.below J1.out LI.out.bel
                            rcases hI.open with ⟨_, _, _, e, _⟩ | ⟨ib, io, icap, hv, _, ic1, ic2, ic⟩
                            · rw [e] at hjl; simp at hjl
                            simp only [Value.slice.injEq] at hv
                            obtain ⟨rfl, -, rfl⟩ := hv
                            have yi := ic j hjl
                            have HIX := hid (foldE_next (vIdx (vMany y)) x.2.1 j hjl c5)
                            clear ic hI
                            generalize hcj : orE c5 (foldE (vIdx (vMany y)) (x.2.1.take j)) = cj at *
                            generalize x.2.1[j] = nn at *
                            clear hcj
                            go_wp2_with fail
                            clear yi
                            refine (rad_any _ W.heap.size B (110 + 17 * k + 1 + j) cj 8 (decide ((y.2.1.length : Int) + (y.2.2.1.length : Int) ≤ nn)) (fun _ => by decide) (by omega) LI.out.rf).mono ?_
                            rintro r w3 hp
                            have RI1 := hid (LI.out.next hp)
                            obtain ⟨rfl, -⟩ := hp
                            go_wp2_with fail
                            go_roundw
                            case rel => exact ⟨j + 1, by omega, by go_num, hid (RI1.out.cast (by rw [← HIX.out]; rfl) (by omega))⟩
                            case measure => simp [RowKit.intOf]; omega
                          · obtain rfl : j = x.2.1.length := by omega
                            have RIz := LI.out
                            rw [List.take_length] at RIz
                            go_wp2_with fail
                            go_roundw
                            case rel => exact ⟨k + 1, by omega, by go_num, hid (RIz.cast (by rw [← HNX.out, HVX.out, ← HC5.out, orE_assoc]) (by omega))⟩
                            case measure => simp [RowKit.intOf]; omega
                      · obtain rfl : k = y.2.2.2.2.2.2.2.2.2.1.length := by omega
                        have R6x := LL.out
                        rw [List.take_length] at R6x
                        obtain ⟨c6, hc6⟩ : ∃ c, orE c4 (foldE (vElem y) y.2.2.2.2.2.2.2.2.2.1) = c := ⟨_, rfl⟩
                        rw [hc6] at R6x
                        have HC6 := hid hc6
                        have R6 := hid R6x
                        clear R6x LL hk hc6
                        have m10 := R6.out.m.cell (i := 10) rfl
                        have m5 := R6.out.m.cell (i := 5) rfl
                        by_cases hd : 0 < (y.2.2.2.2.2.2.2.2.2.2.1.length : Int)
                        · have hdq := hid hd
                          have HVD := hid (show vData y = bdE (y.2.2.2.2.2.1 == 0) 8 from by unfold vData; rw [show (y.2.2.2.2.2.1 == 0) = decide (y.2.2.2.2.2.1 = 0) from rfl, show decide (0 < (y.2.2.2.2.2.2.2.2.2.2.1.length : Int) ∧ y.2.2.2.2.2.1 = 0) = decide (y.2.2.2.2.2.1 = 0) from decide_eq_decide.2 ⟨fun g => g.2, fun g => ⟨hd, g⟩⟩])
                          go_wp2_with fail
                          clear m10 m5
                          refine (rad_any _ W.heap.size B (110 + 17 * y.2.2.2.2.2.2.2.2.2.1.length) c6 8 (y.2.2.2.2.2.1 == 0) (fun _ => by decide) (by omega) R6.out.rf).mono ?_
                          rintro r w7 hp
                          have R7 := hid (R6.out.next hp)
                          obtain ⟨rfl, -⟩ := hp
                          have HVF := hid (show vHead y = orE c6 (bdE (y.2.2.2.2.2.1 == 0) 8) from by
                            rw [HV1.out, HC3.out, ← HC6.out, ← HC4.out, ← HVD.out]
                            unfold vParts
                            simp only [orE_assoc])
                          obtain ⟨LF, hF, hf1, _, _⟩ := R7.out.rf.ex
                          obtain ⟨_, ⟨vF, hBk, hO⟩, _⟩ := hF
                          have HFA := hid (ffirst_any w7 vF LF (OwnI.ints hO))
                          rw [hf1, ← HVF.out] at HFA
                          obtain ⟨aF, cF, rfl, _⟩ := own_sl hO
                          have q0 := hBk.cell (i := 0) rfl
                          clear hf1 hO hBk
                          go_wp2_with fail
                          refine HFA.out.mono ?_
                          rintro r wz ⟨rfl, rfl⟩
                          go_wp2_with fail
                          go_ret
                          exact ⟨rfl, R7.out.bel⟩
                        · have hdq := hid hd
                          have HVD := hid (show vData y = bdE false 8 from by unfold vData; rw [decide_eq_false (fun g => hd g.1)])
                          go_wp2_with fail
                          clear m10 m5
                          refine (rad_any _ W.heap.size B (110 + 17 * y.2.2.2.2.2.2.2.2.2.1.length) c6 8 false (fun _ => by decide) (by omega) R6.out.rf).mono ?_
                          rintro r w7 hp
                          have R7 := hid (R6.out.next hp)
                          obtain ⟨rfl, -⟩ := hp
                          have HVF := hid (show vHead y = orE c6 (bdE false 8) from by
                            rw [HV1.out, HC3.out, ← HC6.out, ← HC4.out, ← HVD.out]
                            unfold vParts
                            simp only [orE_assoc])
                          obtain ⟨LF, hF, hf1, _, _⟩ := R7.out.rf.ex
                          obtain ⟨_, ⟨vF, hBk, hO⟩, _⟩ := hF
                          have HFA := hid (ffirst_any w7 vF LF (OwnI.ints hO))
                          rw [hf1, ← HVF.out] at HFA
                          obtain ⟨aF, cF, rfl, _⟩ := own_sl hO
                          have q0 := hBk.cell (i := 0) rfl
                          clear hf1 hO hBk
                          go_wp2_with fail
                          refine HFA.out.mono ?_
                          rintro r wz ⟨rfl, rfl⟩
                          go_wp2_with fail
                          go_ret
                          exact ⟨rfl, R7.out.bel⟩
                  · have hpd : decide (0 < y.2.2.2.2.2.2.2.2.1) = false := decide_eq_false hpos
                    have HSS := hid (show vStart y = 0 from by unfold vStart; rw [if_neg hpos])
                    clear hpos
                    have R42 := hid (R3.out.cast (show c3 = orE c3 (vStart y) from by rw [HSS.out, orE_none]) (show 104 ≤ 110 from by omega))
                    have m8 := R3.out.m.cell (i := 8) rfl
                    obtain ⟨c4, hc4⟩ : ∃ c, orE c3 (vStart y) = c := ⟨_, rfl⟩
                    have R5x := R42.out
                    rw [hc4] at R5x
                    have HC4 := hid hc4
                    have R5 := hid R5x
                    clear R5x hc4
                    have m9 := R5.out.m.cell (i := 9) rfl
                    go_wp2_with fail
                    clear m9
                    go_loopw [17, 123] (fun _ i wr => ∃ k : Nat, k ≤ y.2.2.2.2.2.2.2.2.2.1.length ∧ i = .int .i64 k ∧ Hid (RB W wr B W.heap.size (orE c4 (foldE (vElem y) (y.2.2.2.2.2.2.2.2.2.1.take k))) (110 + 17 * k) [.slice a1 y.1.length k1, .slice a2 y.2.1.length k2, .slice a3 y.2.2.1.length k3, .int .i64 y.2.2.2.1, .int .i64 y.2.2.2.2.1, .int .i64 y.2.2.2.2.2.1, .slice a4 y.2.2.2.2.2.2.1.length k4, .slice a5 y.2.2.2.2.2.2.2.1.length k5, .int .i64 y.2.2.2.2.2.2.2.2.1, .slice a6 y.2.2.2.2.2.2.2.2.2.1.length k6, .slice a7 y.2.2.2.2.2.2.2.2.2.2.1.length k7])) (fun _ i _ => y.2.2.2.2.2.2.2.2.2.1.length - (RowKit.intOf i).toNat)
                    case atStart => exact ⟨0, Nat.zero_le _, rfl, hid (R5.out.cast (orE_none c4).symm (by omega))⟩
                    case round =>
                      obtain ⟨k, hk, rfl, LL⟩ := hrel
                      by_cases hlt : k < y.2.2.2.2.2.2.2.2.2.1.length
                      · obtain ⟨lb, lo, cap', xs, hv, _, _, _, hX, hcc⟩ := sliceR_at K6.out (by decide) k hlt
                        simp only [Value.slice.injEq] at hv
                        obtain ⟨rfl, -, rfl⟩ := hv
                        have HNX := hid (foldE_next (vElem y) y.2.2.2.2.2.2.2.2.2.1 k hlt c4)
                        have HEL := hid (HG.out.elem.2 _ (List.getElem_mem hlt))
                        generalize hcur : orE c4 (foldE (vElem y) (y.2.2.2.2.2.2.2.2.2.1.take k)) = cur at *
                        generalize y.2.2.2.2.2.2.2.2.2.1[k] = x at *
                        clear hcur
                        have HVX := hid (show vElem y x = orE (bdE (y.2.2.2.1 == 0) 8) (foldE (vIdx (vMany y)) x.2.1) from by unfold vElem; rw [show (y.2.2.2.1 == 0) = decide (y.2.2.2.1 = 0) from rfl])
                        obtain ⟨_, _, rfl, ⟨rfl, _⟩, _, _, rfl, g1, rfl⟩ := hX
                        obtain ⟨q1, rfl⟩ := sl_one g1
                        have J1 := hid (ints_of g1)
                        obtain ⟨e1, d1, rfl, _, hd1, _⟩ := sl_shape g1
                        clear g1
                        have y0 : wr.cell? ⟨lb, lo + k * 2, none⟩ = some (.int .i64 x.1) := hcc wr LL.out.bel 0 (by decide)
                        have y1 : wr.cell? ⟨lb, lo + k * 2 + 1, none⟩ = some (.slice e1 x.2.1.length d1) := hcc wr LL.out.bel 1 (by decide)
                        clear hcc
                        have XB := hid (show wr.heap.size ≠ B from fun e => by have := LL.out.rf.lt; omega)
                        have XA := hid (Blk.new wr #[.int .i64 x.1, .slice e1 x.2.1.length d1] 67 _ rfl)
                        have RA := hid (LL.out.alloc (.cells #[.int .i64 x.1, .slice e1 x.2.1.length d1] 67))
                        have m3 := RA.out.m.cell (i := 3) rfl
                        have hx16 : (x.2.1.length : Int) ≤ 16 := by have := HEL.out.1; omega
                        go_wp2_with fail
                        clear m3 y0 y1
                        refine (rad_any _ W.heap.size B (110 + 17 * k) cur 8 (y.2.2.2.1 == 0) (fun _ => by decide) (by omega) RA.out.rf).mono ?_
                        rintro r w2 hp
                        have RA1 := hid (RA.out.next hp)
                        have XA1 := hid (X_next XA.out XB.out (by rfl) hp)
                        obtain ⟨rfl, -⟩ := hp
                        obtain ⟨c5, hc5⟩ : ∃ c, orE cur (bdE (y.2.2.2.1 == 0) 8) = c := ⟨_, rfl⟩
                        rw [hc5] at RA1
                        have HC5 := hid hc5
                        clear hc5
                        have x1 := XA1.out.cell (i := 1) rfl
                        go_wp2_with fail
                        clear x1
                        go_loopw [19, 134] (fun _ i wq => ∃ j : Nat, j ≤ x.2.1.length ∧ i = .int .i64 j ∧ Hid (RB W wq B W.heap.size (orE c5 (foldE (vIdx (vMany y)) (x.2.1.take j))) (110 + 17 * k + 1 + j) [.slice a1 y.1.length k1, .slice a2 y.2.1.length k2, .slice a3 y.2.2.1.length k3, .int .i64 y.2.2.2.1, .int .i64 y.2.2.2.2.1, .int .i64 y.2.2.2.2.2.1, .slice a4 y.2.2.2.2.2.2.1.length k4, .slice a5 y.2.2.2.2.2.2.2.1.length k5, .int .i64 y.2.2.2.2.2.2.2.2.1, .slice (some ⟨lb, lo, none⟩) y.2.2.2.2.2.2.2.2.2.1.length k6, .slice a7 y.2.2.2.2.2.2.2.2.2.2.1.length k7])) (fun _ i _ => x.2.1.length - (RowKit.intOf i).toNat)
                        case atStart => exact ⟨0, Nat.zero_le _, rfl, hid (RA1.out.cast (orE_none c5).symm (by omega))⟩
                        case round =>
                          obtain ⟨j, hj, rfl, LI⟩ := hrel
                          by_cases hjl : j < x.2.1.length
                          · have hI := L1.below J1.out LI.out.bel
                            rcases hI.open with ⟨_, _, _, e, _⟩ | ⟨ib, io, icap, hv, _, ic1, ic2, ic⟩
                            · rw [e] at hjl; simp at hjl
                            simp only [Value.slice.injEq] at hv
                            obtain ⟨rfl, -, rfl⟩ := hv
                            have yi := ic j hjl
                            have HIX := hid (foldE_next (vIdx (vMany y)) x.2.1 j hjl c5)
                            clear ic hI
                            generalize hcj : orE c5 (foldE (vIdx (vMany y)) (x.2.1.take j)) = cj at *
                            generalize x.2.1[j] = nn at *
                            clear hcj
                            go_wp2_with fail
                            clear yi
                            refine (rad_any _ W.heap.size B (110 + 17 * k + 1 + j) cj 8 (decide ((y.2.1.length : Int) + (y.2.2.1.length : Int) ≤ nn)) (fun _ => by decide) (by omega) LI.out.rf).mono ?_
                            rintro r w3 hp
                            have RI1 := hid (LI.out.next hp)
                            obtain ⟨rfl, -⟩ := hp
                            go_wp2_with fail
                            go_roundw
                            case rel => exact ⟨j + 1, by omega, by go_num, hid (RI1.out.cast (by rw [← HIX.out]; rfl) (by omega))⟩
                            case measure => simp [RowKit.intOf]; omega
                          · obtain rfl : j = x.2.1.length := by omega
                            have RIz := LI.out
                            rw [List.take_length] at RIz
                            go_wp2_with fail
                            go_roundw
                            case rel => exact ⟨k + 1, by omega, by go_num, hid (RIz.cast (by rw [← HNX.out, HVX.out, ← HC5.out, orE_assoc]) (by omega))⟩
                            case measure => simp [RowKit.intOf]; omega
                      · obtain rfl : k = y.2.2.2.2.2.2.2.2.2.1.length := by omega
                        have R6x := LL.out
                        rw [List.take_length] at R6x
                        obtain ⟨c6, hc6⟩ : ∃ c, orE c4 (foldE (vElem y) y.2.2.2.2.2.2.2.2.2.1) = c := ⟨_, rfl⟩
                        rw [hc6] at R6x
                        have HC6 := hid hc6
                        have R6 := hid R6x
                        clear R6x LL hk hc6
                        have m10 := R6.out.m.cell (i := 10) rfl
                        have m5 := R6.out.m.cell (i := 5) rfl
                        by_cases hd : 0 < (y.2.2.2.2.2.2.2.2.2.2.1.length : Int)
                        · have hdq := hid hd
                          have HVD := hid (show vData y = bdE (y.2.2.2.2.2.1 == 0) 8 from by unfold vData; rw [show (y.2.2.2.2.2.1 == 0) = decide (y.2.2.2.2.2.1 = 0) from rfl, show decide (0 < (y.2.2.2.2.2.2.2.2.2.2.1.length : Int) ∧ y.2.2.2.2.2.1 = 0) = decide (y.2.2.2.2.2.1 = 0) from decide_eq_decide.2 ⟨fun g => g.2, fun g => ⟨hd, g⟩⟩])
                          go_wp2_with fail
                          clear m10 m5
                          refine (rad_any _ W.heap.size B (110 + 17 * y.2.2.2.2.2.2.2.2.2.1.length) c6 8 (y.2.2.2.2.2.1 == 0) (fun _ => by decide) (by omega) R6.out.rf).mono ?_
                          rintro r w7 hp
                          have R7 := hid (R6.out.next hp)
                          obtain ⟨rfl, -⟩ := hp
                          have HVF := hid (show vHead y = orE c6 (bdE (y.2.2.2.2.2.1 == 0) 8) from by
                            rw [HV1.out, HC3.out, ← HC6.out, ← HC4.out, ← HVD.out]
                            unfold vParts
                            simp only [orE_assoc])
                          obtain ⟨LF, hF, hf1, _, _⟩ := R7.out.rf.ex
                          obtain ⟨_, ⟨vF, hBk, hO⟩, _⟩ := hF
                          have HFA := hid (ffirst_any w7 vF LF (OwnI.ints hO))
                          rw [hf1, ← HVF.out] at HFA
                          obtain ⟨aF, cF, rfl, _⟩ := own_sl hO
                          have q0 := hBk.cell (i := 0) rfl
                          clear hf1 hO hBk
                          go_wp2_with fail
                          refine HFA.out.mono ?_
                          rintro r wz ⟨rfl, rfl⟩
                          go_wp2_with fail
                          go_ret
                          exact ⟨rfl, R7.out.bel⟩
                        · have hdq := hid hd
                          have HVD := hid (show vData y = bdE false 8 from by unfold vData; rw [decide_eq_false (fun g => hd g.1)])
                          go_wp2_with fail
                          clear m10 m5
                          refine (rad_any _ W.heap.size B (110 + 17 * y.2.2.2.2.2.2.2.2.2.1.length) c6 8 false (fun _ => by decide) (by omega) R6.out.rf).mono ?_
                          rintro r w7 hp
                          have R7 := hid (R6.out.next hp)
                          obtain ⟨rfl, -⟩ := hp
                          have HVF := hid (show vHead y = orE c6 (bdE false 8) from by
                            rw [HV1.out, HC3.out, ← HC6.out, ← HC4.out, ← HVD.out]
                            unfold vParts
                            simp only [orE_assoc])
                          obtain ⟨LF, hF, hf1, _, _⟩ := R7.out.rf.ex
                          obtain ⟨_, ⟨vF, hBk, hO⟩, _⟩ := hF
                          have HFA := hid (ffirst_any w7 vF LF (OwnI.ints hO))
                          rw [hf1, ← HVF.out] at HFA
                          obtain ⟨aF, cF, rfl, _⟩ := own_sl hO
                          have q0 := hBk.cell (i := 0) rfl
                          clear hf1 hO hBk
                          go_wp2_with fail
                          refine HFA.out.mono ?_
                          rintro r wz ⟨rfl, rfl⟩
                          go_wp2_with fail
                          go_ret
                          exact ⟨rfl, R7.out.bel⟩
            · have hz : (b2 != 0) = true := by simpa using h0
              have HV := hid (show vHead y = b2 from by rw [HV0.out]; exact orE_stop h0 _)
              go_wp2_with fail
              refine HFA.out.mono ?_
              rintro r wz ⟨rfl, rfl⟩
              go_wp2_with fail
              go_ret
              rw [HV.out]
              exact ⟨rfl, R2.out.bel⟩
  · have hz : (E != 0) = true := by simpa using he
    have HV := hid (show vHead y = E from by unfold vHead; rw [HEE.out]; exact orE_stop he _)
    go_wp2_with fail
    go_ret
    rw [HV.out]
    exact ⟨rfl, M1.out.bel⟩
end Go.Proofs.YtdiiefhklcchmaaDoor
