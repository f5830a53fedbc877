/-
  THE LAW ValidHeads: Head of modules is the reference's, for every module of bulk at most 1048576. Conditions: that bound; unicode/utf8's two tables hold what the row lists; the variable of the library that strings.Contains reads holds some number (the world's shape gives it).
-/
import Derived.Test.YtdiiefhklcchmaaDoorGValidHeads12
import Derived.Test.YtdiiefhklcchmaaDoorGValidHeads13
namespace Go.Proofs.YtdiiefhklcchmaaDoor
open Go.RowKit

set_option maxRecDepth 100000 in
set_option maxHeartbeats 8000000 in
theorem law_ValidHeads (v0 : Value) (x0 : D_api_Module) (W : World) (i0 : IsAgg (R_api_Module W) v0 x0) (hB : b_api_Module x0 ≤ 1048576) (hT : UTabs W) (hM : MaxL W) :
    Calls Tryd.prog 4 #[v0] W fun e w' => e = .returned (.bool true) ∧ Below W.heap.size W w' := by
  obtain ⟨cs, rfl, hR⟩ := i0
  have g1 := sumC_bulk cSig b_api_Sig bSig x0.1
  have g2 := sumC_bulk cImport b_api_Import (fun y => by unfold cImport b_api_Import; omega) x0.2.1
  have g3 := sumC_bulk cFunc b_api_Func bFunc x0.2.2.1
  have g4 := sumC_bulk cGlobal b_api_Global (fun y => by unfold cGlobal b_api_Global; omega) x0.2.2.2.2.2.2.1
  have g5 := sumC_bulk cExport b_api_Export (fun y => by unfold cExport b_api_Export; omega) x0.2.2.2.2.2.2.2.1
  have g6 := sumC_bulk cElem b_api_Elem bElem x0.2.2.2.2.2.2.2.2.2.1
  have g7 := sumC_bulk cData b_api_Data (fun y => by unfold cData b_api_Data; omega) x0.2.2.2.2.2.2.2.2.2.2.1
  unfold b_api_Module c_api_Module b_s_api_Sig b_s_api_Import b_s_api_Func b_s_api_Global b_s_api_Export b_s_api_Elem b_s_api_Data at hB
  simp only at hB
  have HP := hid (fun wx (hb : Below W.heap.size W wx) => phead_any wx wx cs x0 (Below.refl _ _) (hT.below hb) (module_bel hR hb))
  have HQ := hid (fun wx (hb : Below W.heap.size W wx) => rhead_any wx cs x0 (hM.below hb) (module_bel hR hb) (by omega) (by omega) (by omega) (by omega) (by omega) (by omega) (by omega))
  clear g1 g2 g3 g4 g5 g6 g7 hB hT hM
  generalize vHead x0 = E at *
  obtain ⟨_, _, rfl, h1, _, _, rfl, h2, _, _, rfl, h3, _, _, rfl, ⟨rfl, _⟩, _, _, rfl, ⟨rfl, _⟩, _, _, rfl, ⟨rfl, _⟩, _, _, rfl, h4, _, _, rfl, h5, _, _, rfl, ⟨rfl, _⟩, _, _, rfl, h6, _, _, rfl, h7, rfl⟩ := hR
  obtain ⟨u1, rfl⟩ := sl_one h1
  obtain ⟨u2, rfl⟩ := sl_one h2
  obtain ⟨u3, rfl⟩ := sl_one h3
  obtain ⟨u4, rfl⟩ := sl_one h4
  obtain ⟨u5, rfl⟩ := sl_one h5
  obtain ⟨u6, rfl⟩ := sl_one h6
  obtain ⟨u7, rfl⟩ := sl_one h7
  obtain ⟨a1, k1, rfl, _, _, _⟩ := sl_shape h1
  obtain ⟨a2, k2, rfl, _, _, _⟩ := sl_shape h2
  obtain ⟨a3, k3, rfl, _, _, _⟩ := sl_shape h3
  obtain ⟨a4, k4, rfl, _, _, _⟩ := sl_shape h4
  obtain ⟨a5, k5, rfl, _, _, _⟩ := sl_shape h5
  obtain ⟨a6, k6, rfl, _, _, _⟩ := sl_shape h6
  obtain ⟨a7, k7, rfl, _, _, _⟩ := sl_shape h7
  clear h1 h2 h3 h4 h5 h6 h7
  have hX := Blk.new W #[.slice a1 x0.1.length k1, .slice a2 x0.2.1.length k2, .slice a3 x0.2.2.1.length k3, .int .i64 x0.2.2.2.1, .int .i64 x0.2.2.2.2.1, .int .i64 x0.2.2.2.2.2.1, .slice a4 x0.2.2.2.2.2.2.1.length k4, .slice a5 x0.2.2.2.2.2.2.2.1.length k5, .int .i64 x0.2.2.2.2.2.2.2.2.1, .slice a6 x0.2.2.2.2.2.2.2.2.2.1.length k6, .slice a7 x0.2.2.2.2.2.2.2.2.2.2.1.length k7] 30 _ rfl
  have X0 := hid (hX.below (Below.refl _ _).drew)
  have b0 := (Below.refl W.heap.size W).alloc (Nat.le_refl _) (.cells #[.slice a1 x0.1.length k1, .slice a2 x0.2.1.length k2, .slice a3 x0.2.2.1.length k3, .int .i64 x0.2.2.2.1, .int .i64 x0.2.2.2.2.1, .int .i64 x0.2.2.2.2.2.1, .slice a4 x0.2.2.2.2.2.2.1.length k4, .slice a5 x0.2.2.2.2.2.2.2.1.length k5, .int .i64 x0.2.2.2.2.2.2.2.2.1, .slice a6 x0.2.2.2.2.2.2.2.2.2.1.length k6, .slice a7 x0.2.2.2.2.2.2.2.2.2.2.1.length k7] 30)
  have B0 := hid b0.drew
  clear hX b0
  go_enter Tryd.func4, Tryd.ntmps4
  go_wp2_with fail
  go_region_held3 (fun w' => w'.cell? ⟨W.heap.size, 0, none⟩ = some (.slice a1 x0.1.length k1) ∧ w'.cell? ⟨W.heap.size, 1, none⟩ = some (.slice a2 x0.2.1.length k2) ∧ w'.cell? ⟨W.heap.size, 2, none⟩ = some (.slice a3 x0.2.2.1.length k3) ∧ w'.cell? ⟨W.heap.size, 3, none⟩ = some (.int .i64 x0.2.2.2.1) ∧ w'.cell? ⟨W.heap.size, 4, none⟩ = some (.int .i64 x0.2.2.2.2.1) ∧ w'.cell? ⟨W.heap.size, 5, none⟩ = some (.int .i64 x0.2.2.2.2.2.1) ∧ w'.cell? ⟨W.heap.size, 6, none⟩ = some (.slice a4 x0.2.2.2.2.2.2.1.length k4) ∧ w'.cell? ⟨W.heap.size, 7, none⟩ = some (.slice a5 x0.2.2.2.2.2.2.2.1.length k5) ∧ w'.cell? ⟨W.heap.size, 8, none⟩ = some (.int .i64 x0.2.2.2.2.2.2.2.2.1) ∧ w'.cell? ⟨W.heap.size, 9, none⟩ = some (.slice a6 x0.2.2.2.2.2.2.2.2.2.1.length k6) ∧ w'.cell? ⟨W.heap.size, 10, none⟩ = some (.slice a7 x0.2.2.2.2.2.2.2.2.2.2.1.length k7)) (first | exact ⟨X0.out.cell (i := 0) rfl, X0.out.cell (i := 1) rfl, X0.out.cell (i := 2) rfl, X0.out.cell (i := 3) rfl, X0.out.cell (i := 4) rfl, X0.out.cell (i := 5) rfl, X0.out.cell (i := 6) rfl, X0.out.cell (i := 7) rfl, X0.out.cell (i := 8) rfl, X0.out.cell (i := 9) rfl, X0.out.cell (i := 10) rfl⟩ | exact ⟨X2.out.cell (i := 0) rfl, X2.out.cell (i := 1) rfl, X2.out.cell (i := 2) rfl, X2.out.cell (i := 3) rfl, X2.out.cell (i := 4) rfl, X2.out.cell (i := 5) rfl, X2.out.cell (i := 6) rfl, X2.out.cell (i := 7) rfl, X2.out.cell (i := 8) rfl, X2.out.cell (i := 9) rfl, X2.out.cell (i := 10) rfl⟩ | exact ⟨X1.out.cell (i := 0) rfl, X1.out.cell (i := 1) rfl, X1.out.cell (i := 2) rfl, X1.out.cell (i := 3) rfl, X1.out.cell (i := 4) rfl, X1.out.cell (i := 5) rfl, X1.out.cell (i := 6) rfl, X1.out.cell (i := 7) rfl, X1.out.cell (i := 8) rfl, X1.out.cell (i := 9) rfl, X1.out.cell (i := 10) rfl⟩)
    (first | (go_at_call 7; refine (HP.out _ B0.out).mono ?_; rintro r w1 ⟨rfl, hb1⟩; have B1 := hid (B0.out.trans (hb1.mono B0.out.size)); have X1 := hid (X0.out.below hb1); clear hb1) | (go_at_call 8; refine (HQ.out _ B1.out).mono ?_; rintro r w2 ⟨rfl, hb2⟩; have B2 := hid (B1.out.trans (hb2.mono B1.out.size)); have X2 := hid (X1.out.below hb2); clear hb2))
  all_goals
    go_wp2_with fail
    go_ret
    exact ⟨rfl, B2.out⟩
end Go.Proofs.YtdiiefhklcchmaaDoor
