/-
  MODULES READ: SameModule at two readings of one module. No condition. Printed by a program of mine.
-/
import Derived.Test.YtakfineljffoaaaGreatDoorGBinReads16
import Derived.Test.YtakfineljffoaaaGreatDoorGBinReads23
import Derived.Test.YtakfineljffoaaaGreatDoorGBinReads28
import Derived.Test.YtakfineljffoaaaGreatDoorGBinReads31
import Derived.Test.YtakfineljffoaaaGreatDoorGBinReads43
import Derived.Test.YtakfineljffoaaaGreatDoorGBinReads44
import Derived.Test.YtakfineljffoaaaGreatDoorGBinReads45
import Derived.Test.YtakfineljffoaaaGreatDoorGBinReads46
import Derived.Test.YtakfineljffoaaaGreatDoorRows
import Derived.PinnedBridge
namespace Go.Proofs.YtakfineljffoaaaGreatDoor
open Go.RowKit Go.Lib

theorem eqK_same {w : World} {b1 b2 : Nat} {u v : Value} {xs : List Int} (h1 : OwnI w b1 .u8 68 u xs) (h2 : OwnI w b2 .u8 68 v xs) (wx : World) (hb : Below w.heap.size w wx) :
    Calls Tryz.prog 26 #[u, v] wx fun e w' => e = .returned (.bool true) ∧ w' = wx :=
  (eq_kind u v xs xs wx (h1.below hb).ints (h2.below hb).ints).mono (fun _ _ ⟨g1, g2⟩ => ⟨by rw [g1, decide_eq_true rfl], g2.symm⟩)
theorem eqN_same {w : World} {b1 b2 : Nat} {u v : Value} {xs : List Int} (h1 : OwnI w b1 .i64 3 u xs) (h2 : OwnI w b2 .i64 3 v xs) (wx : World) (hb : Below w.heap.size w wx) :
    Calls Tryz.prog 28 #[u, v] wx fun e w' => e = .returned (.bool true) ∧ w' = wx :=
  (eq_int u v xs xs wx (h1.below hb).ints (h2.below hb).ints).mono (fun _ _ ⟨g1, g2⟩ => ⟨by rw [g1, decide_eq_true rfl], g2.symm⟩)
set_option maxRecDepth 100000 in
set_option maxHeartbeats 2000000 in
theorem sameSig_any (w : World) (b1 b2 : Nat) (c1 c2 : List Value) (x : Sg) (h1 : ESg w b1 c1 x) (h2 : ESg w b2 c2 x) :
    Calls Tryz.prog 30 #[.agg c1.toArray, .agg c2.toArray] w fun e w' => e = .returned (.bool true) ∧ Below w.heap.size w w' := by
  obtain ⟨u, v, rfl, hu, hv⟩ := h1
  obtain ⟨u', v', rfl, hu', hv'⟩ := h2
  have E1 := hid (eqK_same hu hu')
  have E2 := hid (eqK_same hv hv')
  obtain ⟨au, cu, rfl, -⟩ := own_sl hu
  obtain ⟨av, cv, rfl, -⟩ := own_sl hv
  obtain ⟨au', cu', rfl, -⟩ := own_sl hu'
  obtain ⟨av', cv', rfl, -⟩ := own_sl hv'
  have HB := hid (show Below w.heap.size w ((w.alloc (.cells #[.slice au x.1.length cu, .slice av x.2.length cv] 77)).alloc (.cells #[.slice au' x.1.length cu', .slice av' x.2.length cv'] 77)) from ((Below.refl _ _).alloc (Nat.le_refl _) _).alloc (by simp) _)
  clear hu hv hu' hv'
  go_enter Tryz.func30, Tryz.ntmps30
  go_wp2_with fail
  refine (E1.out _ HB.out).mono ?_
  rintro r w1 ⟨rfl, hw⟩
  subst hw
  go_wp2_with fail
  refine (E2.out _ HB.out).mono ?_
  rintro r w1 ⟨rfl, hw⟩
  subst hw
  go_wp2_with fail
  go_ret
  exact ⟨rfl, HB.out⟩
set_option maxRecDepth 100000 in
set_option maxHeartbeats 2000000 in
theorem sameFun_any (w : World) (b1 b2 : Nat) (c1 c2 : List Value) (x : Fn) (h1 : EFn w b1 c1 x) (h2 : EFn w b2 c2 x) :
    Calls Tryz.prog 25 #[.agg c1.toArray, .agg c2.toArray] w fun e w' => e = .returned (.bool true) ∧ Below w.heap.size w w' := by
  obtain ⟨u, v, rfl, hu, hv⟩ := h1
  obtain ⟨u', v', rfl, hu', hv'⟩ := h2
  have E1 := hid (eqK_same hu hu')
  have E2 := hid (fun (wx : World) (hb : Below w.heap.size w wx) => sameBody_any wx v v' x.2.2 (hv.below hb).bod (hv'.below hb).bod)
  obtain ⟨au, cu, rfl, -⟩ := own_sl hu
  obtain ⟨au', cu', rfl, -⟩ := own_sl hu'
  obtain ⟨cs1, -, hz⟩ := id hv
  obtain ⟨av, cv, rfl, -⟩ := own_sl hz
  obtain ⟨cs2, -, hz'⟩ := id hv'
  obtain ⟨av', cv', rfl, -⟩ := own_sl hz'
  have HB := hid (show Below w.heap.size w ((w.alloc (.cells #[.int .i64 x.1, .slice au x.2.1.length cu, .slice av x.2.2.length cv] 66)).alloc (.cells #[.int .i64 x.1, .slice au' x.2.1.length cu', .slice av' x.2.2.length cv'] 66)) from ((Below.refl _ _).alloc (Nat.le_refl _) _).alloc (by simp) _)
  clear hu hv hu' hv' hz hz'
  go_enter Tryz.func25, Tryz.ntmps25
  go_wp2_with fail
  refine (E1.out _ HB.out).mono ?_
  rintro r w1 ⟨rfl, hw⟩
  subst hw
  go_wp2_with fail
  refine (E2.out _ HB.out).mono ?_
  rintro r w1 ⟨rfl, hb1⟩
  have HB := hid (HB.out.trans (hb1.mono HB.out.size))
  clear hb1
  go_wp2_with fail
  go_ret
  exact ⟨rfl, HB.out⟩
set_option maxRecDepth 100000 in
set_option maxHeartbeats 2000000 in
theorem sameElem_any (w : World) (b1 b2 : Nat) (c1 c2 : List Value) (x : El) (h1 : EEl w b1 c1 x) (h2 : EEl w b2 c2 x) :
    Calls Tryz.prog 27 #[.agg c1.toArray, .agg c2.toArray] w fun e w' => e = .returned (.bool true) ∧ Below w.heap.size w w' := by
  obtain ⟨u, rfl, hu⟩ := h1
  obtain ⟨u', rfl, hu'⟩ := h2
  have E1 := hid (eqN_same hu hu')
  obtain ⟨au, cu, rfl, -⟩ := own_sl hu
  obtain ⟨au', cu', rfl, -⟩ := own_sl hu'
  have HB := hid (show Below w.heap.size w ((w.alloc (.cells #[.int .i64 x.1, .slice au x.2.length cu] 72)).alloc (.cells #[.int .i64 x.1, .slice au' x.2.length cu'] 72)) from ((Below.refl _ _).alloc (Nat.le_refl _) _).alloc (by simp) _)
  clear hu hu'
  go_enter Tryz.func27, Tryz.ntmps27
  go_wp2_with fail
  refine (E1.out _ HB.out).mono ?_
  rintro r w1 ⟨rfl, hw⟩
  subst hw
  go_wp2_with fail
  go_ret
  exact ⟨rfl, HB.out⟩
theorem esg_len {w : World} {b : Nat} {cs : List Value} {x : Sg} (h : ESg w b cs x) : cs.length = 2 := by
  obtain ⟨u, v, rfl, _⟩ := h
  rfl
theorem eel_len {w : World} {b : Nat} {cs : List Value} {x : El} (h : EEl w b cs x) : cs.length = 2 := by
  obtain ⟨u, rfl, _⟩ := h
  rfl
theorem efn_len' {w : World} {b : Nat} {cs : List Value} {x : Fn} (h : EFn w b cs x) : cs.length = 3 := by
  obtain ⟨u, v, rfl, _⟩ := h
  rfl
theorem rowT {w : World} {b1 b2 : Nat} {va vb : Value} {l : List Sg} (h1 : OwR ESg 77 2 w b1 va l) (h2 : OwR ESg 77 2 w b2 vb l) (wx : World) (hb : Below w.heap.size w wx) :
    Calls Tryz.prog 29 #[va, vb, .func (.func 30) #[] #[]] wx fun e w' => e = .returned (.bool true) ∧ Below wx.heap.size wx w' := by
  have k := KT.below (bad := 58) hb
  obtain ⟨ca, ⟨a1, a2⟩, a3⟩ := h1.keep k rfl (ESg.kt k noM_cu.toInn)
  obtain ⟨cb, ⟨b1', b2'⟩, b3⟩ := h2.keep k rfl (ESg.kt k noM_cu.toInn)
  refine sameAll_SaS wx va vb ca cb (by omega) (fun c hc => ?_) (fun c hc => ?_) (by rw [a1]; exact own_sl a3) (by rw [b1']; exact own_sl b3) (fun i h1 h2 w' hbw => ?_)
  · obtain ⟨i, hi, rfl⟩ := List.getElem_of_mem hc
    exact esg_len (a2 i hi (by omega))
  · obtain ⟨i, hi, rfl⟩ := List.getElem_of_mem hc
    exact esg_len (b2' i hi (by omega))
  · have k2 := KT.below (bad := 58) hbw
    exact sameSig_any w' _ _ _ _ (l[i]'(by omega)) (ESg.kt k2 noM_cu.toInn _ _ (a2 i h1 (by omega))) (ESg.kt k2 noM_cu.toInn _ _ (b2' i h2 (by omega)))
theorem rowF {w : World} {b1 b2 : Nat} {va vb : Value} {l : List Fn} (h1 : OwR EFn 66 3 w b1 va l) (h2 : OwR EFn 66 3 w b2 vb l) (wx : World) (hb : Below w.heap.size w wx) :
    Calls Tryz.prog 32 #[va, vb, .func (.func 25) #[] #[]] wx fun e w' => e = .returned (.bool true) ∧ Below wx.heap.size wx w' := by
  have k := KT.below (bad := 58) hb
  obtain ⟨ca, ⟨a1, a2⟩, a3⟩ := h1.keep k rfl (EFn.kt k noM_cu.toInn)
  obtain ⟨cb, ⟨b1', b2'⟩, b3⟩ := h2.keep k rfl (EFn.kt k noM_cu.toInn)
  refine sameAll_SaF wx va vb ca cb (by omega) (fun c hc => ?_) (fun c hc => ?_) (by rw [a1]; exact own_sl a3) (by rw [b1']; exact own_sl b3) (fun i h1 h2 w' hbw => ?_)
  · obtain ⟨i, hi, rfl⟩ := List.getElem_of_mem hc
    exact efn_len' (a2 i hi (by omega))
  · obtain ⟨i, hi, rfl⟩ := List.getElem_of_mem hc
    exact efn_len' (b2' i hi (by omega))
  · have k2 := KT.below (bad := 58) hbw
    exact sameFun_any w' _ _ _ _ (l[i]'(by omega)) (EFn.kt k2 noM_cu.toInn _ _ (a2 i h1 (by omega))) (EFn.kt k2 noM_cu.toInn _ _ (b2' i h2 (by omega)))
theorem rowE {w : World} {b1 b2 : Nat} {va vb : Value} {l : List El} (h1 : OwR EEl 72 2 w b1 va l) (h2 : OwR EEl 72 2 w b2 vb l) (wx : World) (hb : Below w.heap.size w wx) :
    Calls Tryz.prog 35 #[va, vb, .func (.func 27) #[] #[]] wx fun e w' => e = .returned (.bool true) ∧ Below wx.heap.size wx w' := by
  have k := KT.below (bad := 58) hb
  obtain ⟨ca, ⟨a1, a2⟩, a3⟩ := h1.keep k rfl (EEl.kt k noM_cu.toInn)
  obtain ⟨cb, ⟨b1', b2'⟩, b3⟩ := h2.keep k rfl (EEl.kt k noM_cu.toInn)
  refine sameAll_SaE wx va vb ca cb (by omega) (fun c hc => ?_) (fun c hc => ?_) (by rw [a1]; exact own_sl a3) (by rw [b1']; exact own_sl b3) (fun i h1 h2 w' hbw => ?_)
  · obtain ⟨i, hi, rfl⟩ := List.getElem_of_mem hc
    exact eel_len (a2 i hi (by omega))
  · obtain ⟨i, hi, rfl⟩ := List.getElem_of_mem hc
    exact eel_len (b2' i hi (by omega))
  · have k2 := KT.below (bad := 58) hbw
    exact sameElem_any w' _ _ _ _ (l[i]'(by omega)) (EEl.kt k2 noM_cu.toInn _ _ (a2 i h1 (by omega))) (EEl.kt k2 noM_cu.toInn _ _ (b2' i h2 (by omega)))
theorem flat_enc {α : Type} (enc : α → List Value) : ∀ (css : List (List Value)) (l : List α), css.length = l.length → (∀ i (h1 : i < css.length) (h2 : i < l.length), css[i] = enc l[i]) → css.flatten = l.flatMap enc := by
  intro css
  induction css with
  | nil => intro l h _; cases l with
    | nil => rfl
    | cons a l => simp at h
  | cons c css ih =>
    intro l h hh
    cases l with
    | nil => simp at h
    | cons a l =>
      rw [List.flatten_cons, List.flatMap_cons, ih l (by simpa using h) (fun i h1 h2 => hh (i + 1) (by simp; omega) (by simp; omega))]
      have h0 := hh 0 (by simp) (by simp)
      simp only [List.getElem_cons_zero] at h0
      rw [h0]
theorem rowI {w : World} {b1 b2 : Nat} {va vb : Value} {l : List Im} (h1 : OwR EIm 81 2 w b1 va l) (h2 : OwR EIm 81 2 w b2 vb l) (wx : World) (hb : Below w.heap.size w wx) :
    Calls Tryz.prog 31 #[va, vb] wx fun e w' => e = .returned (.bool true) ∧ Below wx.heap.size wx w' := by
  have lk : ∀ {b : Nat} {v : Value}, OwR EIm 81 2 w b v l → Lk encImp wx v l := by
    intro b v h
    obtain ⟨ca, ⟨a1, a2⟩, a3⟩ := h
    have := Sl.below (own_sl a3) hb
    rw [flat_enc encImp ca l a1 (fun i h1 h2 => a2 i h1 h2)] at this
    exact this
  exact eqs_Imp va vb l wx (lk h1) (lk h2)
theorem rowX {w : World} {b1 b2 : Nat} {va vb : Value} {l : List Im} (h1 : OwR EIm 88 2 w b1 va l) (h2 : OwR EIm 88 2 w b2 vb l) (wx : World) (hb : Below w.heap.size w wx) :
    Calls Tryz.prog 34 #[va, vb] wx fun e w' => e = .returned (.bool true) ∧ Below wx.heap.size wx w' := by
  have lk : ∀ {b : Nat} {v : Value}, OwR EIm 88 2 w b v l → Lk encExp wx v l := by
    intro b v h
    obtain ⟨ca, ⟨a1, a2⟩, a3⟩ := h
    have := Sl.below (own_sl a3) hb
    rw [flat_enc encExp ca l a1 (fun i h1 h2 => a2 i h1 h2)] at this
    exact this
  exact eqs_Exp va vb l wx (lk h1) (lk h2)
theorem rowG {w : World} {b1 b2 : Nat} {va vb : Value} {l : List Gb} (h1 : OwR EGb 85 3 w b1 va l) (h2 : OwR EGb 85 3 w b2 vb l) (wx : World) (hb : Below w.heap.size w wx) :
    Calls Tryz.prog 33 #[va, vb] wx fun e w' => e = .returned (.bool true) ∧ Below wx.heap.size wx w' := by
  have lk : ∀ {b : Nat} {v : Value}, OwR EGb 85 3 w b v l → Lk encGlb wx v l := by
    intro b v h
    obtain ⟨ca, ⟨a1, a2⟩, a3⟩ := h
    have := Sl.below (own_sl a3) hb
    rw [flat_enc encGlb ca l a1 (fun i h1 h2 => a2 i h1 h2)] at this
    exact this
  exact eqs_Glb va vb l wx (lk h1) (lk h2)
theorem rowD {w : World} {b1 b2 : Nat} {va vb : Value} {l : List Da} (h1 : OwR EDa 92 2 w b1 va l) (h2 : OwR EDa 92 2 w b2 vb l) (wx : World) (hb : Below w.heap.size w wx) :
    Calls Tryz.prog 36 #[va, vb] wx fun e w' => e = .returned (.bool true) ∧ Below wx.heap.size wx w' := by
  have lk : ∀ {b : Nat} {v : Value}, OwR EDa 92 2 w b v l → Lk encDat wx v l := by
    intro b v h
    obtain ⟨ca, ⟨a1, a2⟩, a3⟩ := h
    have := Sl.below (own_sl a3) hb
    rw [flat_enc encDat ca l a1 (fun i h1 h2 => a2 i h1 h2)] at this
    exact this
  exact eqs_Dat va vb l wx (lk h1) (lk h2)
set_option maxRecDepth 100000 in
set_option maxHeartbeats 8000000 in
theorem sameModule_any (w : World) (H1 H2 : Nat) (vt vi vf vg vx ve vd ut ui uf ug ux ue ud : Value) (m : Mdl) (h1 : MV w H1 vt vi vf vg vx ve vd m) (h2 : MV w H2 ut ui uf ug ux ue ud m) :
    Calls Tryz.prog 7 #[mdlV vt vi vf vg vx ve vd m, mdlV ut ui uf ug ux ue ud m] w fun e w' => e = .returned (.bool true) ∧ Below w.heap.size w w' := by
  unfold mdlV
  have Et := hid (rowT h1.t h2.t)
  have Ei := hid (rowI h1.i h2.i)
  have Ef := hid (rowF h1.f h2.f)
  have Eg := hid (rowG h1.g h2.g)
  have Ex := hid (rowX h1.x h2.x)
  have Ee := hid (rowE h1.e h2.e)
  have Ed := hid (rowD h1.d h2.d)
  obtain ⟨c1t, -, z1t⟩ := id h1.t
  obtain ⟨o1t, k1t, rfl, -⟩ := own_sl z1t
  obtain ⟨c2t, -, z2t⟩ := id h2.t
  obtain ⟨o2t, k2t, rfl, -⟩ := own_sl z2t
  clear z1t z2t
  obtain ⟨c1i, -, z1i⟩ := id h1.i
  obtain ⟨o1i, k1i, rfl, -⟩ := own_sl z1i
  obtain ⟨c2i, -, z2i⟩ := id h2.i
  obtain ⟨o2i, k2i, rfl, -⟩ := own_sl z2i
  clear z1i z2i
  obtain ⟨c1f, -, z1f⟩ := id h1.f
  obtain ⟨o1f, k1f, rfl, -⟩ := own_sl z1f
  obtain ⟨c2f, -, z2f⟩ := id h2.f
  obtain ⟨o2f, k2f, rfl, -⟩ := own_sl z2f
  clear z1f z2f
  obtain ⟨c1g, -, z1g⟩ := id h1.g
  obtain ⟨o1g, k1g, rfl, -⟩ := own_sl z1g
  obtain ⟨c2g, -, z2g⟩ := id h2.g
  obtain ⟨o2g, k2g, rfl, -⟩ := own_sl z2g
  clear z1g z2g
  obtain ⟨c1x, -, z1x⟩ := id h1.x
  obtain ⟨o1x, k1x, rfl, -⟩ := own_sl z1x
  obtain ⟨c2x, -, z2x⟩ := id h2.x
  obtain ⟨o2x, k2x, rfl, -⟩ := own_sl z2x
  clear z1x z2x
  obtain ⟨c1e, -, z1e⟩ := id h1.e
  obtain ⟨o1e, k1e, rfl, -⟩ := own_sl z1e
  obtain ⟨c2e, -, z2e⟩ := id h2.e
  obtain ⟨o2e, k2e, rfl, -⟩ := own_sl z2e
  clear z1e z2e
  obtain ⟨c1d, -, z1d⟩ := id h1.d
  obtain ⟨o1d, k1d, rfl, -⟩ := own_sl z1d
  obtain ⟨c2d, -, z2d⟩ := id h2.d
  obtain ⟨o2d, k2d, rfl, -⟩ := own_sl z2d
  clear z1d z2d
  have HB := hid (show Below w.heap.size w ((w.alloc (.cells #[.slice o1t m.types.length k1t, .slice o1i m.imports.length k1i, .slice o1f m.funcs.length k1f, .int .i64 m.table, .int .i64 m.pages, .int .i64 m.most, .slice o1g m.globals.length k1g, .slice o1x m.exports.length k1x, .int .i64 m.start, .slice o1e m.elems.length k1e, .slice o1d m.data.length k1d] 30)).alloc (.cells #[.slice o2t m.types.length k2t, .slice o2i m.imports.length k2i, .slice o2f m.funcs.length k2f, .int .i64 m.table, .int .i64 m.pages, .int .i64 m.most, .slice o2g m.globals.length k2g, .slice o2x m.exports.length k2x, .int .i64 m.start, .slice o2e m.elems.length k2e, .slice o2d m.data.length k2d] 30)) from ((Below.refl _ _).alloc (Nat.le_refl _) _).alloc (by simp) _)
  have Y := hid ((Blk.new w #[.slice o1t m.types.length k1t, .slice o1i m.imports.length k1i, .slice o1f m.funcs.length k1f, .int .i64 m.table, .int .i64 m.pages, .int .i64 m.most, .slice o1g m.globals.length k1g, .slice o1x m.exports.length k1x, .int .i64 m.start, .slice o1e m.elems.length k1e, .slice o1d m.data.length k1d] 30 _ rfl).alloc (.cells #[.slice o2t m.types.length k2t, .slice o2i m.imports.length k2i, .slice o2f m.funcs.length k2f, .int .i64 m.table, .int .i64 m.pages, .int .i64 m.most, .slice o2g m.globals.length k2g, .slice o2x m.exports.length k2x, .int .i64 m.start, .slice o2e m.elems.length k2e, .slice o2d m.data.length k2d] 30))
  have Z := hid (Blk.new (w.alloc (.cells #[.slice o1t m.types.length k1t, .slice o1i m.imports.length k1i, .slice o1f m.funcs.length k1f, .int .i64 m.table, .int .i64 m.pages, .int .i64 m.most, .slice o1g m.globals.length k1g, .slice o1x m.exports.length k1x, .int .i64 m.start, .slice o1e m.elems.length k1e, .slice o1d m.data.length k1d] 30)) #[.slice o2t m.types.length k2t, .slice o2i m.imports.length k2i, .slice o2f m.funcs.length k2f, .int .i64 m.table, .int .i64 m.pages, .int .i64 m.most, .slice o2g m.globals.length k2g, .slice o2x m.exports.length k2x, .int .i64 m.start, .slice o2e m.elems.length k2e, .slice o2d m.data.length k2d] 30 (w.heap.size + 1) (by simp))
  clear h1 h2
  go_enter Tryz.func7, Tryz.ntmps7
  go_wp2_with fail
  refine (Et.out _ HB.out).mono ?_
  rintro r w1 ⟨rfl, hb1⟩
  have HB := hid (HB.out.trans (hb1.mono HB.out.size))
  have Y := hid (Y.out.below hb1)
  have Z := hid (Z.out.below hb1)
  clear hb1
  have y1 := Y.out.cell (i := 1) rfl
  have z1 := Z.out.cell (i := 1) rfl
  go_wp2_with fail
  clear y1 z1
  refine (Ei.out _ HB.out).mono ?_
  rintro r w1 ⟨rfl, hb1⟩
  have HB := hid (HB.out.trans (hb1.mono HB.out.size))
  have Y := hid (Y.out.below hb1)
  have Z := hid (Z.out.below hb1)
  clear hb1
  have y2 := Y.out.cell (i := 2) rfl
  have z2 := Z.out.cell (i := 2) rfl
  go_wp2_with fail
  clear y2 z2
  refine (Ef.out _ HB.out).mono ?_
  rintro r w1 ⟨rfl, hb1⟩
  have HB := hid (HB.out.trans (hb1.mono HB.out.size))
  have Y := hid (Y.out.below hb1)
  have Z := hid (Z.out.below hb1)
  clear hb1
  have y3 := Y.out.cell (i := 3) rfl
  have z3 := Z.out.cell (i := 3) rfl
  have y4 := Y.out.cell (i := 4) rfl
  have z4 := Z.out.cell (i := 4) rfl
  have y5 := Y.out.cell (i := 5) rfl
  have z5 := Z.out.cell (i := 5) rfl
  have y6 := Y.out.cell (i := 6) rfl
  have z6 := Z.out.cell (i := 6) rfl
  go_wp2_with fail
  clear y3 z3 y4 z4 y5 z5 y6 z6
  refine (Eg.out _ HB.out).mono ?_
  rintro r w1 ⟨rfl, hb1⟩
  have HB := hid (HB.out.trans (hb1.mono HB.out.size))
  have Y := hid (Y.out.below hb1)
  have Z := hid (Z.out.below hb1)
  clear hb1
  have y7 := Y.out.cell (i := 7) rfl
  have z7 := Z.out.cell (i := 7) rfl
  go_wp2_with fail
  clear y7 z7
  refine (Ex.out _ HB.out).mono ?_
  rintro r w1 ⟨rfl, hb1⟩
  have HB := hid (HB.out.trans (hb1.mono HB.out.size))
  have Y := hid (Y.out.below hb1)
  have Z := hid (Z.out.below hb1)
  clear hb1
  have y8 := Y.out.cell (i := 8) rfl
  have z8 := Z.out.cell (i := 8) rfl
  have y9 := Y.out.cell (i := 9) rfl
  have z9 := Z.out.cell (i := 9) rfl
  go_wp2_with fail
  clear y8 z8 y9 z9
  refine (Ee.out _ HB.out).mono ?_
  rintro r w1 ⟨rfl, hb1⟩
  have HB := hid (HB.out.trans (hb1.mono HB.out.size))
  have Y := hid (Y.out.below hb1)
  have Z := hid (Z.out.below hb1)
  clear hb1
  have y10 := Y.out.cell (i := 10) rfl
  have z10 := Z.out.cell (i := 10) rfl
  go_wp2_with fail
  clear y10 z10
  refine (Ed.out _ HB.out).mono ?_
  rintro r w1 ⟨rfl, hb1⟩
  have HB := hid (HB.out.trans (hb1.mono HB.out.size))
  have Y := hid (Y.out.below hb1)
  have Z := hid (Z.out.below hb1)
  clear hb1
  go_wp2_with fail
  go_ret
  exact ⟨rfl, HB.out⟩
end Go.Proofs.YtakfineljffoaaaGreatDoor
namespace Go.Proofs.YtakfineljffoaaaGreatDoor
open Go.RowKit Go.Lib

theorem laid_accept : (Rows.laid_unicode_utf8_acceptRanges : DataW Unit) = Lib.acceptData := by kernel_rfl
theorem utabs_of_laid {W : World} (hL : laidMet Tryz.prog Rows.binReadsRow.laid W) : UTabs W := by
  have h3 := Lib.laidMet.reads hL (n := "unicode/utf8.first") (d := Rows.laid_unicode_utf8_first) (by simp [Rows.binReadsRow])
  have h4 := Lib.laidMet.reads hL (n := "unicode/utf8.acceptRanges") (d := Rows.laid_unicode_utf8_acceptRanges) (by simp [Rows.binReadsRow])
  rw [show Rows.laid_unicode_utf8_first = Lib.firstData from Pinned.utf8First_eq] at h3
  rw [laid_accept] at h4
  exact utf8Tabs_of_readsT { Tryz.laysValid with } u8extra h3 h4
theorem MV.below {w w' : World} {H : Nat} {vt vi vf vg vx ve vd : Value} {m : Mdl} (h : MV w H vt vi vf vg vx ve vd m) (hb : Below w.heap.size w w') : MV w' H vt vi vf vg vx ve vd m := h.kt (KT.below (bad := 31) hb) noR_e
set_option maxRecDepth 100000 in
set_option maxHeartbeats 8000000 in
theorem law_BinReads (v0 : Value) (x0 : ByteArray) (W : World) (i0 : IsStr W v0 x0) (hT : UTabs W) (hM : MaxL W) :
    Calls Tryz.prog 3 #[v0] W fun e w' => e = .returned (.bool true) ∧ Below W.heap.size W w' := by
  obtain ⟨rfl, h1⟩ := i0
  have P1 := hid (bread_any W x0 h1 hT)
  have P2 := hid (fun w' (h : Below W.heap.size W w') => rbread_any w' x0 h1 (hM.below h))
  unfold PRd at P1 P2
  generalize readMd x0 = q at *
  obtain ⟨m, E⟩ := q
  simp only at P1 P2
  have he : (E == E) = true := by simp
  clear hT hM
  go_enter Tryz.func3, Tryz.ntmps3
  go_wp2_with fail
  refine P1.out.mono ?_
  rintro e w1 ⟨b1, H1, vt, vi, vf, vg, vx, ve, vd, -, rfl, g1⟩
  obtain ⟨c1t, -, z1t⟩ := id g1.t
  obtain ⟨o1t, k1t, rfl, -⟩ := own_sl z1t
  clear z1t
  obtain ⟨c1i, -, z1i⟩ := id g1.i
  obtain ⟨o1i, k1i, rfl, -⟩ := own_sl z1i
  clear z1i
  obtain ⟨c1f, -, z1f⟩ := id g1.f
  obtain ⟨o1f, k1f, rfl, -⟩ := own_sl z1f
  clear z1f
  obtain ⟨c1g, -, z1g⟩ := id g1.g
  obtain ⟨o1g, k1g, rfl, -⟩ := own_sl z1g
  clear z1g
  obtain ⟨c1x, -, z1x⟩ := id g1.x
  obtain ⟨o1x, k1x, rfl, -⟩ := own_sl z1x
  clear z1x
  obtain ⟨c1e, -, z1e⟩ := id g1.e
  obtain ⟨o1e, k1e, rfl, -⟩ := own_sl z1e
  clear z1e
  obtain ⟨c1d, -, z1d⟩ := id g1.d
  obtain ⟨o1d, k1d, rfl, -⟩ := own_sl z1d
  clear z1d
  unfold mdlV
  have M1 := hid g1
  have B1 := hid b1
  have BA := hid (show Below w1.heap.size w1 (w1.alloc (.cells #[.slice o1t m.types.length k1t, .slice o1i m.imports.length k1i, .slice o1f m.funcs.length k1f, .int .i64 m.table, .int .i64 m.pages, .int .i64 m.most, .slice o1g m.globals.length k1g, .slice o1x m.exports.length k1x, .int .i64 m.start, .slice o1e m.elems.length k1e, .slice o1d m.data.length k1d] 30)) from (Below.refl _ _).alloc (Nat.le_refl _) _)
  have X1 := hid (Blk.new w1 #[.slice o1t m.types.length k1t, .slice o1i m.imports.length k1i, .slice o1f m.funcs.length k1f, .int .i64 m.table, .int .i64 m.pages, .int .i64 m.most, .slice o1g m.globals.length k1g, .slice o1x m.exports.length k1x, .int .i64 m.start, .slice o1e m.elems.length k1e, .slice o1d m.data.length k1d] 30 _ rfl)
  clear g1 b1 P1
  go_wp2_with fail
  have hb2 := B1.out.trans (BA.out.mono B1.out.size)
  refine (P2.out _ hb2).mono ?_
  rintro e w2 ⟨b2, H2, ut, ui, uf, ug, ux, ue, ud, -, rfl, g2⟩
  have M2 := hid ((M1.out.below BA.out).below b2)
  have X2 := hid (X1.out.below b2)
  have B2 := hid (hb2.trans (b2.mono hb2.size))
  obtain ⟨c2t, -, z2t⟩ := id g2.t
  obtain ⟨o2t, k2t, rfl, -⟩ := own_sl z2t
  clear z2t
  obtain ⟨c2i, -, z2i⟩ := id g2.i
  obtain ⟨o2i, k2i, rfl, -⟩ := own_sl z2i
  clear z2i
  obtain ⟨c2f, -, z2f⟩ := id g2.f
  obtain ⟨o2f, k2f, rfl, -⟩ := own_sl z2f
  clear z2f
  obtain ⟨c2g, -, z2g⟩ := id g2.g
  obtain ⟨o2g, k2g, rfl, -⟩ := own_sl z2g
  clear z2g
  obtain ⟨c2x, -, z2x⟩ := id g2.x
  obtain ⟨o2x, k2x, rfl, -⟩ := own_sl z2x
  clear z2x
  obtain ⟨c2e, -, z2e⟩ := id g2.e
  obtain ⟨o2e, k2e, rfl, -⟩ := own_sl z2e
  clear z2e
  obtain ⟨c2d, -, z2d⟩ := id g2.d
  obtain ⟨o2d, k2d, rfl, -⟩ := own_sl z2d
  clear z2d
  unfold mdlV
  have N2 := hid g2
  clear g2 b2 hb2 P2 BA
  have BC := hid (show Below w2.heap.size w2 (w2.alloc (.cells #[.slice o2t m.types.length k2t, .slice o2i m.imports.length k2i, .slice o2f m.funcs.length k2f, .int .i64 m.table, .int .i64 m.pages, .int .i64 m.most, .slice o2g m.globals.length k2g, .slice o2x m.exports.length k2x, .int .i64 m.start, .slice o2e m.elems.length k2e, .slice o2d m.data.length k2d] 30)) from (Below.refl _ _).alloc (Nat.le_refl _) _)
  have X3 := hid (X2.out.below BC.out)
  have Y3 := hid (Blk.new w2 #[.slice o2t m.types.length k2t, .slice o2i m.imports.length k2i, .slice o2f m.funcs.length k2f, .int .i64 m.table, .int .i64 m.pages, .int .i64 m.most, .slice o2g m.globals.length k2g, .slice o2x m.exports.length k2x, .int .i64 m.start, .slice o2e m.elems.length k2e, .slice o2d m.data.length k2d] 30 _ rfl)
  have HS := hid (sameModule_any (w2.alloc (.cells #[.slice o2t m.types.length k2t, .slice o2i m.imports.length k2i, .slice o2f m.funcs.length k2f, .int .i64 m.table, .int .i64 m.pages, .int .i64 m.most, .slice o2g m.globals.length k2g, .slice o2x m.exports.length k2x, .int .i64 m.start, .slice o2e m.elems.length k2e, .slice o2d m.data.length k2d] 30)) H1 H2 _ _ _ _ _ _ _ _ _ _ _ _ _ _ m (M2.out.below BC.out) (N2.out.below BC.out))
  unfold mdlV at HS
  have y0 := X3.out.cell (i := 0) rfl
  have z0 := Y3.out.cell (i := 0) rfl
  have y1 := X3.out.cell (i := 1) rfl
  have z1 := Y3.out.cell (i := 1) rfl
  have y2 := X3.out.cell (i := 2) rfl
  have z2 := Y3.out.cell (i := 2) rfl
  have y3 := X3.out.cell (i := 3) rfl
  have z3 := Y3.out.cell (i := 3) rfl
  have y4 := X3.out.cell (i := 4) rfl
  have z4 := Y3.out.cell (i := 4) rfl
  have y5 := X3.out.cell (i := 5) rfl
  have z5 := Y3.out.cell (i := 5) rfl
  have y6 := X3.out.cell (i := 6) rfl
  have z6 := Y3.out.cell (i := 6) rfl
  have y7 := X3.out.cell (i := 7) rfl
  have z7 := Y3.out.cell (i := 7) rfl
  have y8 := X3.out.cell (i := 8) rfl
  have z8 := Y3.out.cell (i := 8) rfl
  have y9 := X3.out.cell (i := 9) rfl
  have z9 := Y3.out.cell (i := 9) rfl
  have y10 := X3.out.cell (i := 10) rfl
  have z10 := Y3.out.cell (i := 10) rfl
  have B3 := hid (B2.out.trans (BC.out.mono B2.out.size))
  go_wp2_with fail
  clear y0 z0 y1 z1 y2 z2 y3 z3 y4 z4 y5 z5 y6 z6 y7 z7 y8 z8 y9 z9 y10 z10
  refine HS.out.mono ?_
  rintro e w3 ⟨rfl, b3⟩
  have B4 := hid (B3.out.trans (b3.mono B3.out.size))
  clear b3
  go_wp2_with fail
  go_ret
  exact ⟨rfl, B4.out⟩
end Go.Proofs.YtakfineljffoaaaGreatDoor
