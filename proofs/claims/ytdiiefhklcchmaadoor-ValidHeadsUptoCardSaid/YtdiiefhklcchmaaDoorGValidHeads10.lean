/-
  THE LAW BinChecks: Check of modules is the reference's, for every module of bulk at most 1048576. Conditions: that bound; unicode/utf8's two tables hold what the row lists; the variable of the library that strings.Contains reads holds some number (the world's shape gives it).
-/
import Derived.Test.YtdiiefhklcchmaaDoorGValidHeads8
import Derived.Test.YtdiiefhklcchmaaDoorGValidHeads9
import Derived.Test.YtdiiefhklcchmaaDoorRows
import Derived.PinnedBridge
import Derived.Deep.RegionLaw
namespace Go.Proofs.YtdiiefhklcchmaaDoor
open Go.RowKit

theorem laid_accept : (Rows.laid_unicode_utf8_acceptRanges : DataW Unit) = Lib.acceptData := by kernel_rfl
theorem utabs_of_laid {W : World} (hL : laidMet Tryd.prog Rows.binChecksUptoRow.laid W) : UTabs W := by
  have h3 := Lib.laidMet.reads hL (n := "unicode/utf8.first") (d := Rows.laid_unicode_utf8_first) (by simp [Rows.binChecksUptoRow])
  have h4 := Lib.laidMet.reads hL (n := "unicode/utf8.acceptRanges") (d := Rows.laid_unicode_utf8_acceptRanges) (by simp [Rows.binChecksUptoRow])
  rw [show Rows.laid_unicode_utf8_first = Lib.firstData from Pinned.utf8First_eq] at h3
  rw [laid_accept] at h4
  exact utf8Tabs_of_readsT { Tryd.laysValid with } u8extra h3 h4
theorem sumC_bulk {α : Type} (c b : α → Nat) (h : ∀ x, c x ≤ 4 * b x) (l : List α) : sumC c l ≤ 4 * (l.map b).sum := by
  unfold sumC
  induction l with
  | nil => simp
  | cons x r ih =>
    have := h x
    simp only [List.map_cons, List.sum_cons]
    omega
theorem len_bulk {α : Type} (b : α → Nat) (h : ∀ x, 1 ≤ b x) (l : List α) : l.length ≤ (l.map b).sum := by
  induction l with
  | nil => simp
  | cons x r ih =>
    have := h x
    simp only [List.map_cons, List.sum_cons, List.length_cons]
    omega
theorem sliceR_bel {W w' : World} {s b : Nat} {α : Type} {R R' : List Value → α → Prop} {cs : List Value} {ys : List α} (h : sliceR W s b R cs ys) (hb : Below W.heap.size W w') (hR : ∀ c y, R c y → R' c y) : sliceR w' s b R' cs ys := by
  obtain ⟨v, css, h1, h2, h3, h4, h5⟩ := h
  exact ⟨v, css, h1, h2.below hb, h3, h4, fun i a b => ⟨(h5 i a b).1, hR _ _ (h5 i a b).2⟩⟩
theorem module_bel {W w' : World} {cs : List Value} {y : D_api_Module} (h : R_api_Module W cs y) (hb : Below W.heap.size W w') : R_api_Module w' cs y := by
  obtain ⟨_, _, e0, h1, _, _, e1, h2, _, _, e2, h3, _, _, e3, i3, _, _, e4, i4, _, _, e5, i5, _, _, e6, h4, _, _, e7, h5, _, _, e8, i8, _, _, e9, h6, _, _, e10, h7, e11⟩ := h
  refine ⟨_, _, e0, sliceR_bel h1 hb ?_, _, _, e1, sliceR_bel h2 hb (fun _ _ g => g), _, _, e2, sliceR_bel h3 hb ?_, _, _, e3, i3, _, _, e4, i4, _, _, e5, i5, _, _, e6, sliceR_bel h4 hb (fun _ _ g => g), _, _, e7, sliceR_bel h5 hb (fun _ _ g => g), _, _, e8, i8, _, _, e9, sliceR_bel h6 hb ?_, _, _, e10, sliceR_bel h7 hb (fun _ _ g => g), e11⟩
  · rintro c z ⟨_, _, e, r1, _, _, e2, r2, e3⟩
    exact ⟨_, _, e, sliceR_bel r1 hb (fun _ _ g => g), _, _, e2, sliceR_bel r2 hb (fun _ _ g => g), e3⟩
  · rintro c z ⟨_, _, e, r0, _, _, e1, r1, _, _, e2, r2, e3⟩
    refine ⟨_, _, e, r0, _, _, e1, sliceR_bel r1 hb (fun _ _ g => g), _, _, e2, sliceR_bel r2 hb ?_, e3⟩
    rintro c z ⟨_, _, f, q0, _, _, f1, q1, _, _, f2, q2, _, _, f3, q3, f4⟩
    exact ⟨_, _, f, q0, _, _, f1, q1, _, _, f2, q2, _, _, f3, sliceR_bel q3 hb (fun _ _ g => g), f4⟩
  · rintro c z ⟨_, _, e, r1, _, _, e2, r2, e3⟩
    exact ⟨_, _, e, r1, _, _, e2, sliceR_bel r2 hb (fun _ _ g => g), e3⟩
theorem ones_sum (l : List Int) : (l.map (fun _ => 1)).sum = l.length := by
  induction l with
  | nil => rfl
  | cons a r ih => rw [List.map_cons, List.sum_cons, ih, List.length_cons]; omega
theorem bSig (y : D_api_Sig) : cSig y ≤ 4 * b_api_Sig y := by
  unfold cSig b_api_Sig c_api_Sig b_s_api_Kind
  simp only [ones_sum]
  omega
theorem bFunc (y : D_api_Func) : cFunc y ≤ 4 * b_api_Func y := by
  unfold cFunc b_api_Func c_api_Func b_s_api_Kind b_s_api_Ins
  simp only [ones_sum]
  omega
theorem bElem (y : D_api_Elem) : cElem y ≤ 4 * b_api_Elem y := by
  unfold cElem b_api_Elem c_api_Elem b_s_int
  simp only [ones_sum]
  omega
set_option maxRecDepth 100000 in
set_option maxHeartbeats 8000000 in
theorem law_BinChecks (v0 : Value) (x0 : D_api_Module) (W : World) (i0 : IsAgg (R_api_Module W) v0 x0) (hB : b_api_Module x0 ≤ 1048576) (hT : UTabs W) (hM : MaxL W) :
    Calls Tryd.prog 3 #[v0] W fun e w' => e = .returned (.bool true) ∧ Below W.heap.size W w' := by
  obtain ⟨cs, rfl, hR⟩ := i0
  have g1 := sumC_bulk cSig b_api_Sig bSig x0.1
  have g2 := sumC_bulk cImport b_api_Import (fun y => by unfold cImport b_api_Import; omega) x0.2.1
  have g3 := sumC_bulk cFunc b_api_Func bFunc x0.2.2.1
  have g4 := sumC_bulk cGlobal b_api_Global (fun y => by unfold cGlobal b_api_Global; omega) x0.2.2.2.2.2.2.1
  have g5 := sumC_bulk cExport b_api_Export (fun y => by unfold cExport b_api_Export; omega) x0.2.2.2.2.2.2.2.1
  have g6 := sumC_bulk cElem b_api_Elem bElem x0.2.2.2.2.2.2.2.2.2.1
  have g7 := sumC_bulk cData b_api_Data (fun y => by unfold cData b_api_Data; omega) x0.2.2.2.2.2.2.2.2.2.2.1
  unfold b_api_Module c_api_Module b_s_api_Sig b_s_api_Import b_s_api_Func b_s_api_Global b_s_api_Export b_s_api_Elem b_s_api_Data at hB
  simp only at hB
  have HP := hid (fun wx (hb : Below W.heap.size W wx) => binCheck_any wx cs x0 (hT.below hb) (module_bel hR hb))
  have HQ := hid (fun wx (hb : Below W.heap.size W wx) => refCheck_any wx cs x0 (hM.below hb) (module_bel hR hb) (by omega) (by omega) (by omega) (by omega) (by omega) (by omega) (by omega))
  clear g1 g2 g3 g4 g5 g6 g7 hB hT hM
  generalize fModule x0 = E at *
  obtain ⟨_, _, rfl, h1, _, _, rfl, h2, _, _, rfl, h3, _, _, rfl, ⟨rfl, _⟩, _, _, rfl, ⟨rfl, _⟩, _, _, rfl, ⟨rfl, _⟩, _, _, rfl, h4, _, _, rfl, h5, _, _, rfl, ⟨rfl, _⟩, _, _, rfl, h6, _, _, rfl, h7, rfl⟩ := hR
  obtain ⟨u1, rfl⟩ := sl_one h1
  obtain ⟨u2, rfl⟩ := sl_one h2
  obtain ⟨u3, rfl⟩ := sl_one h3
  obtain ⟨u4, rfl⟩ := sl_one h4
  obtain ⟨u5, rfl⟩ := sl_one h5
  obtain ⟨u6, rfl⟩ := sl_one h6
  obtain ⟨u7, rfl⟩ := sl_one h7
  obtain ⟨a1, k1, rfl, _, _, _⟩ := sl_shape h1
  obtain ⟨a2, k2, rfl, _, _, _⟩ := sl_shape h2
  obtain ⟨a3, k3, rfl, _, _, _⟩ := sl_shape h3
  obtain ⟨a4, k4, rfl, _, _, _⟩ := sl_shape h4
  obtain ⟨a5, k5, rfl, _, _, _⟩ := sl_shape h5
  obtain ⟨a6, k6, rfl, _, _, _⟩ := sl_shape h6
  obtain ⟨a7, k7, rfl, _, _, _⟩ := sl_shape h7
  clear h1 h2 h3 h4 h5 h6 h7
  have hX := Blk.new W #[.slice a1 x0.1.length k1, .slice a2 x0.2.1.length k2, .slice a3 x0.2.2.1.length k3, .int .i64 x0.2.2.2.1, .int .i64 x0.2.2.2.2.1, .int .i64 x0.2.2.2.2.2.1, .slice a4 x0.2.2.2.2.2.2.1.length k4, .slice a5 x0.2.2.2.2.2.2.2.1.length k5, .int .i64 x0.2.2.2.2.2.2.2.2.1, .slice a6 x0.2.2.2.2.2.2.2.2.2.1.length k6, .slice a7 x0.2.2.2.2.2.2.2.2.2.2.1.length k7] 30 _ rfl
  have X0 := hid (hX.below (Below.refl _ _).drew)
  have b0 := (Below.refl W.heap.size W).alloc (Nat.le_refl _) (.cells #[.slice a1 x0.1.length k1, .slice a2 x0.2.1.length k2, .slice a3 x0.2.2.1.length k3, .int .i64 x0.2.2.2.1, .int .i64 x0.2.2.2.2.1, .int .i64 x0.2.2.2.2.2.1, .slice a4 x0.2.2.2.2.2.2.1.length k4, .slice a5 x0.2.2.2.2.2.2.2.1.length k5, .int .i64 x0.2.2.2.2.2.2.2.2.1, .slice a6 x0.2.2.2.2.2.2.2.2.2.1.length k6, .slice a7 x0.2.2.2.2.2.2.2.2.2.2.1.length k7] 30)
  have B0 := hid b0.drew
  clear hX b0
  go_enter Tryd.func3, Tryd.ntmps3
  go_wp2_with fail
  go_region_held3 (fun w' => w'.cell? ⟨W.heap.size, 0, none⟩ = some (.slice a1 x0.1.length k1) ∧ w'.cell? ⟨W.heap.size, 1, none⟩ = some (.slice a2 x0.2.1.length k2) ∧ w'.cell? ⟨W.heap.size, 2, none⟩ = some (.slice a3 x0.2.2.1.length k3) ∧ w'.cell? ⟨W.heap.size, 3, none⟩ = some (.int .i64 x0.2.2.2.1) ∧ w'.cell? ⟨W.heap.size, 4, none⟩ = some (.int .i64 x0.2.2.2.2.1) ∧ w'.cell? ⟨W.heap.size, 5, none⟩ = some (.int .i64 x0.2.2.2.2.2.1) ∧ w'.cell? ⟨W.heap.size, 6, none⟩ = some (.slice a4 x0.2.2.2.2.2.2.1.length k4) ∧ w'.cell? ⟨W.heap.size, 7, none⟩ = some (.slice a5 x0.2.2.2.2.2.2.2.1.length k5) ∧ w'.cell? ⟨W.heap.size, 8, none⟩ = some (.int .i64 x0.2.2.2.2.2.2.2.2.1) ∧ w'.cell? ⟨W.heap.size, 9, none⟩ = some (.slice a6 x0.2.2.2.2.2.2.2.2.2.1.length k6) ∧ w'.cell? ⟨W.heap.size, 10, none⟩ = some (.slice a7 x0.2.2.2.2.2.2.2.2.2.2.1.length k7)) (first | exact ⟨X0.out.cell (i := 0) rfl, X0.out.cell (i := 1) rfl, X0.out.cell (i := 2) rfl, X0.out.cell (i := 3) rfl, X0.out.cell (i := 4) rfl, X0.out.cell (i := 5) rfl, X0.out.cell (i := 6) rfl, X0.out.cell (i := 7) rfl, X0.out.cell (i := 8) rfl, X0.out.cell (i := 9) rfl, X0.out.cell (i := 10) rfl⟩ | exact ⟨X2.out.cell (i := 0) rfl, X2.out.cell (i := 1) rfl, X2.out.cell (i := 2) rfl, X2.out.cell (i := 3) rfl, X2.out.cell (i := 4) rfl, X2.out.cell (i := 5) rfl, X2.out.cell (i := 6) rfl, X2.out.cell (i := 7) rfl, X2.out.cell (i := 8) rfl, X2.out.cell (i := 9) rfl, X2.out.cell (i := 10) rfl⟩ | exact ⟨X1.out.cell (i := 0) rfl, X1.out.cell (i := 1) rfl, X1.out.cell (i := 2) rfl, X1.out.cell (i := 3) rfl, X1.out.cell (i := 4) rfl, X1.out.cell (i := 5) rfl, X1.out.cell (i := 6) rfl, X1.out.cell (i := 7) rfl, X1.out.cell (i := 8) rfl, X1.out.cell (i := 9) rfl, X1.out.cell (i := 10) rfl⟩)
    (first | (go_at_call 5; refine (HP.out _ B0.out).mono ?_; rintro r w1 ⟨rfl, hb1⟩; have B1 := hid (B0.out.trans (hb1.mono B0.out.size)); have X1 := hid (X0.out.below hb1); clear hb1) | (go_at_call 6; refine (HQ.out _ B1.out).mono ?_; rintro r w2 ⟨rfl, hb2⟩; have B2 := hid (B1.out.trans (hb2.mono B1.out.size)); have X2 := hid (X1.out.below hb2); clear hb2))
  all_goals
    go_wp2_with fail
    go_ret
    exact ⟨rfl, B2.out⟩
end Go.Proofs.YtdiiefhklcchmaaDoor
/-
  HEADS OF MODULES, plain: the first fault. No program, no condition.
-/
namespace Go.Proofs.YtdiiefhklcchmaaDoor
open Go.RowKit Go.Lib

/-- the first fault of k places -/
def foldI (F : Nat → Int) : Nat → Int
  | 0 => 0
  | k + 1 => orE (foldI F k) (F k)
theorem foldI_stop (F : Nat → Int) : ∀ (n k : Nat), k ≤ n → foldI F k ≠ 0 → foldI F n = foldI F k := by
  intro n
  induction n with
  | zero => intro k h _; obtain rfl : k = 0 := by omega
            rfl
  | succ n ih =>
    intro k h h0
    by_cases e : k = n + 1
    · rw [e]
    · have := ih k (by omega) h0
      rw [foldI, this, orE_stop h0]
theorem fold_any {α : Type} (p : α → Bool) (e : Int) (he : e ≠ 0) (l : List α) : foldE (fun z => bdE (p z) e) l = bdE (l.any p) e := by
  induction l with
  | nil => rfl
  | cons x r ih =>
    rw [foldE, ih, List.any_cons]
    cases p x with
    | false => rfl
    | true => exact orE_stop he _
def vIdx (n : Int) (t : Int) : Int := bdE (decide (n ≤ t)) 8
def vTyp (y : D_api_Module) : Int := orE (foldE (fun x : D_api_Import => vIdx y.1.length x.2.1) y.2.1) (foldE (fun x : D_api_Func => vIdx y.1.length x.1) y.2.2.1)
def vMany (y : D_api_Module) : Int := (y.2.1.length : Int) + y.2.2.1.length
def vEx1 (many : Int) (prev : List D_api_Export) (x : D_api_Export) : Int := orE (vIdx many x.2.1) (bdE (prev.any fun z => x.1 == z.1) 12)
def vExp (y : D_api_Module) : Int := foldI (fun k => if h : k < y.2.2.2.2.2.2.2.1.length then vEx1 (vMany y) (y.2.2.2.2.2.2.2.1.take k) (y.2.2.2.2.2.2.2.1[k]) else 0) y.2.2.2.2.2.2.2.1.length
/-- the types' numbers, of what comes from outside first -/
def vTys (y : D_api_Module) : List Int := (y.2.1.map fun x => x.2.1) ++ (y.2.2.1.map fun x => x.1)
theorem vTys_len (y : D_api_Module) : ((vTys y).length : Int) = vMany y := by unfold vTys vMany; simp
def vIs (y : D_api_Module) (n : Int) : Bool := decide (0 ≤ n ∧ n < vMany y)
/-- how many values a function takes and gives -/
def vSig (y : D_api_Module) (n : Int) : D_api_Sig := if vIs y n = true then y.1.getD ((vTys y).getD n.toNat 0).toNat ([], [], ()) else ([], [], ())
def vStart (y : D_api_Module) : Int :=
  if 0 < y.2.2.2.2.2.2.2.2.1 then orE (bdE (!vIs y (y.2.2.2.2.2.2.2.2.1 - 1)) 8) (bdE (decide (0 < ((vSig y (y.2.2.2.2.2.2.2.2.1 - 1)).1.length : Int) + (vSig y (y.2.2.2.2.2.2.2.2.1 - 1)).2.1.length)) 10) else 0
def vElem (y : D_api_Module) (x : D_api_Elem) : Int := orE (bdE (decide (y.2.2.2.1 = 0)) 8) (foldE (vIdx (vMany y)) x.2.1)
def vData (y : D_api_Module) : Int := bdE (decide (0 < (y.2.2.2.2.2.2.2.2.2.2.1.length : Int) ∧ y.2.2.2.2.2.1 = 0)) 8
def vParts (y : D_api_Module) : Int := orE (foldE (vElem y) y.2.2.2.2.2.2.2.2.2.1) (vData y)
def vHead (y : D_api_Module) : Int := orE (fModule y) (orE (vTyp y) (orE (vExp y) (orE (vStart y) (vParts y))))

theorem orE_z {a b : Int} (h : orE a b = 0) : a = 0 ∧ b = 0 := by
  unfold orE at h
  split at h
  · exact ⟨by assumption, h⟩
  · rename_i g; exact absurd h g
theorem foldE_z {α : Type} {F : α → Int} {l : List α} (h : foldE F l = 0) : ∀ x ∈ l, F x = 0 := by
  induction l with
  | nil => intro x hx; cases hx
  | cons a r ih =>
    rw [foldE] at h
    obtain ⟨h1, h2⟩ := orE_z h
    intro x hx
    rcases List.mem_cons.1 hx with rfl | hx
    · exact h1
    · exact ih h2 x hx
theorem eachE_z {α : Type} {F : α → Int} {l : List α} {most : Int} (h : eachE F l most = 0) : (l.length : Int) ≤ most ∧ ∀ x ∈ l, F x = 0 := by
  obtain ⟨h1, h2⟩ := orE_z h
  refine ⟨?_, foldE_z h2⟩
  unfold ndE at h1
  split at h1
  · exact of_decide_eq_true (by assumption)
  · simp at h1
theorem fIdx_z {n : Int} (h : fIdx n = 0) : 0 ≤ n ∧ n ≤ 4294967295 := by
  unfold fIdx ndE at h
  split at h
  · exact of_decide_eq_true (by assumption)
  · simp at h
/-- what holds of a module that passes the first check -/
structure GoodM (y : D_api_Module) : Prop where
  imp : y.2.1.length ≤ 16 ∧ ∀ x ∈ y.2.1, 0 ≤ x.2.1 ∧ x.2.1 ≤ 4294967295
  fun_ : y.2.2.1.length ≤ 16 ∧ ∀ x ∈ y.2.2.1, 0 ≤ x.1 ∧ x.1 ≤ 4294967295
  typ : y.1.length ≤ 16
  exp : y.2.2.2.2.2.2.2.1.length ≤ 8 ∧ ∀ x ∈ y.2.2.2.2.2.2.2.1, 0 ≤ x.2.1 ∧ x.2.1 ≤ 4294967295
  start : 0 ≤ y.2.2.2.2.2.2.2.2.1 ∧ y.2.2.2.2.2.2.2.2.1 ≤ 4294967295
  elem : y.2.2.2.2.2.2.2.2.2.1.length ≤ 4 ∧ ∀ x ∈ y.2.2.2.2.2.2.2.2.2.1, x.2.1.length ≤ 16 ∧ ∀ n ∈ x.2.1, 0 ≤ n ∧ n ≤ 4294967295
  sigs : ∀ x ∈ y.1, x.1.length ≤ 4 ∧ x.2.1.length ≤ 1
theorem good_of {y : D_api_Module} (h : fModule y = 0) : GoodM y := by
  unfold fModule at h
  obtain ⟨h, _⟩ := orE_z h
  obtain ⟨h, hd⟩ := orE_z h
  obtain ⟨h, hel⟩ := orE_z h
  obtain ⟨h, hst⟩ := orE_z h
  obtain ⟨h, hex⟩ := orE_z h
  obtain ⟨h, _⟩ := orE_z h
  obtain ⟨h, _⟩ := orE_z h
  obtain ⟨h, _⟩ := orE_z h
  obtain ⟨h, _⟩ := orE_z h
  obtain ⟨h, _⟩ := orE_z h
  obtain ⟨h, hfu⟩ := orE_z h
  obtain ⟨hty, him⟩ := orE_z h
  obtain ⟨i1, i2⟩ := eachE_z him
  obtain ⟨f1, f2⟩ := eachE_z hfu
  obtain ⟨t1, t2⟩ := eachE_z hty
  obtain ⟨e1, e2⟩ := eachE_z hex
  obtain ⟨l1, l2⟩ := eachE_z hel
  refine ⟨⟨by omega, fun x hx => fIdx_z (orE_z (i2 x hx)).2⟩, ⟨by omega, fun x hx => fIdx_z (orE_z (f2 x hx)).1⟩, by omega, ⟨by omega, fun x hx => fIdx_z (orE_z (e2 x hx)).2⟩, fIdx_z hst, ⟨by omega, fun x hx => ?_⟩, fun x hx => ?_⟩
  · obtain ⟨a, b⟩ := eachE_z (orE_z (l2 x hx)).2
    exact ⟨by omega, fun n hn => fIdx_z (b n hn)⟩
  · obtain ⟨a, b⟩ := orE_z (t2 x hx)
    exact ⟨by have := (eachE_z a).1; omega, by have := (eachE_z b).1; omega⟩
theorem vIdx_z {n t : Int} (h : vIdx n t = 0) : t < n := by
  unfold vIdx bdE at h
  split at h
  · simp at h
  · rename_i g
    have := of_decide_eq_false (Bool.eq_false_iff.2 g)
    omega
/-- where the types' numbers are good -/
theorem vTys_good {y : D_api_Module} (hg : GoodM y) (h : vTyp y = 0) : ∀ t ∈ vTys y, 0 ≤ t ∧ t < y.1.length := by
  obtain ⟨h1, h2⟩ := orE_z h
  intro t ht
  unfold vTys at ht
  rcases List.mem_append.1 ht with e | e
  · obtain ⟨x, hx, rfl⟩ := List.mem_map.1 e
    exact ⟨(hg.imp.2 x hx).1, vIdx_z (foldE_z h1 x hx)⟩
  · obtain ⟨x, hx, rfl⟩ := List.mem_map.1 e
    exact ⟨(hg.fun_.2 x hx).1, vIdx_z (foldE_z h2 x hx)⟩
end Go.Proofs.YtdiiefhklcchmaaDoor
/-
  HEADS OF MODULES, the program's: typeOf. Conditions: the module has passed the first check; its types' numbers are good.
-/
namespace Go.Proofs.YtdiiefhklcchmaaDoor
open Go.RowKit Go.Lib

theorem vIs_imp {y : D_api_Module} {n : Nat} (h : n < y.2.1.length) : vIs y n = true ∧ (vTys y).getD n 0 = (y.2.1[n]).2.1 := by
  refine ⟨decide_eq_true ⟨by omega, by unfold vMany; omega⟩, ?_⟩
  unfold vTys
  rw [List.getD_eq_getElem?_getD, List.getElem?_append_left (by simpa using h)]
  simp [h]
theorem vIs_fun {y : D_api_Module} {n : Nat} (h : n < y.2.2.1.length) : vIs y ((y.2.1.length : Int) + n) = true ∧ (vTys y).getD (y.2.1.length + n) 0 = (y.2.2.1[n]).1 := by
  refine ⟨decide_eq_true ⟨by omega, by unfold vMany; omega⟩, ?_⟩
  unfold vTys
  rw [List.getD_eq_getElem?_getD, List.getElem?_append_right (by simp)]
  simp [h]
theorem vSig_at {y : D_api_Module} {n : Nat} {t : Nat} (hi : vIs y n = true) (ht : (vTys y).getD n 0 = (t : Int)) (hlt : t < y.1.length) : vSig y n = y.1[t] := by
  unfold vSig
  rw [if_pos hi, Int.toNat_natCast, ht, Int.toNat_natCast, List.getD_eq_getElem?_getD, List.getElem?_eq_getElem hlt]
  rfl
theorem vSig_no {y : D_api_Module} {n : Int} (hi : vIs y n = false) : vSig y n = ([], [], ()) := by
  unfold vSig
  rw [if_neg (by rw [hi]; decide)]
theorem sig_shape {W : World} {cs : List Value} {z : D_api_Sig} (h : R_api_Sig W cs z) : ∃ a1 k1 a2 k2, cs = [.slice a1 z.1.length k1, .slice a2 z.2.1.length k2] := by
  obtain ⟨_, _, rfl, h1, _, _, rfl, h2, rfl⟩ := h
  obtain ⟨u1, rfl⟩ := sl_one h1
  obtain ⟨u2, rfl⟩ := sl_one h2
  obtain ⟨a1, k1, rfl, _, _, _⟩ := sl_shape h1
  obtain ⟨a2, k2, rfl, _, _, _⟩ := sl_shape h2
  exact ⟨a1, k1, a2, k2, rfl⟩
def TPost (w : World) (z : D_api_Sig) (is : Bool) (e : Ending) (w' : World) : Prop := (∃ a1 k1 a2 k2, e = .returned (.tuple #[.agg #[.slice a1 z.1.length k1, .slice a2 z.2.1.length k2], .bool is])) ∧ Below w.heap.size w w'
set_option maxRecDepth 100000 in
set_option maxHeartbeats 8000000 in
theorem ptyp_imp (w : World) (cs : List Value) (y : D_api_Module) (n : Nat) (hn : n < y.2.1.length) (hg : GoodM y) (ht : ∀ t ∈ vTys y, 0 ≤ t ∧ t < y.1.length) (hR : R_api_Module w cs y) :
    Calls Tryd.prog 36 #[.agg cs.toArray, .int .i64 (n : Int)] w (TPost w (vSig y (n : Int)) (vIs y (n : Int))) := by
  obtain ⟨hi, hty⟩ := vIs_imp hn
  have hmem : (y.2.1[n]).2.1 ∈ vTys y := List.mem_append_left _ (List.mem_map.2 ⟨_, List.getElem_mem hn, rfl⟩)
  obtain ⟨g0, g1⟩ := ht _ hmem
  obtain ⟨t, htt⟩ := Int.eq_ofNat_of_zero_le g0
  rw [htt] at hty g1
  have hlt : t < y.1.length := by omega
  have HSG := hid (show vSig y (n : Int) = y.1[t] from by
    exact vSig_at hi hty hlt)
  rw [HSG.out, hi]
  have HI16 := hid hg.imp.1
  have HF16 := hid hg.fun_.1
  obtain ⟨_, _, rfl, h1, _, _, rfl, h2, _, _, rfl, h3, _, _, rfl, ⟨rfl, _⟩, _, _, rfl, ⟨rfl, _⟩, _, _, rfl, ⟨rfl, _⟩, _, _, rfl, h4, _, _, rfl, h5, _, _, rfl, ⟨rfl, _⟩, _, _, rfl, h6, _, _, rfl, h7, rfl⟩ := hR
  obtain ⟨u1, rfl⟩ := sl_one h1
  have K1 := hid h1
  obtain ⟨u2, rfl⟩ := sl_one h2
  have K2 := hid h2
  obtain ⟨u3, rfl⟩ := sl_one h3
  have K3 := hid h3
  obtain ⟨u4, rfl⟩ := sl_one h4
  have K4 := hid h4
  obtain ⟨u5, rfl⟩ := sl_one h5
  have K5 := hid h5
  obtain ⟨u6, rfl⟩ := sl_one h6
  have K6 := hid h6
  obtain ⟨u7, rfl⟩ := sl_one h7
  have K7 := hid h7
  obtain ⟨a1, k1, rfl, kb1, kc1, _⟩ := sl_shape h1
  obtain ⟨a2, k2, rfl, kb2, kc2, _⟩ := sl_shape h2
  obtain ⟨a3, k3, rfl, kb3, kc3, _⟩ := sl_shape h3
  obtain ⟨a4, k4, rfl, kb4, kc4, _⟩ := sl_shape h4
  obtain ⟨a5, k5, rfl, kb5, kc5, _⟩ := sl_shape h5
  obtain ⟨a6, k6, rfl, kb6, kc6, _⟩ := sl_shape h6
  obtain ⟨a7, k7, rfl, kb7, kc7, _⟩ := sl_shape h7
  clear h1 h2 h3 h4 h5 h6 h7
  obtain ⟨ib, io, ic, ics, hv2, _, _, _, hR2, hcc2⟩ := sliceR_at K2.out (by decide) n hn
  obtain ⟨tb, tO, tc, tcs, hv1, _, _, _, hR1, hcc1⟩ := sliceR_at K1.out (by decide) t hlt
  simp only [Value.slice.injEq] at hv1 hv2
  obtain ⟨rfl, -, rfl⟩ := hv2
  obtain ⟨rfl, -, rfl⟩ := hv1
  obtain ⟨_, _, rfl, ⟨rfl, _⟩, _, _, rfl, ⟨rfl, _⟩, rfl⟩ := hR2
  obtain ⟨p1, q1, p2, q2, rfl⟩ := sig_shape hR1
  have HB2 := hid (show Below w.heap.size w ((w.alloc (.cells #[.slice (some ⟨tb, tO, none⟩) y.1.length k1, .slice (some ⟨ib, io, none⟩) y.2.1.length k2, .slice a3 y.2.2.1.length k3, .int .i64 y.2.2.2.1, .int .i64 y.2.2.2.2.1, .int .i64 y.2.2.2.2.2.1, .slice a4 y.2.2.2.2.2.2.1.length k4, .slice a5 y.2.2.2.2.2.2.2.1.length k5, .int .i64 y.2.2.2.2.2.2.2.2.1, .slice a6 y.2.2.2.2.2.2.2.2.2.1.length k6, .slice a7 y.2.2.2.2.2.2.2.2.2.2.1.length k7] 30)).alloc (.cells #[.slice none 0 0, .slice none 0 0] 40)) from ((Below.refl _ _).alloc (Nat.le_refl _) _).alloc (by simp) _)
  have HBd := hid HB2.out.drew
  have i1 : ((w.alloc (.cells #[.slice (some ⟨tb, tO, none⟩) y.1.length k1, .slice (some ⟨ib, io, none⟩) y.2.1.length k2, .slice a3 y.2.2.1.length k3, .int .i64 y.2.2.2.1, .int .i64 y.2.2.2.2.1, .int .i64 y.2.2.2.2.2.1, .slice a4 y.2.2.2.2.2.2.1.length k4, .slice a5 y.2.2.2.2.2.2.2.1.length k5, .int .i64 y.2.2.2.2.2.2.2.2.1, .slice a6 y.2.2.2.2.2.2.2.2.2.1.length k6, .slice a7 y.2.2.2.2.2.2.2.2.2.2.1.length k7] 30)).alloc (.cells #[.slice none 0 0, .slice none 0 0] 40)).drew.cell? ⟨ib, io + n * 2 + 1, none⟩ = some (.int .i64 t) := (hcc2 _ HBd.out 1 (by decide)).trans (by rw [← htt]; rfl)
  have t0 : ((w.alloc (.cells #[.slice (some ⟨tb, tO, none⟩) y.1.length k1, .slice (some ⟨ib, io, none⟩) y.2.1.length k2, .slice a3 y.2.2.1.length k3, .int .i64 y.2.2.2.1, .int .i64 y.2.2.2.2.1, .int .i64 y.2.2.2.2.2.1, .slice a4 y.2.2.2.2.2.2.1.length k4, .slice a5 y.2.2.2.2.2.2.2.1.length k5, .int .i64 y.2.2.2.2.2.2.2.2.1, .slice a6 y.2.2.2.2.2.2.2.2.2.1.length k6, .slice a7 y.2.2.2.2.2.2.2.2.2.2.1.length k7] 30)).alloc (.cells #[.slice none 0 0, .slice none 0 0] 40)).drew.cell? ⟨tb, tO + t * 2, none⟩ = some (.slice p1 (y.1[t]).1.length q1) := hcc1 _ HBd.out 0 (by decide)
  have t1 : ((w.alloc (.cells #[.slice (some ⟨tb, tO, none⟩) y.1.length k1, .slice (some ⟨ib, io, none⟩) y.2.1.length k2, .slice a3 y.2.2.1.length k3, .int .i64 y.2.2.2.1, .int .i64 y.2.2.2.2.1, .int .i64 y.2.2.2.2.2.1, .slice a4 y.2.2.2.2.2.2.1.length k4, .slice a5 y.2.2.2.2.2.2.2.1.length k5, .int .i64 y.2.2.2.2.2.2.2.2.1, .slice a6 y.2.2.2.2.2.2.2.2.2.1.length k6, .slice a7 y.2.2.2.2.2.2.2.2.2.2.1.length k7] 30)).alloc (.cells #[.slice none 0 0, .slice none 0 0] 40)).drew.cell? ⟨tb, tO + t * 2 + 1, none⟩ = some (.slice p2 (y.1[t]).2.1.length q2) := hcc1 _ HBd.out 1 (by decide)
  have HX := Blk.new w #[.slice (some ⟨tb, tO, none⟩) y.1.length k1, .slice (some ⟨ib, io, none⟩) y.2.1.length k2, .slice a3 y.2.2.1.length k3, .int .i64 y.2.2.2.1, .int .i64 y.2.2.2.2.1, .int .i64 y.2.2.2.2.2.1, .slice a4 y.2.2.2.2.2.2.1.length k4, .slice a5 y.2.2.2.2.2.2.2.1.length k5, .int .i64 y.2.2.2.2.2.2.2.2.1, .slice a6 y.2.2.2.2.2.2.2.2.2.1.length k6, .slice a7 y.2.2.2.2.2.2.2.2.2.2.1.length k7] 30 _ rfl
  have HX1 := hid (HX.below ((Below.refl _ _).alloc (Nat.le_refl _) (.cells #[.slice none 0 0, .slice none 0 0] 40)))
  have HX2 := hid (HX1.out.below (Below.refl _ _).drew)
  have m0 := HX2.out.cell (i := 0) rfl
  have e0 := HX1.out.cell (i := 0) rfl
  have m1 := HX2.out.cell (i := 1) rfl
  have e1 := HX1.out.cell (i := 1) rfl
  have HRB := Blk.new (w.alloc (.cells #[.slice (some ⟨tb, tO, none⟩) y.1.length k1, .slice (some ⟨ib, io, none⟩) y.2.1.length k2, .slice a3 y.2.2.1.length k3, .int .i64 y.2.2.2.1, .int .i64 y.2.2.2.2.1, .int .i64 y.2.2.2.2.2.1, .slice a4 y.2.2.2.2.2.2.1.length k4, .slice a5 y.2.2.2.2.2.2.2.1.length k5, .int .i64 y.2.2.2.2.2.2.2.2.1, .slice a6 y.2.2.2.2.2.2.2.2.2.1.length k6, .slice a7 y.2.2.2.2.2.2.2.2.2.2.1.length k7] 30)) #[.slice none 0 0, .slice none 0 0] 40 (w.heap.size + 1) (by simp)
  have HRB2 := hid (HRB.below (Below.refl _ _).drew)
  have r0 := HRB2.out.cell (i := 0) rfl
  have r1 := HRB2.out.cell (i := 1) rfl
  have rf := HRB2.out.free
  have hn0 : (n : Int) - (y.2.1.length : Int) < 0 := by omega
  have hn1 : (n : Int) < (y.2.1.length : Int) := by omega
  have hl16 : (y.2.1.length : Int) ≤ 16 := by have := HI16.out; omega
  have htl : (t : Int) < (y.1.length : Int) := by omega
  clear hcc1 hcc2 HX HRB hR1 ht hmem g0 g1 htt hi hty HSG
  obtain ⟨l1, hl1⟩ : ∃ l1, (y.1[t]).1.length = l1 := ⟨_, rfl⟩
  obtain ⟨l2, hl2⟩ : ∃ l2, (y.1[t]).2.1.length = l2 := ⟨_, rfl⟩
  rw [hl1] at t0
  rw [hl2] at t1
  have HL1 := hid hl1
  have HL2 := hid hl2
  clear hl1 hl2
  go_enter Tryd.func36, Tryd.ntmps36
  go_wp2_with fail
  go_region_law (fail)
  all_goals
    go_wp2_with fail
    refine bodyPost_ret (v := .tuple #[.agg #[.slice p1 l1 q1, .slice p2 l2 q2], .bool true]) (by simp [results, Tryd.results36, go_sem]) rfl ?_
    refine ⟨⟨_, _, _, _, by rw [HL1.out, HL2.out]⟩, ?_⟩
    exact ((((Below.refl _ _).alloc (Nat.le_refl _) _).alloc (by simp) _).drew)
set_option maxRecDepth 100000 in
set_option maxHeartbeats 8000000 in
theorem ptyp_fun (w : World) (cs : List Value) (y : D_api_Module) (n : Nat) (hn : n < y.2.2.1.length) (hg : GoodM y) (ht : ∀ t ∈ vTys y, 0 ≤ t ∧ t < y.1.length) (hR : R_api_Module w cs y) :
    Calls Tryd.prog 36 #[.agg cs.toArray, .int .i64 ((y.2.1.length : Int) + n)] w (TPost w (vSig y ((y.2.1.length : Int) + n)) (vIs y ((y.2.1.length : Int) + n))) := by
  obtain ⟨hi, hty⟩ := vIs_fun hn
  have hmem : (y.2.2.1[n]).1 ∈ vTys y := List.mem_append_right _ (List.mem_map.2 ⟨_, List.getElem_mem hn, rfl⟩)
  obtain ⟨g0, g1⟩ := ht _ hmem
  obtain ⟨t, htt⟩ := Int.eq_ofNat_of_zero_le g0
  rw [htt] at hty g1
  have hlt : t < y.1.length := by omega
  have HSG := hid (show vSig y ((y.2.1.length : Int) + n) = y.1[t] from by
    have := vSig_at (y := y) (n := y.2.1.length + n) (t := t) (by rw [show ((y.2.1.length + n : Nat) : Int) = (y.2.1.length : Int) + n by omega]; exact hi) hty hlt; rw [show ((y.2.1.length + n : Nat) : Int) = (y.2.1.length : Int) + n by omega] at this; exact this)
  rw [HSG.out, hi]
  have HI16 := hid hg.imp.1
  have HF16 := hid hg.fun_.1
  obtain ⟨_, _, rfl, h1, _, _, rfl, h2, _, _, rfl, h3, _, _, rfl, ⟨rfl, _⟩, _, _, rfl, ⟨rfl, _⟩, _, _, rfl, ⟨rfl, _⟩, _, _, rfl, h4, _, _, rfl, h5, _, _, rfl, ⟨rfl, _⟩, _, _, rfl, h6, _, _, rfl, h7, rfl⟩ := hR
  obtain ⟨u1, rfl⟩ := sl_one h1
  have K1 := hid h1
  obtain ⟨u2, rfl⟩ := sl_one h2
  have K2 := hid h2
  obtain ⟨u3, rfl⟩ := sl_one h3
  have K3 := hid h3
  obtain ⟨u4, rfl⟩ := sl_one h4
  have K4 := hid h4
  obtain ⟨u5, rfl⟩ := sl_one h5
  have K5 := hid h5
  obtain ⟨u6, rfl⟩ := sl_one h6
  have K6 := hid h6
  obtain ⟨u7, rfl⟩ := sl_one h7
  have K7 := hid h7
  obtain ⟨a1, k1, rfl, kb1, kc1, _⟩ := sl_shape h1
  obtain ⟨a2, k2, rfl, kb2, kc2, _⟩ := sl_shape h2
  obtain ⟨a3, k3, rfl, kb3, kc3, _⟩ := sl_shape h3
  obtain ⟨a4, k4, rfl, kb4, kc4, _⟩ := sl_shape h4
  obtain ⟨a5, k5, rfl, kb5, kc5, _⟩ := sl_shape h5
  obtain ⟨a6, k6, rfl, kb6, kc6, _⟩ := sl_shape h6
  obtain ⟨a7, k7, rfl, kb7, kc7, _⟩ := sl_shape h7
  clear h1 h2 h3 h4 h5 h6 h7
  obtain ⟨ib, io, ic, ics, hv2, _, _, _, hR2, hcc2⟩ := sliceR_at K3.out (by decide) n hn
  obtain ⟨tb, tO, tc, tcs, hv1, _, _, _, hR1, hcc1⟩ := sliceR_at K1.out (by decide) t hlt
  simp only [Value.slice.injEq] at hv1 hv2
  obtain ⟨rfl, -, rfl⟩ := hv2
  obtain ⟨rfl, -, rfl⟩ := hv1
  obtain ⟨_, _, rfl, ⟨rfl, _⟩, _, _, rfl, _, _, _, rfl, _, rfl⟩ := hR2
  obtain ⟨p1, q1, p2, q2, rfl⟩ := sig_shape hR1
  have HB2 := hid (show Below w.heap.size w ((w.alloc (.cells #[.slice (some ⟨tb, tO, none⟩) y.1.length k1, .slice a2 y.2.1.length k2, .slice (some ⟨ib, io, none⟩) y.2.2.1.length k3, .int .i64 y.2.2.2.1, .int .i64 y.2.2.2.2.1, .int .i64 y.2.2.2.2.2.1, .slice a4 y.2.2.2.2.2.2.1.length k4, .slice a5 y.2.2.2.2.2.2.2.1.length k5, .int .i64 y.2.2.2.2.2.2.2.2.1, .slice a6 y.2.2.2.2.2.2.2.2.2.1.length k6, .slice a7 y.2.2.2.2.2.2.2.2.2.2.1.length k7] 30)).alloc (.cells #[.slice none 0 0, .slice none 0 0] 40)) from ((Below.refl _ _).alloc (Nat.le_refl _) _).alloc (by simp) _)
  have HBd := hid HB2.out.drew
  have i1 : ((w.alloc (.cells #[.slice (some ⟨tb, tO, none⟩) y.1.length k1, .slice a2 y.2.1.length k2, .slice (some ⟨ib, io, none⟩) y.2.2.1.length k3, .int .i64 y.2.2.2.1, .int .i64 y.2.2.2.2.1, .int .i64 y.2.2.2.2.2.1, .slice a4 y.2.2.2.2.2.2.1.length k4, .slice a5 y.2.2.2.2.2.2.2.1.length k5, .int .i64 y.2.2.2.2.2.2.2.2.1, .slice a6 y.2.2.2.2.2.2.2.2.2.1.length k6, .slice a7 y.2.2.2.2.2.2.2.2.2.2.1.length k7] 30)).alloc (.cells #[.slice none 0 0, .slice none 0 0] 40)).drew.cell? ⟨ib, io + n * 3, none⟩ = some (.int .i64 t) := (hcc2 _ HBd.out 0 (by decide)).trans (by rw [← htt]; rfl)
  have t0 : ((w.alloc (.cells #[.slice (some ⟨tb, tO, none⟩) y.1.length k1, .slice a2 y.2.1.length k2, .slice (some ⟨ib, io, none⟩) y.2.2.1.length k3, .int .i64 y.2.2.2.1, .int .i64 y.2.2.2.2.1, .int .i64 y.2.2.2.2.2.1, .slice a4 y.2.2.2.2.2.2.1.length k4, .slice a5 y.2.2.2.2.2.2.2.1.length k5, .int .i64 y.2.2.2.2.2.2.2.2.1, .slice a6 y.2.2.2.2.2.2.2.2.2.1.length k6, .slice a7 y.2.2.2.2.2.2.2.2.2.2.1.length k7] 30)).alloc (.cells #[.slice none 0 0, .slice none 0 0] 40)).drew.cell? ⟨tb, tO + t * 2, none⟩ = some (.slice p1 (y.1[t]).1.length q1) := hcc1 _ HBd.out 0 (by decide)
  have t1 : ((w.alloc (.cells #[.slice (some ⟨tb, tO, none⟩) y.1.length k1, .slice a2 y.2.1.length k2, .slice (some ⟨ib, io, none⟩) y.2.2.1.length k3, .int .i64 y.2.2.2.1, .int .i64 y.2.2.2.2.1, .int .i64 y.2.2.2.2.2.1, .slice a4 y.2.2.2.2.2.2.1.length k4, .slice a5 y.2.2.2.2.2.2.2.1.length k5, .int .i64 y.2.2.2.2.2.2.2.2.1, .slice a6 y.2.2.2.2.2.2.2.2.2.1.length k6, .slice a7 y.2.2.2.2.2.2.2.2.2.2.1.length k7] 30)).alloc (.cells #[.slice none 0 0, .slice none 0 0] 40)).drew.cell? ⟨tb, tO + t * 2 + 1, none⟩ = some (.slice p2 (y.1[t]).2.1.length q2) := hcc1 _ HBd.out 1 (by decide)
  have HX := Blk.new w #[.slice (some ⟨tb, tO, none⟩) y.1.length k1, .slice a2 y.2.1.length k2, .slice (some ⟨ib, io, none⟩) y.2.2.1.length k3, .int .i64 y.2.2.2.1, .int .i64 y.2.2.2.2.1, .int .i64 y.2.2.2.2.2.1, .slice a4 y.2.2.2.2.2.2.1.length k4, .slice a5 y.2.2.2.2.2.2.2.1.length k5, .int .i64 y.2.2.2.2.2.2.2.2.1, .slice a6 y.2.2.2.2.2.2.2.2.2.1.length k6, .slice a7 y.2.2.2.2.2.2.2.2.2.2.1.length k7] 30 _ rfl
  have HX1 := hid (HX.below ((Below.refl _ _).alloc (Nat.le_refl _) (.cells #[.slice none 0 0, .slice none 0 0] 40)))
  have HX2 := hid (HX1.out.below (Below.refl _ _).drew)
  have m0 := HX2.out.cell (i := 0) rfl
  have e0 := HX1.out.cell (i := 0) rfl
  have m1 := HX2.out.cell (i := 1) rfl
  have e1 := HX1.out.cell (i := 1) rfl
  have m2 := HX2.out.cell (i := 2) rfl
  have e2 := HX1.out.cell (i := 2) rfl
  have HRB := Blk.new (w.alloc (.cells #[.slice (some ⟨tb, tO, none⟩) y.1.length k1, .slice a2 y.2.1.length k2, .slice (some ⟨ib, io, none⟩) y.2.2.1.length k3, .int .i64 y.2.2.2.1, .int .i64 y.2.2.2.2.1, .int .i64 y.2.2.2.2.2.1, .slice a4 y.2.2.2.2.2.2.1.length k4, .slice a5 y.2.2.2.2.2.2.2.1.length k5, .int .i64 y.2.2.2.2.2.2.2.2.1, .slice a6 y.2.2.2.2.2.2.2.2.2.1.length k6, .slice a7 y.2.2.2.2.2.2.2.2.2.2.1.length k7] 30)) #[.slice none 0 0, .slice none 0 0] 40 (w.heap.size + 1) (by simp)
  have HRB2 := hid (HRB.below (Below.refl _ _).drew)
  have r0 := HRB2.out.cell (i := 0) rfl
  have r1 := HRB2.out.cell (i := 1) rfl
  have rf := HRB2.out.free
  have hl16 : (y.2.1.length : Int) ≤ 16 := by have := HI16.out; omega
  have hl17 : (y.2.2.1.length : Int) ≤ 16 := by have := HF16.out; omega
  obtain ⟨N, hN⟩ : ∃ N : Nat, y.2.1.length + n = N := ⟨_, rfl⟩
  have hN2 : (y.2.1.length : Int) + (n : Int) = (N : Int) := by omega
  have hN3 : (N : Int) - (y.2.1.length : Int) = (n : Int) := by omega
  have hN4 : (N : Int) ≤ 32 := by omega
  have hn1 : (n : Int) < (y.2.2.1.length : Int) := by omega
  rw [hN2]
  clear hN hN2
  have htl : (t : Int) < (y.1.length : Int) := by omega
  clear hcc1 hcc2 HX HRB hR1 ht hmem g0 g1 htt hi hty HSG
  obtain ⟨l1, hl1⟩ : ∃ l1, (y.1[t]).1.length = l1 := ⟨_, rfl⟩
  obtain ⟨l2, hl2⟩ : ∃ l2, (y.1[t]).2.1.length = l2 := ⟨_, rfl⟩
  rw [hl1] at t0
  rw [hl2] at t1
  have HL1 := hid hl1
  have HL2 := hid hl2
  clear hl1 hl2
  go_enter Tryd.func36, Tryd.ntmps36
  go_wp2_with fail
  go_region_law (fail)
  all_goals
    go_wp2_with fail
    refine bodyPost_ret (v := .tuple #[.agg #[.slice p1 l1 q1, .slice p2 l2 q2], .bool true]) (by simp [results, Tryd.results36, go_sem]) rfl ?_
    refine ⟨⟨_, _, _, _, by rw [HL1.out, HL2.out]⟩, ?_⟩
    exact ((((Below.refl _ _).alloc (Nat.le_refl _) _).alloc (by simp) _).drew)
set_option maxRecDepth 100000 in
set_option maxHeartbeats 8000000 in
theorem ptyp_no (w : World) (cs : List Value) (y : D_api_Module) (n : Int) (hn : n < 0 ∨ vMany y ≤ n) (hnb : -9000000000000000000 ≤ n ∧ n ≤ 9000000000000000000) (hg : GoodM y) (hR : R_api_Module w cs y) :
    Calls Tryd.prog 36 #[.agg cs.toArray, .int .i64 n] w (TPost w (vSig y n) (vIs y n)) := by
  have hi : vIs y n = false := decide_eq_false (by omega)
  rw [vSig_no hi, hi]
  have hI16 := hg.imp.1
  have hF16 := hg.fun_.1
  unfold vMany at hn
  obtain ⟨_, _, rfl, h1, _, _, rfl, h2, _, _, rfl, h3, _, _, rfl, ⟨rfl, _⟩, _, _, rfl, ⟨rfl, _⟩, _, _, rfl, ⟨rfl, _⟩, _, _, rfl, h4, _, _, rfl, h5, _, _, rfl, ⟨rfl, _⟩, _, _, rfl, h6, _, _, rfl, h7, rfl⟩ := hR
  obtain ⟨u1, rfl⟩ := sl_one h1
  have K1 := hid h1
  obtain ⟨u2, rfl⟩ := sl_one h2
  have K2 := hid h2
  obtain ⟨u3, rfl⟩ := sl_one h3
  have K3 := hid h3
  obtain ⟨u4, rfl⟩ := sl_one h4
  have K4 := hid h4
  obtain ⟨u5, rfl⟩ := sl_one h5
  have K5 := hid h5
  obtain ⟨u6, rfl⟩ := sl_one h6
  have K6 := hid h6
  obtain ⟨u7, rfl⟩ := sl_one h7
  have K7 := hid h7
  obtain ⟨a1, k1, rfl, kb1, kc1, _⟩ := sl_shape h1
  obtain ⟨a2, k2, rfl, kb2, kc2, _⟩ := sl_shape h2
  obtain ⟨a3, k3, rfl, kb3, kc3, _⟩ := sl_shape h3
  obtain ⟨a4, k4, rfl, kb4, kc4, _⟩ := sl_shape h4
  obtain ⟨a5, k5, rfl, kb5, kc5, _⟩ := sl_shape h5
  obtain ⟨a6, k6, rfl, kb6, kc6, _⟩ := sl_shape h6
  obtain ⟨a7, k7, rfl, kb7, kc7, _⟩ := sl_shape h7
  clear h1 h2 h3 h4 h5 h6 h7
  have HB2 := hid (show Below w.heap.size w ((w.alloc (.cells #[.slice a1 y.1.length k1, .slice a2 y.2.1.length k2, .slice a3 y.2.2.1.length k3, .int .i64 y.2.2.2.1, .int .i64 y.2.2.2.2.1, .int .i64 y.2.2.2.2.2.1, .slice a4 y.2.2.2.2.2.2.1.length k4, .slice a5 y.2.2.2.2.2.2.2.1.length k5, .int .i64 y.2.2.2.2.2.2.2.2.1, .slice a6 y.2.2.2.2.2.2.2.2.2.1.length k6, .slice a7 y.2.2.2.2.2.2.2.2.2.2.1.length k7] 30)).alloc (.cells #[.slice none 0 0, .slice none 0 0] 40)) from ((Below.refl _ _).alloc (Nat.le_refl _) _).alloc (by simp) _)
  have HX := Blk.new w #[.slice a1 y.1.length k1, .slice a2 y.2.1.length k2, .slice a3 y.2.2.1.length k3, .int .i64 y.2.2.2.1, .int .i64 y.2.2.2.2.1, .int .i64 y.2.2.2.2.2.1, .slice a4 y.2.2.2.2.2.2.1.length k4, .slice a5 y.2.2.2.2.2.2.2.1.length k5, .int .i64 y.2.2.2.2.2.2.2.2.1, .slice a6 y.2.2.2.2.2.2.2.2.2.1.length k6, .slice a7 y.2.2.2.2.2.2.2.2.2.2.1.length k7] 30 _ rfl
  have HX1 := hid (HX.below ((Below.refl _ _).alloc (Nat.le_refl _) (.cells #[.slice none 0 0, .slice none 0 0] 40)))
  have e1 := HX1.out.cell (i := 1) rfl
  have e2 := HX1.out.cell (i := 2) rfl
  have HRB := hid (Blk.new (w.alloc (.cells #[.slice a1 y.1.length k1, .slice a2 y.2.1.length k2, .slice a3 y.2.2.1.length k3, .int .i64 y.2.2.2.1, .int .i64 y.2.2.2.2.1, .int .i64 y.2.2.2.2.2.1, .slice a4 y.2.2.2.2.2.2.1.length k4, .slice a5 y.2.2.2.2.2.2.2.1.length k5, .int .i64 y.2.2.2.2.2.2.2.2.1, .slice a6 y.2.2.2.2.2.2.2.2.2.1.length k6, .slice a7 y.2.2.2.2.2.2.2.2.2.2.1.length k7] 30)) #[.slice none 0 0, .slice none 0 0] 40 (w.heap.size + 1) (by simp))
  have r0 := HRB.out.cell (i := 0) rfl
  have r1 := HRB.out.cell (i := 1) rfl
  have rf := HRB.out.free
  clear HX
  obtain ⟨hb0, hb1⟩ := hnb
  have hl16 : (y.2.1.length : Int) ≤ 16 := by omega
  obtain ⟨d, hd⟩ : ∃ d, n - (y.2.1.length : Int) = d := ⟨_, rfl⟩
  have hwd : IntKind.i64.wrap d = d := IntWalk.i64_in _ (by omega)
  rcases hn with hn | hn
  · have h0 : decide (0 ≤ n) = false := decide_eq_false (by omega)
    have h2 : decide (0 ≤ d) = false := decide_eq_false (by omega)
    clear hn hI16 hF16 hb0 hb1 hl16
    go_enter Tryd.func36, Tryd.ntmps36
    go_wp2_with fail
    refine bodyPost_ret (v := .tuple #[.agg #[.slice none 0 0, .slice none 0 0], .bool false]) (by simp [results, Tryd.results36, go_sem]) rfl ?_
    exact ⟨⟨_, _, _, _, rfl⟩, HB2.out⟩
  · have h0 : decide (0 ≤ n) = true := decide_eq_true (by omega)
    have h1 : decide (d < 0) = false := decide_eq_false (by omega)
    have h2 : decide (0 ≤ d) = true := decide_eq_true (by omega)
    have h3 : decide (d < (y.2.2.1.length : Int)) = false := decide_eq_false (by omega)
    clear hn hI16 hF16 hb0 hb1 hl16
    go_enter Tryd.func36, Tryd.ntmps36
    go_wp2_with fail
    refine bodyPost_ret (v := .tuple #[.agg #[.slice none 0 0, .slice none 0 0], .bool false]) (by simp [results, Tryd.results36, go_sem]) rfl ?_
    exact ⟨⟨_, _, _, _, rfl⟩, HB2.out⟩
theorem ptyp_any (w : World) (cs : List Value) (y : D_api_Module) (n : Int) (hnb : -9000000000000000000 ≤ n ∧ n ≤ 9000000000000000000) (hg : GoodM y) (ht : ∀ t ∈ vTys y, 0 ≤ t ∧ t < y.1.length) (hR : R_api_Module w cs y) :
    Calls Tryd.prog 36 #[.agg cs.toArray, .int .i64 n] w (TPost w (vSig y n) (vIs y n)) := by
  by_cases h0 : n < 0 ∨ vMany y ≤ n
  · exact ptyp_no w cs y n h0 hnb hg hR
  · obtain ⟨k, rfl⟩ := Int.eq_ofNat_of_zero_le (show 0 ≤ n by omega)
    unfold vMany at h0
    by_cases h1 : k < y.2.1.length
    · exact ptyp_imp w cs y k h1 hg ht hR
    · obtain ⟨j, hj⟩ : ∃ j, y.2.1.length + j = k := ⟨k - y.2.1.length, by omega⟩
      have := ptyp_fun w cs y j (by omega) hg ht hR
      rw [show (y.2.1.length : Int) + j = (k : Int) by omega] at this
      exact this
end Go.Proofs.YtdiiefhklcchmaaDoor
