/-
  MODULES AS BYTES, the program's looks at a module's parts. Condition: unicode/utf8's two tables hold what the row lists.
-/
import Derived.Test.YthoalneknadheaaGreatDoorGBinWrites31
import Derived.Test.YthoalneknadheaaGreatDoorGBinWrites32
namespace Go.Proofs.YthoalneknadheaaGreatDoor
open Go.RowKit Go.Lib

set_option maxRecDepth 100000 in
theorem named_any (w : World) (C : Nat) (b : Int) (s : ByteArray) (hs : s.size ≤ 140737488351232) (hT : UTabs w) (h : PC w C b) :
    Calls Tryz.prog 67 #[.pointer (some ⟨C, 0, none⟩), .string s] w (CPost C (orE b (nameE s)) w) := by
  have HN := hid (pname_any s (by omega) w hT)
  have HS := hid (fun wx h => says_any wx C b (nameE s) h)
  have H := hid h
  generalize nameE s = E at *
  generalize nameX s = X at *
  clear h hT hs
  go_enter Tryz.func67, Tryz.ntmps67
  go_wp2_with fail
  refine HN.out.mono ?_
  rintro r w1 ⟨rfl, hb⟩
  have HB := hid hb
  have H1 := hid (H.out.below hb)
  clear hb
  go_wp2_with (go_at_call 120; refine (HS.out _ H1.out).mono ?_; rintro r w2 hp; obtain ⟨rfl, hq⟩ := hp; have HQ := hid hq; clear hq)
  go_end0
  exact ⟨rfl, HQ.out.1, (Touch.of_below HB.out).trans HQ.out.2⟩
theorem sl_one {W : World} {s bytes : Nat} {α : Type} {R : List Value → α → Prop} {cs : List Value} {ys : List α} (h : sliceR W s bytes R cs ys) : ∃ v, cs = [v] := by
  obtain ⟨v', _, hv, _⟩ := h
  exact ⟨v', hv⟩
theorem CPost.pc {C : Nat} {b : Int} {w w' : World} {e : Ending} (h : CPost C b w e w') : PC w' C b := h.2.1
set_option maxRecDepth 100000 in
set_option maxHeartbeats 4000000 in
theorem sig_any (W w : World) (C : Nat) (b : Int) (cs : List Value) (y : D_api_Sig) (hb : Below W.heap.size W w) (hC : W.heap.size ≤ C) (hR : R_api_Sig W cs y) (h : PC w C b) :
    Calls Tryz.prog 64 #[.pointer (some ⟨C, 0, none⟩), .agg cs.toArray] w (CPost C (orE b (fSig y)) w) := by
  obtain ⟨_, _, rfl, h1, _, _, rfl, h2, rfl⟩ := hR
  obtain ⟨u1, rfl⟩ := sl_one h1
  obtain ⟨u2, rfl⟩ := sl_one h2
  have K1 := hid (kinds_of h1)
  have K2 := hid (kinds_of h2)
  obtain ⟨a1, k1, rfl, _, _, _⟩ := sl_shape h1
  obtain ⟨a2, k2, rfl, _, _, _⟩ := sl_shape h2
  clear h1 h2
  have HC := hid hC
  have HB0 := hid (hb.alloc hb.size (.cells #[.slice a1 y.1.length k1, .slice a2 y.2.1.length k2] 47))
  have HB1 := hid hb
  have T0 := hid (show Touch (fun k => k = C) w (w.alloc (.cells #[.slice a1 y.1.length k1, .slice a2 y.2.1.length k2] 47)) from Touch.of_below ((Below.refl _ _).alloc (Nat.le_refl _) _))
  have P0 := hid (h.below ((Below.refl _ _).alloc (Nat.le_refl _) (.cells #[.slice a1 y.1.length k1, .slice a2 y.2.1.length k2] 47)))
  have HX := hid (Blk.new w #[.slice a1 y.1.length k1, .slice a2 y.2.1.length k2] 47 _ rfl)
  have HXC := hid (show w.heap.size ≠ C from fun e => by have h1 := Blk.lt h; omega)
  have x0 := HX.out.cell (i := 0) rfl
  have x1 := HX.out.cell (i := 1) rfl
  clear h hb hC
  go_enter Tryz.func64, Tryz.ntmps64
  go_wp2_with fail
  refine (eachKind_any W _ C b _ y.1 4 HB0.out HC.out K1.out P0.out).mono ?_
  rintro r w1 hp
  have P1 := hid hp.2.1
  have HB1x := hid (CPost.base hp HB0.out HC.out)
  have T1 := hid (T0.out.trans' hp.2.2 (fun _ _ h => h))
  have X1 := hid (HX.out.touch hp.2.2 HXC.out)
  obtain ⟨rfl, hq⟩ := hp
  clear hq x0 x1
  have x0 := X1.out.cell (i := 0) rfl
  have x1 := X1.out.cell (i := 1) rfl
  go_wp2_with fail
  refine (eachKind_any W _ C _ _ y.2.1 1 HB1x.out HC.out K2.out P1.out).mono ?_
  rintro r w2 hp
  have P2 := hid hp.2.1
  have HB2x := hid (CPost.base hp HB1x.out HC.out)
  have T2 := hid (T1.out.trans' hp.2.2 (fun _ _ h => h))
  have X2 := hid (X1.out.touch hp.2.2 HXC.out)
  obtain ⟨rfl, hq⟩ := hp
  clear hq
  go_wp2_with fail
  go_end0
  refine ⟨rfl, ?_, T2.out⟩
  unfold fSig
  rw [← orE_assoc]
  exact P2.out
set_option maxRecDepth 100000 in
set_option maxHeartbeats 4000000 in
theorem shown_any (W w : World) (C : Nat) (b : Int) (cs : List Value) (y : D_api_Export) (hb : Below W.heap.size W w) (hC : W.heap.size ≤ C) (hT : UTabs W) (hR : R_api_Export W cs y) (h : PC w C b) :
    Calls Tryz.prog 76 #[.pointer (some ⟨C, 0, none⟩), .agg cs.toArray] w (CPost C (orE b (fExport y)) w) := by
  obtain ⟨_, _, rfl, ⟨rfl, hs⟩, _, _, rfl, ⟨rfl, _⟩, rfl⟩ := hR
  have HSZ := hid hs
  clear hs
  have HC := hid hC
  have HB0 := hid (hb.alloc hb.size (.cells #[.string y.1, .int .i64 y.2.1] 68))
  have HB1 := hid hb
  have T0 := hid (show Touch (fun k => k = C) w (w.alloc (.cells #[.string y.1, .int .i64 y.2.1] 68)) from Touch.of_below ((Below.refl _ _).alloc (Nat.le_refl _) _))
  have P0 := hid (h.below ((Below.refl _ _).alloc (Nat.le_refl _) (.cells #[.string y.1, .int .i64 y.2.1] 68)))
  have HX := hid (Blk.new w #[.string y.1, .int .i64 y.2.1] 68 _ rfl)
  have HXC := hid (show w.heap.size ≠ C from fun e => by have h1 := Blk.lt h; omega)
  have x0 := HX.out.cell (i := 0) rfl
  have x1 := HX.out.cell (i := 1) rfl
  have HT := hid hT
  clear hT
  clear h hb hC
  go_enter Tryz.func76, Tryz.ntmps76
  go_wp2_with fail
  refine (named_any _ C b y.1 HSZ.out (HT.out.below HB0.out) P0.out).mono ?_
  rintro r w1 hp
  have P1 := hid hp.2.1
  have HB1x := hid (CPost.base hp HB0.out HC.out)
  have T1 := hid (T0.out.trans' hp.2.2 (fun _ _ h => h))
  have X1 := hid (HX.out.touch hp.2.2 HXC.out)
  obtain ⟨rfl, hq⟩ := hp
  clear hq x0 x1
  have x0 := X1.out.cell (i := 0) rfl
  have x1 := X1.out.cell (i := 1) rfl
  go_wp2_with fail
  refine (indexB_any _ C _ y.2.1 P1.out).mono ?_
  rintro r w2 hp
  have P2 := hid hp.2.1
  have HB2x := hid (CPost.base hp HB1x.out HC.out)
  have T2 := hid (T1.out.trans' hp.2.2 (fun _ _ h => h))
  have X2 := hid (X1.out.touch hp.2.2 HXC.out)
  obtain ⟨rfl, hq⟩ := hp
  clear hq
  go_wp2_with fail
  go_end0
  refine ⟨rfl, ?_, T2.out⟩
  unfold fExport
  rw [← orE_assoc]
  exact P2.out
set_option maxRecDepth 100000 in
set_option maxHeartbeats 4000000 in
theorem elem_any (W w : World) (C : Nat) (b : Int) (cs : List Value) (y : D_api_Elem) (hb : Below W.heap.size W w) (hC : W.heap.size ≤ C) (hR : R_api_Elem W cs y) (h : PC w C b) :
    Calls Tryz.prog 78 #[.pointer (some ⟨C, 0, none⟩), .agg cs.toArray] w (CPost C (orE b (fElem y)) w) := by
  obtain ⟨_, _, rfl, ⟨rfl, hw⟩, _, _, rfl, h2, rfl⟩ := hR
  obtain ⟨u2, rfl⟩ := sl_one h2
  have K2 := hid (ints_of h2)
  obtain ⟨a2, k2, rfl, _, _, _⟩ := sl_shape h2
  have HW := hid (wf_i64 hw)
  clear h2 hw
  have HC := hid hC
  have HB0 := hid (hb.alloc hb.size (.cells #[.int .i64 y.1, .slice a2 y.2.1.length k2] 73))
  have HB1 := hid hb
  have T0 := hid (show Touch (fun k => k = C) w (w.alloc (.cells #[.int .i64 y.1, .slice a2 y.2.1.length k2] 73)) from Touch.of_below ((Below.refl _ _).alloc (Nat.le_refl _) _))
  have P0 := hid (h.below ((Below.refl _ _).alloc (Nat.le_refl _) (.cells #[.int .i64 y.1, .slice a2 y.2.1.length k2] 73)))
  have HX := hid (Blk.new w #[.int .i64 y.1, .slice a2 y.2.1.length k2] 73 _ rfl)
  have HXC := hid (show w.heap.size ≠ C from fun e => by have h1 := Blk.lt h; omega)
  have x0 := HX.out.cell (i := 0) rfl
  have x1 := HX.out.cell (i := 1) rfl
  clear h hb hC
  go_enter Tryz.func78, Tryz.ntmps78
  go_wp2_with fail
  refine (placeB_any _ C b y.1 HW.out P0.out).mono ?_
  rintro r w1 hp
  have P1 := hid hp.2.1
  have HB1x := hid (CPost.base hp HB0.out HC.out)
  have T1 := hid (T0.out.trans' hp.2.2 (fun _ _ h => h))
  have X1 := hid (HX.out.touch hp.2.2 HXC.out)
  obtain ⟨rfl, hq⟩ := hp
  clear hq x0 x1
  have x0 := X1.out.cell (i := 0) rfl
  have x1 := X1.out.cell (i := 1) rfl
  go_wp2_with fail
  refine (eachInt_any W _ C _ _ y.2.1 16 HB1x.out HC.out K2.out P1.out).mono ?_
  rintro r w2 hp
  have P2 := hid hp.2.1
  have HB2x := hid (CPost.base hp HB1x.out HC.out)
  have T2 := hid (T1.out.trans' hp.2.2 (fun _ _ h => h))
  have X2 := hid (X1.out.touch hp.2.2 HXC.out)
  obtain ⟨rfl, hq⟩ := hp
  clear hq
  go_wp2_with fail
  go_end0
  refine ⟨rfl, ?_, T2.out⟩
  unfold fElem
  rw [← orE_assoc]
  exact P2.out
set_option maxRecDepth 100000 in
set_option maxHeartbeats 4000000 in
theorem import_any (W w : World) (C : Nat) (b : Int) (cs : List Value) (y : D_api_Import) (hb : Below W.heap.size W w) (hC : W.heap.size ≤ C) (hT : UTabs W) (D : Nat) (hD : Blk w D 117 [.pointer (some ⟨C, 0, none⟩)]) (hDC : D ≠ C) (hR : R_api_Import W cs y) (h : PC w C b) :
    Calls Tryz.prog 66 #[.agg cs.toArray, .pointer (some ⟨D, 0, none⟩)] w (CPost C (orE b (fImport y)) w) := by
  obtain ⟨_, _, rfl, ⟨rfl, hs⟩, _, _, rfl, ⟨rfl, _⟩, rfl⟩ := hR
  have HSZ := hid hs
  clear hs
  have HC := hid hC
  have HB0 := hid (hb.alloc hb.size (.cells #[.string y.1, .int .i64 y.2.1] 52))
  have HB1 := hid hb
  have T0 := hid (show Touch (fun k => k = C) w (w.alloc (.cells #[.string y.1, .int .i64 y.2.1] 52)) from Touch.of_below ((Below.refl _ _).alloc (Nat.le_refl _) _))
  have P0 := hid (h.below ((Below.refl _ _).alloc (Nat.le_refl _) (.cells #[.string y.1, .int .i64 y.2.1] 52)))
  have HX := hid (Blk.new w #[.string y.1, .int .i64 y.2.1] 52 _ rfl)
  have HXC := hid (show w.heap.size ≠ C from fun e => by have h1 := Blk.lt h; omega)
  have x0 := HX.out.cell (i := 0) rfl
  have x1 := HX.out.cell (i := 1) rfl
  have HT := hid hT
  clear hT
  have D0 := hid (hD.below ((Below.refl _ _).alloc (Nat.le_refl _) (.cells #[.string y.1, .int .i64 y.2.1] 52)))
  have hDn := D0.out.cell (i := 0) rfl
  have HDC := hid hDC
  clear h hb hC hD hDC
  go_enter Tryz.func66, Tryz.ntmps66
  go_wp2_with fail
  refine (named_any _ C b y.1 HSZ.out (HT.out.below HB0.out) P0.out).mono ?_
  rintro r w1 hp
  have P1 := hid hp.2.1
  have HB1x := hid (CPost.base hp HB0.out HC.out)
  have T1 := hid (T0.out.trans' hp.2.2 (fun _ _ h => h))
  have X1 := hid (HX.out.touch hp.2.2 HXC.out)
  have D1 := hid (D0.out.touch hp.2.2 HDC.out)
  obtain ⟨rfl, hq⟩ := hp
  clear hDn
  have hDn := D1.out.cell (i := 0) rfl
  clear hq x0 x1
  have x0 := X1.out.cell (i := 0) rfl
  have x1 := X1.out.cell (i := 1) rfl
  go_wp2_with fail
  refine (indexB_any _ C _ y.2.1 P1.out).mono ?_
  rintro r w2 hp
  have P2 := hid hp.2.1
  have HB2x := hid (CPost.base hp HB1x.out HC.out)
  have T2 := hid (T1.out.trans' hp.2.2 (fun _ _ h => h))
  have X2 := hid (X1.out.touch hp.2.2 HXC.out)
  have D2 := hid (D1.out.touch hp.2.2 HDC.out)
  obtain ⟨rfl, hq⟩ := hp
  clear hDn
  have hDn := D2.out.cell (i := 0) rfl
  clear hq
  go_wp2_with fail
  go_end0
  refine ⟨rfl, ?_, T2.out⟩
  unfold fImport
  rw [← orE_assoc]
  exact P2.out
set_option maxRecDepth 100000 in
set_option maxHeartbeats 4000000 in
theorem data_any (W w : World) (C : Nat) (b : Int) (cs : List Value) (y : D_api_Data) (hb : Below W.heap.size W w) (hC : W.heap.size ≤ C) (D : Nat) (hD : Blk w D 117 [.pointer (some ⟨C, 0, none⟩)]) (hDC : D ≠ C) (hR : R_api_Data W cs y) (h : PC w C b) :
    Calls Tryz.prog 80 #[.agg cs.toArray, .pointer (some ⟨D, 0, none⟩)] w (CPost C (orE b (fData y)) w) := by
  obtain ⟨_, _, rfl, ⟨rfl, hw⟩, _, _, rfl, ⟨rfl, hs⟩, rfl⟩ := hR
  have HW := hid (wf_i64 hw)
  have hs2 : (y.2.1.size : Int) ≤ 140737488351232 := by omega
  clear hw hs
  obtain ⟨bs, hbs⟩ : ∃ bs, decide ((y.2.1.size : Int) ≤ 64) = bs := ⟨_, rfl⟩
  have HBS := hid hbs
  have HC := hid hC
  have HB0 := hid (hb.alloc hb.size (.cells #[.int .i64 y.1, .string y.2.1] 78))
  have HB1 := hid hb
  have T0 := hid (show Touch (fun k => k = C) w (w.alloc (.cells #[.int .i64 y.1, .string y.2.1] 78)) from Touch.of_below ((Below.refl _ _).alloc (Nat.le_refl _) _))
  have P0 := hid (h.below ((Below.refl _ _).alloc (Nat.le_refl _) (.cells #[.int .i64 y.1, .string y.2.1] 78)))
  have HX := hid (Blk.new w #[.int .i64 y.1, .string y.2.1] 78 _ rfl)
  have HXC := hid (show w.heap.size ≠ C from fun e => by have h1 := Blk.lt h; omega)
  have x0 := HX.out.cell (i := 0) rfl
  have x1 := HX.out.cell (i := 1) rfl
  have D0 := hid (hD.below ((Below.refl _ _).alloc (Nat.le_refl _) (.cells #[.int .i64 y.1, .string y.2.1] 78)))
  have hDn := D0.out.cell (i := 0) rfl
  have HDC := hid hDC
  clear h hb hC hD hDC
  go_enter Tryz.func80, Tryz.ntmps80
  go_wp2_with fail
  refine (placeB_any _ C b y.1 HW.out P0.out).mono ?_
  rintro r w1 hp
  have P1 := hid hp.2.1
  have HB1x := hid (CPost.base hp HB0.out HC.out)
  have T1 := hid (T0.out.trans' hp.2.2 (fun _ _ h => h))
  have X1 := hid (HX.out.touch hp.2.2 HXC.out)
  have D1 := hid (D0.out.touch hp.2.2 HDC.out)
  obtain ⟨rfl, hq⟩ := hp
  clear hDn
  have hDn := D1.out.cell (i := 0) rfl
  clear hq x0 x1
  have x0 := X1.out.cell (i := 0) rfl
  have x1 := X1.out.cell (i := 1) rfl
  go_wp2_with fail
  refine (need_any _ C _ 2 bs P1.out).mono ?_
  rintro r w2 hp
  have P2 := hid hp.2.1
  have HB2x := hid (CPost.base hp HB1x.out HC.out)
  have T2 := hid (T1.out.trans' hp.2.2 (fun _ _ h => h))
  have X2 := hid (X1.out.touch hp.2.2 HXC.out)
  have D2 := hid (D1.out.touch hp.2.2 HDC.out)
  obtain ⟨rfl, hq⟩ := hp
  clear hDn
  have hDn := D2.out.cell (i := 0) rfl
  clear hq
  go_wp2_with fail
  go_end0
  refine ⟨rfl, ?_, T2.out⟩
  unfold fData
  rw [← orE_assoc, HBS.out]
  exact P2.out
set_option maxRecDepth 100000 in
set_option maxHeartbeats 4000000 in
theorem global_any (W w : World) (C : Nat) (b : Int) (cs : List Value) (y : D_api_Global) (hb : Below W.heap.size W w) (hC : W.heap.size ≤ C) (D : Nat) (hD : Blk w D 117 [.pointer (some ⟨C, 0, none⟩)]) (hDC : D ≠ C) (hR : R_api_Global W cs y) (h : PC w C b) :
    Calls Tryz.prog 73 #[.agg cs.toArray, .pointer (some ⟨D, 0, none⟩)] w (CPost C (orE b (fGlobal y)) w) := by
  obtain ⟨k, m, n, u⟩ := y
  obtain ⟨_, _, rfl, ⟨rfl, _⟩, _, _, rfl, rfl, _, _, rfl, ⟨rfl, hw⟩, rfl⟩ := hR
  simp only at *
  obtain ⟨hn0, hn1⟩ := wf_i64 hw
  obtain ⟨n2, hn2⟩ : ∃ n2, IntKind.i32.wrap n = n2 := ⟨_, rfl⟩
  have hn3 := hn2
  rw [IntKind.wrap_i32] at hn3
  have hn4 : IntKind.i64.wrap n2 = n2 := IntWalk.i64_in _ (by omega)
  have HOK := hid (show (!(k == 127) || (n == n2)) = okG k n from by
    unfold okG
    by_cases g : k = 127
    · by_cases g2 : -2147483648 ≤ n ∧ n ≤ 2147483647
      · rw [decide_eq_true (.inr g2)]; simp [g]; omega
      · rw [decide_eq_false (fun e => e.elim (fun e => e g) g2)]; simp [g]; omega
    · rw [decide_eq_true (.inl g)]; simp [g])
  clear hw hn0 hn1 hn3
  obtain ⟨nq, hnq⟩ : ∃ nq, (n == n2) = nq := ⟨_, rfl⟩
  rw [hnq] at HOK
  rcases (Classical.em (k = 127)).imp id (fun g => And.intro (beq_eq_false_iff_ne.2 g) g) with rfl | ⟨hk1, hk2⟩
  rotate_left
  · rw [hk1] at HOK
    have HC := hid hC
    have HB0 := hid (hb.alloc hb.size (.cells #[.int .u8 k, .bool m, .int .i64 n] 64))
    have HB1 := hid hb
    have T0 := hid (show Touch (fun k => k = C) w (w.alloc (.cells #[.int .u8 k, .bool m, .int .i64 n] 64)) from Touch.of_below ((Below.refl _ _).alloc (Nat.le_refl _) _))
    have P0 := hid (h.below ((Below.refl _ _).alloc (Nat.le_refl _) (.cells #[.int .u8 k, .bool m, .int .i64 n] 64)))
    have HX := hid (Blk.new w #[.int .u8 k, .bool m, .int .i64 n] 64 _ rfl)
    have HXC := hid (show w.heap.size ≠ C from fun e => by have h1 := Blk.lt h; omega)
    have x0 := HX.out.cell (i := 0) rfl
    have x1 := HX.out.cell (i := 1) rfl
    have x2 := HX.out.cell (i := 2) rfl
    have D0 := hid (hD.below ((Below.refl _ _).alloc (Nat.le_refl _) (.cells #[.int .u8 k, .bool m, .int .i64 n] 64)))
    have hDn := D0.out.cell (i := 0) rfl
    have HDC := hid hDC
    clear h hb hC hD hDC
    go_enter Tryz.func73, Tryz.ntmps73
    go_wp2_with fail
    refine (kindB_any _ C b k P0.out).mono ?_
    rintro r w1 hp
    have P1 := hid hp.2.1
    have HB1x := hid (CPost.base hp HB0.out HC.out)
    have T1 := hid (T0.out.trans' hp.2.2 (fun _ _ h => h))
    have X1 := hid (HX.out.touch hp.2.2 HXC.out)
    have D1 := hid (D0.out.touch hp.2.2 HDC.out)
    obtain ⟨rfl, hq⟩ := hp
    clear hDn
    have hDn := D1.out.cell (i := 0) rfl
    clear hq x0 x1 x2
    have x0 := X1.out.cell (i := 0) rfl
    have x1 := X1.out.cell (i := 1) rfl
    have x2 := X1.out.cell (i := 2) rfl
    go_wp2_with fail
    refine (need_any _ C _ 1 _ P1.out).mono ?_
    rintro r w2 hp
    have P2 := hid hp.2.1
    have HB2x := hid (CPost.base hp HB1x.out HC.out)
    have T2 := hid (T1.out.trans' hp.2.2 (fun _ _ h => h))
    have X2 := hid (X1.out.touch hp.2.2 HXC.out)
    have D2 := hid (D1.out.touch hp.2.2 HDC.out)
    obtain ⟨rfl, hq⟩ := hp
    clear hDn
    have hDn := D2.out.cell (i := 0) rfl
    clear hq
    go_wp2_with fail
    go_end0
    refine ⟨rfl, ?_, T2.out⟩
    unfold fGlobal
    rw [← orE_assoc]
    simp only
    rw [← HOK.out]
    exact P2.out
  · skip
    have HC := hid hC
    have HB0 := hid (hb.alloc hb.size (.cells #[.int .u8 127, .bool m, .int .i64 n] 64))
    have HB1 := hid hb
    have T0 := hid (show Touch (fun k => k = C) w (w.alloc (.cells #[.int .u8 127, .bool m, .int .i64 n] 64)) from Touch.of_below ((Below.refl _ _).alloc (Nat.le_refl _) _))
    have P0 := hid (h.below ((Below.refl _ _).alloc (Nat.le_refl _) (.cells #[.int .u8 127, .bool m, .int .i64 n] 64)))
    have HX := hid (Blk.new w #[.int .u8 127, .bool m, .int .i64 n] 64 _ rfl)
    have HXC := hid (show w.heap.size ≠ C from fun e => by have h1 := Blk.lt h; omega)
    have x0 := HX.out.cell (i := 0) rfl
    have x1 := HX.out.cell (i := 1) rfl
    have x2 := HX.out.cell (i := 2) rfl
    have D0 := hid (hD.below ((Below.refl _ _).alloc (Nat.le_refl _) (.cells #[.int .u8 127, .bool m, .int .i64 n] 64)))
    have hDn := D0.out.cell (i := 0) rfl
    have HDC := hid hDC
    clear h hb hC hD hDC
    go_enter Tryz.func73, Tryz.ntmps73
    go_wp2_with fail
    refine (kindB_any _ C b 127 P0.out).mono ?_
    rintro r w1 hp
    have P1 := hid hp.2.1
    have HB1x := hid (CPost.base hp HB0.out HC.out)
    have T1 := hid (T0.out.trans' hp.2.2 (fun _ _ h => h))
    have X1 := hid (HX.out.touch hp.2.2 HXC.out)
    have D1 := hid (D0.out.touch hp.2.2 HDC.out)
    obtain ⟨rfl, hq⟩ := hp
    clear hDn
    have hDn := D1.out.cell (i := 0) rfl
    clear hq x0 x1 x2
    have x0 := X1.out.cell (i := 0) rfl
    have x1 := X1.out.cell (i := 1) rfl
    have x2 := X1.out.cell (i := 2) rfl
    go_wp2_with fail
    refine (need_any _ C _ 1 _ P1.out).mono ?_
    rintro r w2 hp
    have P2 := hid hp.2.1
    have HB2x := hid (CPost.base hp HB1x.out HC.out)
    have T2 := hid (T1.out.trans' hp.2.2 (fun _ _ h => h))
    have X2 := hid (X1.out.touch hp.2.2 HXC.out)
    have D2 := hid (D1.out.touch hp.2.2 HDC.out)
    obtain ⟨rfl, hq⟩ := hp
    clear hDn
    have hDn := D2.out.cell (i := 0) rfl
    clear hq
    go_wp2_with fail
    go_end0
    refine ⟨rfl, ?_, T2.out⟩
    unfold fGlobal
    rw [← orE_assoc]
    simp only
    rw [← HOK.out]
    exact P2.out
set_option maxRecDepth 100000 in
set_option maxHeartbeats 4000000 in
theorem function_any (W w : World) (C : Nat) (b : Int) (cs : List Value) (y : D_api_Func) (hb : Below W.heap.size W w) (hC : W.heap.size ≤ C) (hR : R_api_Func W cs y) (h : PC w C b) :
    Calls Tryz.prog 70 #[.pointer (some ⟨C, 0, none⟩), .agg cs.toArray] w (CPost C (orE b (fFunc y)) w) := by
  obtain ⟨_, _, rfl, ⟨rfl, _⟩, _, _, rfl, h2, _, _, rfl, h3, rfl⟩ := hR
  obtain ⟨u2, rfl⟩ := sl_one h2
  obtain ⟨u3, rfl⟩ := sl_one h3
  have K2 := hid (kinds_of h2)
  have HBO := hid (body_of h3)
  have NC := hid (fun w1 (hx : Below W.heap.size W w1) => ncheck_any w1 u3 (y.2.2.1.map itOf) HBO.out.2 (HBO.out.1.below hx))
  obtain ⟨a2, k2, rfl, _, _, _⟩ := sl_shape h2
  obtain ⟨a3, k3, rfl, _, _, _⟩ := sl_shape h3
  clear h2 h3
  have HC := hid hC
  have HB0 := hid (hb.alloc hb.size (.cells #[.int .i64 y.1, .slice a2 y.2.1.length k2, .slice a3 y.2.2.1.length k3] 59))
  have HB1 := hid hb
  have T0 := hid (show Touch (fun k => k = C) w (w.alloc (.cells #[.int .i64 y.1, .slice a2 y.2.1.length k2, .slice a3 y.2.2.1.length k3] 59)) from Touch.of_below ((Below.refl _ _).alloc (Nat.le_refl _) _))
  have P0 := hid (h.below ((Below.refl _ _).alloc (Nat.le_refl _) (.cells #[.int .i64 y.1, .slice a2 y.2.1.length k2, .slice a3 y.2.2.1.length k3] 59)))
  have HX := hid (Blk.new w #[.int .i64 y.1, .slice a2 y.2.1.length k2, .slice a3 y.2.2.1.length k3] 59 _ rfl)
  have HXC := hid (show w.heap.size ≠ C from fun e => by have h1 := Blk.lt h; omega)
  have x0 := HX.out.cell (i := 0) rfl
  have x1 := HX.out.cell (i := 1) rfl
  have x2 := HX.out.cell (i := 2) rfl
  clear h hb hC
  go_enter Tryz.func70, Tryz.ntmps70
  go_wp2_with fail
  refine (indexB_any _ C b y.1 P0.out).mono ?_
  rintro r w1 hp
  have P1 := hid hp.2.1
  have HB1x := hid (CPost.base hp HB0.out HC.out)
  have T1 := hid (T0.out.trans' hp.2.2 (fun _ _ h => h))
  have X1 := hid (HX.out.touch hp.2.2 HXC.out)
  obtain ⟨rfl, hq⟩ := hp
  clear hq x0 x1 x2
  have x0 := X1.out.cell (i := 0) rfl
  have x1 := X1.out.cell (i := 1) rfl
  have x2 := X1.out.cell (i := 2) rfl
  go_wp2_with fail
  refine (eachKind_any W _ C _ _ y.2.1 16 HB1x.out HC.out K2.out P1.out).mono ?_
  rintro r w2 hp
  have P2 := hid hp.2.1
  have HB2x := hid (CPost.base hp HB1x.out HC.out)
  have T2 := hid (T1.out.trans' hp.2.2 (fun _ _ h => h))
  have X2 := hid (X1.out.touch hp.2.2 HXC.out)
  obtain ⟨rfl, hq⟩ := hp
  clear hq
  have HV := hid (show orE b (fFunc y) = orE (orE (orE b (fIdx y.1)) (eachE fKind y.2.1 16)) (ncM (y.2.2.1.map itOf)) from by unfold fFunc; rw [← orE_assoc, ← orE_assoc])
  generalize orE (orE b (fIdx y.1)) (eachE fKind y.2.1 16) = b2 at *
  generalize ncM (y.2.2.1.map itOf) = E at *
  clear x0 x1 x2
  have c0 := Blk.cell P2.out (i := 0) rfl
  have x2 := X2.out.cell (i := 2) rfl
  by_cases hz : b2 = 0
  · subst hz
    go_wp2_with fail
    refine (NC.out _ HB2x.out).mono ?_
    rintro r w3 ⟨rfl, hb3⟩
    have P3 := hid (P2.out.below hb3)
    have T3 := hid (T2.out.trans (Touch.of_below hb3))
    have c3 := Blk.cell P3.out (i := 0) rfl
    have f3 := Blk.free P3.out
    clear hb3 c0 x2
    go_wp2_with fail
    go_end0
    exact ⟨rfl, by rw [HV.out]; exact P3.out.set 0 _, T3.out.put (a := ⟨C, 0, none⟩) rfl _⟩
  · have hz2 : (b2 == 0) = false := by simpa using hz
    have HZ := hid (orE_stop hz E)
    clear hz
    go_wp2_with fail
    go_end0
    exact ⟨rfl, by rw [HV.out, HZ.out]; exact P2.out, T2.out⟩

end Go.Proofs.YthoalneknadheaaGreatDoor
