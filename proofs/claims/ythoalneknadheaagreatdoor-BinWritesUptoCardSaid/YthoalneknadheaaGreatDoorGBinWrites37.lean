/-
  MODULES AS BYTES, the reference's: BinCheck. Conditions: the variable of the library that strings.Contains reads holds some number; the parts' sums in the form's reach.
-/
import Derived.Test.YthoalneknadheaaGreatDoorGBinWrites33
import Derived.Test.YthoalneknadheaaGreatDoorGBinWrites36
namespace Go.Proofs.YthoalneknadheaaGreatDoor
open Go.RowKit Go.Lib

def sumC {α : Type} (c : α → Nat) (l : List α) : Nat := (l.map c).sum
theorem sumC_next {α : Type} (c : α → Nat) (l : List α) (k : Nat) (h : k < l.length) : sumC c (l.take (k + 1)) = sumC c (l.take k) + c l[k] := by
 unfold sumC
 rw [List.take_succ_eq_append_getElem h, List.map_append, List.sum_append]
 simp
theorem sumC_le {α : Type} (c : α → Nat) (l : List α) (k : Nat) : sumC c (l.take k) ≤ sumC c l := by
 unfold sumC
 conv => rhs; rw [← List.take_append_drop k l, List.map_append, List.sum_append]
 omega
theorem gt_le (a b e : Int) : bdE (decide (b < a)) e = ndE (decide (a ≤ b)) e := by
 rw [← bd_nd]
 by_cases h : a ≤ b
 ·rw [decide_eq_true h, decide_eq_false (by omega)]
  rfl
 ·rw [decide_eq_false h, decide_eq_true (by omega)]
  rfl
theorem RF.lt {w : World} {base B n : Nat} {f : Int} (h : RF w base B f n) : B < w.heap.size := by
 obtain ⟨⟨L, ⟨_, ⟨v, hb, _⟩, _⟩, _⟩⟩ := h
 exact hb.lt
theorem RF.base {w : World} {base B n : Nat} {f : Int} (h : RF w base B f n) : base ≤ w.heap.size := by
 obtain ⟨⟨L, h1, _⟩⟩ := h
 exact h1.base
structure RB (W w : World) (B M : Nat) (f : Int) (n : Nat) (cs : List Value) : Prop where
 rf : RF w W.heap.size B f n
 m : Blk w M 30 cs
 mb : M ≠ B
 bel : Below W.heap.size W w
theorem RB.next {W w w' : World} {B M n n' : Nat} {f f' : Int} {cs : List Value} {e : Ending} (h : RB W w B M f n cs) (hp : RPo W.heap.size B f' n' w e w') : RB W w' B M f' n' cs :=
 ⟨hp.2.1, hp.2.2.2 _ _ _ (by rfl) h.mb h.m, h.mb, h.bel.trans hp.2.2.1⟩
theorem RB.alloc {W w : World} {B M n : Nat} {f : Int} {cs : List Value} (h : RB W w B M f n cs) (o : Obj) : RB W (w.alloc o) B M f n cs :=
 ⟨h.rf.below ((Below.refl _ _).alloc (Nat.le_refl _) _), h.m.below ((Below.refl _ _).alloc (Nat.le_refl _) _), h.mb, h.bel.alloc h.bel.size _⟩
theorem RB.below {W w w' : World} {B M n : Nat} {f : Int} {cs : List Value} (h : RB W w B M f n cs) (hb : Below w.heap.size w w') : RB W w' B M f n cs :=
 ⟨h.rf.below hb, h.m.below hb, h.mb, h.bel.trans (hb.mono h.bel.size)⟩
theorem RB.cast {W w : World} {B M n n' : Nat} {f f' : Int} {cs : List Value} (h : RB W w B M f n cs) (hf : f = f') (hn : n ≤ n') : RB W w B M f' n' cs := ⟨by rw [← hf]; exact h.rf.mono hn, h.m, h.mb, h.bel⟩
theorem X_next {W w w' : World} {B X n' : Nat} {f' : Int} {ty : TypeId} {cs : List Value} {e : Ending} (h : Blk w X ty cs) (hXB : X ≠ B) (ht : (ty == 31) = false) (hp : RPo W.heap.size B f' n' w e w') : Blk w' X ty cs := hp.2.2.2 _ _ _ ht hXB h
def cSig (y : D_api_Sig) : Nat := y.1.length + 1 + (y.2.1.length + 1)
def cImport (_ : D_api_Import) : Nat := 2
def cFunc (y : D_api_Func) : Nat := 1 + (y.2.1.length + 1) + 1
def cGlobal (_ : D_api_Global) : Nat := 3
def cExport (_ : D_api_Export) : Nat := 2
def cElem (y : D_api_Elem) : Nat := 2 + y.2.1.length
def cData (_ : D_api_Data) : Nat := 2
theorem eachE_eq {α : Type} (F : α → Int) (l : List α) (most b : Int) : orE (orE b (ndE (decide ((l.length : Int) ≤ most)) 2)) (foldE F l) = orE b (eachE F l most) := by unfold eachE; rw [orE_assoc]
theorem eachE_one (k : Int) : eachE fKind [k] 1 = fKind k := by
 show orE (ndE (decide ((1 : Int) ≤ 1)) 2) (orE (fKind k) 0) = _
 rw [orE_none]; rfl
theorem kind_one {w : World} {base B X : Nat} {k : Int} (hX : Blk w X 62 [.int .u8 k]) (hXB : X ≠ B) : ∀ w', Below base w w' → KeepF B w w' → Ints w' .u8 (.slice (some ⟨X, 0, none⟩) 1 1) [k] := by
 intro w' _ hk
 have h := hk _ _ _ (by rfl) hXB hX
 refine ⟨some ⟨X, 0, none⟩, 1, rfl, Nat.le_refl _, by decide, fun e => (by cases e), .inr ⟨X, 0, rfl, fun j hj => ?_⟩⟩
 obtain rfl : j = 0 := by simp at hj; omega
 exact h.cell (i := 0) rfl

set_option maxRecDepth 100000 in
set_option maxHeartbeats 40000000 in
theorem refCheck_any (W : World) (cs : List Value) (y : D_api_Module) (hM : MaxL W) (hR : R_api_Module W cs y)
  (hc1 : sumC cSig y.1 ≤ 4194304) (hc2 : sumC cImport y.2.1 ≤ 4194304) (hc3 : sumC cFunc y.2.2.1 ≤ 4194304) (hc4 : sumC cGlobal y.2.2.2.2.2.2.1 ≤ 4194304) (hc5 : sumC cExport y.2.2.2.2.2.2.2.1 ≤ 4194304) (hc6 : sumC cElem y.2.2.2.2.2.2.2.2.2.1 ≤ 4194304) (hc7 : sumC cData y.2.2.2.2.2.2.2.2.2.2.1 ≤ 4194304) :
  Calls Tryz.prog 32 #[.agg cs.toArray] W fun e w' => e = .returned (.int .i64 (fModule y)) ∧ Below W.heap.size W w' := by
 obtain ⟨_, _, rfl, h1, _, _, rfl, h2, _, _, rfl, h3, _, _, rfl, ⟨rfl, _⟩, _, _, rfl, ⟨rfl, _⟩, _, _, rfl, ⟨rfl, _⟩, _, _, rfl, h4, _, _, rfl, h5, _, _, rfl, ⟨rfl, _⟩, _, _, rfl, h6, _, _, rfl, h7, rfl⟩ := hR
 obtain ⟨u1, rfl⟩ := sl_one h1
 have K1 := hid h1
 obtain ⟨u2, rfl⟩ := sl_one h2
 have K2 := hid h2
 obtain ⟨u3, rfl⟩ := sl_one h3
 have K3 := hid h3
 obtain ⟨u4, rfl⟩ := sl_one h4
 have K4 := hid h4
 obtain ⟨u5, rfl⟩ := sl_one h5
 have K5 := hid h5
 obtain ⟨u6, rfl⟩ := sl_one h6
 have K6 := hid h6
 obtain ⟨u7, rfl⟩ := sl_one h7
 have K7 := hid h7
 obtain ⟨a1, k1, rfl, _, kc1, _⟩ := sl_shape h1
 obtain ⟨a2, k2, rfl, _, kc2, _⟩ := sl_shape h2
 obtain ⟨a3, k3, rfl, _, kc3, _⟩ := sl_shape h3
 obtain ⟨a4, k4, rfl, _, kc4, _⟩ := sl_shape h4
 obtain ⟨a5, k5, rfl, _, kc5, _⟩ := sl_shape h5
 obtain ⟨a6, k6, rfl, _, kc6, _⟩ := sl_shape h6
 obtain ⟨a7, k7, rfl, _, kc7, _⟩ := sl_shape h7
 clear h1 h2 h3 h4 h5 h6 h7
 have HC1 := hid hc1
 have HC2 := hid hc2
 have HC3 := hid hc3
 have HC4 := hid hc4
 have HC5 := hid hc5
 have HC6 := hid hc6
 have HC7 := hid hc7
 clear hc1 hc2 hc3 hc4 hc5 hc6 hc7
 have HML := hid (fun w' (hx : Below W.heap.size W w') => hM.below hx)
 clear hM
 have hl1 : (y.1.length : Int) ≤ 9223372036854775807 := by omega
 have hl2 : (y.2.1.length : Int) ≤ 9223372036854775807 := by omega
 have hl3 : (y.2.2.1.length : Int) ≤ 9223372036854775807 := by omega
 have hl4 : (y.2.2.2.2.2.2.1.length : Int) ≤ 9223372036854775807 := by omega
 have hl5 : (y.2.2.2.2.2.2.2.1.length : Int) ≤ 9223372036854775807 := by omega
 have hl6 : (y.2.2.2.2.2.2.2.2.2.1.length : Int) ≤ 9223372036854775807 := by omega
 have hl7 : (y.2.2.2.2.2.2.2.2.2.2.1.length : Int) ≤ 9223372036854775807 := by omega
 have K0 : RB W ((W.alloc (.cells #[.slice a1 y.1.length k1, .slice a2 y.2.1.length k2, .slice a3 y.2.2.1.length k3, .int .i64 y.2.2.2.1, .int .i64 y.2.2.2.2.1, .int .i64 y.2.2.2.2.2.1, .slice a4 y.2.2.2.2.2.2.1.length k4, .slice a5 y.2.2.2.2.2.2.2.1.length k5, .int .i64 y.2.2.2.2.2.2.2.2.1, .slice a6 y.2.2.2.2.2.2.2.2.2.1.length k6, .slice a7 y.2.2.2.2.2.2.2.2.2.2.1.length k7] 30)).alloc (.cells #[.slice none 0 0] 144)) (W.heap.size + 1) W.heap.size 0 0 [.slice a1 y.1.length k1, .slice a2 y.2.1.length k2, .slice a3 y.2.2.1.length k3, .int .i64 y.2.2.2.1, .int .i64 y.2.2.2.2.1, .int .i64 y.2.2.2.2.2.1, .slice a4 y.2.2.2.2.2.2.1.length k4, .slice a5 y.2.2.2.2.2.2.2.1.length k5, .int .i64 y.2.2.2.2.2.2.2.2.1, .slice a6 y.2.2.2.2.2.2.2.2.2.1.length k6, .slice a7 y.2.2.2.2.2.2.2.2.2.2.1.length k7] := by
  have b1 := (Below.refl W.heap.size W).alloc (Nat.le_refl _) (.cells #[.slice a1 y.1.length k1, .slice a2 y.2.1.length k2, .slice a3 y.2.2.1.length k3, .int .i64 y.2.2.2.1, .int .i64 y.2.2.2.2.1, .int .i64 y.2.2.2.2.2.1, .slice a4 y.2.2.2.2.2.2.1.length k4, .slice a5 y.2.2.2.2.2.2.2.1.length k5, .int .i64 y.2.2.2.2.2.2.2.2.1, .slice a6 y.2.2.2.2.2.2.2.2.2.1.length k6, .slice a7 y.2.2.2.2.2.2.2.2.2.2.1.length k7] 30)
  have hm := Blk.new W #[.slice a1 y.1.length k1, .slice a2 y.2.1.length k2, .slice a3 y.2.2.1.length k3, .int .i64 y.2.2.2.1, .int .i64 y.2.2.2.2.1, .int .i64 y.2.2.2.2.2.1, .slice a4 y.2.2.2.2.2.2.1.length k4, .slice a5 y.2.2.2.2.2.2.2.1.length k5, .int .i64 y.2.2.2.2.2.2.2.2.1, .slice a6 y.2.2.2.2.2.2.2.2.2.1.length k6, .slice a7 y.2.2.2.2.2.2.2.2.2.2.1.length k7] 30 _ rfl
  have hf := Blk.new (W.alloc (.cells #[.slice a1 y.1.length k1, .slice a2 y.2.1.length k2, .slice a3 y.2.2.1.length k3, .int .i64 y.2.2.2.1, .int .i64 y.2.2.2.2.1, .int .i64 y.2.2.2.2.2.1, .slice a4 y.2.2.2.2.2.2.1.length k4, .slice a5 y.2.2.2.2.2.2.2.1.length k5, .int .i64 y.2.2.2.2.2.2.2.2.1, .slice a6 y.2.2.2.2.2.2.2.2.2.1.length k6, .slice a7 y.2.2.2.2.2.2.2.2.2.2.1.length k7] 30)) #[.slice none 0 0] 144 (W.heap.size + 1) (by simp)
  exact ⟨⟨⟨[], ⟨by omega, ⟨_, hf, OwnI.nil _ _ _ _⟩, by simp; omega⟩, rfl, (fun _ h => by cases h), Nat.le_refl _⟩⟩, hm.below ((Below.refl _ _).alloc (Nat.le_refl _) _), by omega, b1.alloc (by simp) _⟩
 have R0 := hid K0
 clear K0
 go_enter Tryz.func32, Tryz.ntmps32
 by_cases hpg : y.2.2.2.2.1 < 0
 ·have hd : decide (y.2.2.2.2.1 < 0) = true := decide_eq_true hpg
  have HPQ := hid (show bdE true 1 = ndE (okPg y.2.2.2.2.1 y.2.2.2.2.2.1) 1 from by
   unfold okPg; rw [decide_eq_false (by omega)]; rfl)
  clear hpg
  have m0 := R0.out.m.cell (i := 0) rfl
  go_wp2_with fail
  clear m0
  refine (rad_any _ _ (W.heap.size + 1) (0) _ 2 (decide ((16 : Int) < (y.1.length : Int))) (fun _ => by decide) (by have := HC1.out; have := HC2.out; have := HC3.out; have := HC4.out; have := HC5.out; have := HC6.out; have := HC7.out; omega) R0.out.rf).mono ?_
  rintro r w1 hp
  have R1x := R0.out.next hp
  rw [gt_le] at R1x
  obtain ⟨rfl, -⟩ := hp
  obtain ⟨b1, hb1⟩ : ∃ b, orE 0 (ndE (decide ((y.1.length : Int) ≤ 16)) 2) = b := ⟨_, rfl⟩
  rw [hb1] at R1x
  have HB1 := hid hb1
  have R1 := hid R1x
  clear hb1 R1x
  have m0 := R1.out.m.cell (i := 0) rfl
  go_wp2_with fail
  clear m0
  go_loopw [5, 28] (fun _ i wr => ∃ k : Nat, k ≤ y.1.length ∧ i = .int .i64 k ∧ Hid (RB W wr (W.heap.size + 1) W.heap.size (orE b1 (foldE fSig (y.1.take k))) (0 + 1 + sumC cSig (y.1.take k)) [.slice a1 y.1.length k1, .slice a2 y.2.1.length k2, .slice a3 y.2.2.1.length k3, .int .i64 y.2.2.2.1, .int .i64 y.2.2.2.2.1, .int .i64 y.2.2.2.2.2.1, .slice a4 y.2.2.2.2.2.2.1.length k4, .slice a5 y.2.2.2.2.2.2.2.1.length k5, .int .i64 y.2.2.2.2.2.2.2.2.1, .slice a6 y.2.2.2.2.2.2.2.2.2.1.length k6, .slice a7 y.2.2.2.2.2.2.2.2.2.2.1.length k7])) (fun _ i _ => y.1.length - (RowKit.intOf i).toNat)
  case atStart => exact ⟨0, Nat.zero_le _, rfl, hid (R1.out.cast (orE_none b1).symm (by omega))⟩
  case round =>
   obtain ⟨k, hk, rfl, LL⟩ := hrel
   by_cases hlt : k < y.1.length
   ·obtain ⟨lb, lo, cap', cs, hv, hc9, hc8, _, hR, hcc⟩ := sliceR_at K1.out (by decide) k hlt
    simp only [Value.slice.injEq] at hv
    obtain ⟨rfl, -, rfl⟩ := hv
    have HNX := hid (foldE_next fSig y.1 k hlt b1)
    have HCX := hid (sumC_next cSig y.1 k hlt)
    have HCL := hid (sumC_le cSig y.1 (k + 1))
    generalize hcur : orE b1 (foldE fSig (y.1.take k)) = cur at *
    generalize y.1[k] = z at *
    clear hcur
    have HBW := hid LL.out.bel
    have HRK := hid hR
    obtain ⟨_, _, rfl, g1, _, _, rfl, g2, rfl⟩ := hR
    obtain ⟨q1, rfl⟩ := sl_one g1
    have Jq1 := hid (kinds_of g1)
    obtain ⟨e1, d1, rfl, _, _, _⟩ := sl_shape g1
    obtain ⟨q2, rfl⟩ := sl_one g2
    have Jq2 := hid (kinds_of g2)
    obtain ⟨e2, d2, rfl, _, _, _⟩ := sl_shape g2
    clear g1 g2
    have y0 : wr.cell? ⟨lb, lo + k * 2, none⟩ = some (.slice e1 z.1.length d1) := hcc wr HBW.out 0 (by decide)
    have y1 : wr.cell? ⟨lb, lo + k * 2 + 1, none⟩ = some (.slice e2 z.2.1.length d2) := hcc wr HBW.out 1 (by decide)
    clear hcc
    have XB := hid (show wr.heap.size ≠ (W.heap.size + 1) from fun e => by have := LL.out.rf.lt; omega)
    have XA0 := hid (Blk.new wr #[.slice e1 z.1.length d1, .slice e2 z.2.1.length d2] 47 _ rfl)
    have RA0 := hid (LL.out.alloc (.cells #[.slice e1 z.1.length d1, .slice e2 z.2.1.length d2] 47))
    have HN0 := hid (show 0 + 1 + sumC cSig (y.1.take k) + cSig z ≤ 1000000000 from by have h0 := HCX.out; have := HCL.out; have := HC1.out; have := HC2.out; have := HC3.out; have := HC4.out; have := HC5.out; have := HC6.out; have := HC7.out; omega)
    have HN1 := hid (show (0 + 1 + sumC cSig (y.1.take k)) + cSig z = 0 + 1 + sumC cSig (y.1.take (k + 1)) from by have h0 := HCX.out; omega)
    generalize (0 + 1 + sumC cSig (y.1.take k)) = nk at LL RA0 HN0 HN1
    go_wp2_with fail
    refine (rkinds_any _ W.heap.size (W.heap.size + 1) nk cur _ z.1 4 (fun w' hb _ => L1.below Jq1.out (RA0.out.bel.trans hb)) (by have h0 := HN0.out; unfold cSig at h0; omega) RA0.out.rf).mono ?_
    rintro r v1 hp
    have RA1 := hid (RA0.out.next hp)
    have XA1 := hid (X_next XA0.out XB.out (by rfl) hp)
    obtain ⟨rfl, -⟩ := hp
    have x1 := XA1.out.cell (i := 1) rfl
    go_wp2_with fail
    clear x1
    refine (rkinds_any _ W.heap.size (W.heap.size + 1) _ (orE cur (eachE fKind z.1 4)) _ z.2.1 1 (fun w' hb _ => L1.below Jq2.out (RA1.out.bel.trans hb)) (by have h0 := HN0.out; unfold cSig at h0; omega) RA1.out.rf).mono ?_
    rintro r v2 hp
    have RA2 := hid (RA1.out.next hp)
    have XA2 := hid (X_next XA1.out XB.out (by rfl) hp)
    obtain ⟨rfl, -⟩ := hp
    go_wp2_with fail
    go_roundw
    case rel => exact ⟨k + 1, by omega, by go_num, hid (RA2.out.cast (by rw [← HNX.out]; unfold fSig; rw [← orE_assoc]) (by have h0 := HN1.out; have h1 : cSig z = z.1.length + 1 + (z.2.1.length + 1) := rfl; first | omega | (simp only [List.length_cons, List.length_nil]; omega)))⟩
    case measure => simp [RowKit.intOf]; omega
   ·obtain rfl : k = y.1.length := by omega
    have R2x := LL.out
    rw [foldE_full fSig y.1 b1, List.take_length] at R2x
    obtain ⟨b2, hb2⟩ : ∃ b, orE b1 (foldE fSig y.1) = b := ⟨_, rfl⟩
    rw [hb2] at R2x
    have HB2 := hid hb2
    have R2 := hid R2x
    clear hb2 R2x LL hk
    have m1 := R2.out.m.cell (i := 1) rfl
    go_wp2_with fail
    clear m1
    refine (rad_any _ _ (W.heap.size + 1) (0 + 1 + sumC cSig y.1) _ 2 (decide ((16 : Int) < (y.2.1.length : Int))) (fun _ => by decide) (by have := HC1.out; have := HC2.out; have := HC3.out; have := HC4.out; have := HC5.out; have := HC6.out; have := HC7.out; omega) R2.out.rf).mono ?_
    rintro r w3 hp
    have R3x := R2.out.next hp
    rw [gt_le] at R3x
    obtain ⟨rfl, -⟩ := hp
    obtain ⟨b3, hb3⟩ : ∃ b, orE b2 (ndE (decide ((y.2.1.length : Int) ≤ 16)) 2) = b := ⟨_, rfl⟩
    rw [hb3] at R3x
    have HB3 := hid hb3
    have R3 := hid R3x
    clear hb3 R3x
    have m1 := R3.out.m.cell (i := 1) rfl
    go_wp2_with fail
    clear m1
    go_loopw [7, 47] (fun _ i wr => ∃ k : Nat, k ≤ y.2.1.length ∧ i = .int .i64 k ∧ Hid (RB W wr (W.heap.size + 1) W.heap.size (orE b3 (foldE fImport (y.2.1.take k))) (0 + 1 + sumC cSig y.1 + 1 + sumC cImport (y.2.1.take k)) [.slice a1 y.1.length k1, .slice a2 y.2.1.length k2, .slice a3 y.2.2.1.length k3, .int .i64 y.2.2.2.1, .int .i64 y.2.2.2.2.1, .int .i64 y.2.2.2.2.2.1, .slice a4 y.2.2.2.2.2.2.1.length k4, .slice a5 y.2.2.2.2.2.2.2.1.length k5, .int .i64 y.2.2.2.2.2.2.2.2.1, .slice a6 y.2.2.2.2.2.2.2.2.2.1.length k6, .slice a7 y.2.2.2.2.2.2.2.2.2.2.1.length k7])) (fun _ i _ => y.2.1.length - (RowKit.intOf i).toNat)
    case atStart => exact ⟨0, Nat.zero_le _, rfl, hid (R3.out.cast (orE_none b3).symm (by omega))⟩
    case round =>
     obtain ⟨k, hk, rfl, LL⟩ := hrel
     by_cases hlt : k < y.2.1.length
     ·obtain ⟨lb, lo, cap', cs, hv, hc9, hc8, _, hR, hcc⟩ := sliceR_at K2.out (by decide) k hlt
      simp only [Value.slice.injEq] at hv
      obtain ⟨rfl, -, rfl⟩ := hv
      have HNX := hid (foldE_next fImport y.2.1 k hlt b3)
      have HCX := hid (sumC_next cImport y.2.1 k hlt)
      have HCL := hid (sumC_le cImport y.2.1 (k + 1))
      generalize hcur : orE b3 (foldE fImport (y.2.1.take k)) = cur at *
      generalize y.2.1[k] = z at *
      clear hcur
      have HBW := hid LL.out.bel
      have HRK := hid hR
      obtain ⟨_, _, rfl, ⟨rfl, hs⟩, _, _, rfl, ⟨rfl, _⟩, rfl⟩ := hR
      have HSZ := hid hs
      clear hs
      have y0 : wr.cell? ⟨lb, lo + k * 2, none⟩ = some (.string z.1) := hcc wr HBW.out 0 (by decide)
      have y1 : wr.cell? ⟨lb, lo + k * 2 + 1, none⟩ = some (.int .i64 z.2.1) := hcc wr HBW.out 1 (by decide)
      clear hcc
      have XB := hid (show wr.heap.size ≠ (W.heap.size + 1) from fun e => by have := LL.out.rf.lt; omega)
      have XA0 := hid (Blk.new wr #[.string z.1, .int .i64 z.2.1] 52 _ rfl)
      have RA0 := hid (LL.out.alloc (.cells #[.string z.1, .int .i64 z.2.1] 52))
      have HN0 := hid (show 0 + 1 + sumC cSig y.1 + 1 + sumC cImport (y.2.1.take k) + cImport z ≤ 1000000000 from by have h0 := HCX.out; have := HCL.out; have := HC1.out; have := HC2.out; have := HC3.out; have := HC4.out; have := HC5.out; have := HC6.out; have := HC7.out; omega)
      have HN1 := hid (show (0 + 1 + sumC cSig y.1 + 1 + sumC cImport (y.2.1.take k)) + cImport z = 0 + 1 + sumC cSig y.1 + 1 + sumC cImport (y.2.1.take (k + 1)) from by have h0 := HCX.out; omega)
      generalize (0 + 1 + sumC cSig y.1 + 1 + sumC cImport (y.2.1.take k)) = nk at LL RA0 HN0 HN1
      go_wp2_with fail
      refine (rnm_any _ W.heap.size (W.heap.size + 1) nk cur z.1 HSZ.out (by have h0 := HN0.out; unfold cImport at h0; omega) RA0.out.rf RA0.out.rf.base).mono ?_
      rintro r v1 hp
      have RA1 := hid (RA0.out.next hp)
      have XA1 := hid (X_next XA0.out XB.out (by rfl) hp)
      obtain ⟨rfl, -⟩ := hp
      have x1 := XA1.out.cell (i := 1) rfl
      go_wp2_with fail
      clear x1
      refine (ridx_any _ W.heap.size (W.heap.size + 1) (nk + 1) (orE cur (nameE z.1)) z.2.1 (by have h0 := HN0.out; unfold cImport at h0; omega) RA1.out.rf).mono ?_
      rintro r v2 hp
      have RA2 := hid (RA1.out.next hp)
      have XA2 := hid (X_next XA1.out XB.out (by rfl) hp)
      obtain ⟨rfl, -⟩ := hp
      go_wp2_with fail
      go_roundw
      case rel => exact ⟨k + 1, by omega, by go_num, hid (RA2.out.cast (by rw [← HNX.out]; unfold fImport; rw [← orE_assoc]) (by have h0 := HN1.out; have h1 : cImport z = 2 := rfl; first | omega | (simp only [List.length_cons, List.length_nil]; omega)))⟩
      case measure => simp [RowKit.intOf]; omega
     ·obtain rfl : k = y.2.1.length := by omega
      have R4x := LL.out
      rw [foldE_full fImport y.2.1 b3, List.take_length] at R4x
      obtain ⟨b4, hb4⟩ : ∃ b, orE b3 (foldE fImport y.2.1) = b := ⟨_, rfl⟩
      rw [hb4] at R4x
      have HB4 := hid hb4
      have R4 := hid R4x
      clear hb4 R4x LL hk
      have m2 := R4.out.m.cell (i := 2) rfl
      go_wp2_with fail
      clear m2
      refine (rad_any _ _ (W.heap.size + 1) (0 + 1 + sumC cSig y.1 + 1 + sumC cImport y.2.1) _ 2 (decide ((16 : Int) < (y.2.2.1.length : Int))) (fun _ => by decide) (by have := HC1.out; have := HC2.out; have := HC3.out; have := HC4.out; have := HC5.out; have := HC6.out; have := HC7.out; omega) R4.out.rf).mono ?_
      rintro r w5 hp
      have R5x := R4.out.next hp
      rw [gt_le] at R5x
      obtain ⟨rfl, -⟩ := hp
      obtain ⟨b5, hb5⟩ : ∃ b, orE b4 (ndE (decide ((y.2.2.1.length : Int) ≤ 16)) 2) = b := ⟨_, rfl⟩
      rw [hb5] at R5x
      have HB5 := hid hb5
      have R5 := hid R5x
      clear hb5 R5x
      have m2 := R5.out.m.cell (i := 2) rfl
      go_wp2_with fail
      clear m2
      go_loopw [9, 66] (fun _ i wr => ∃ k : Nat, k ≤ y.2.2.1.length ∧ i = .int .i64 k ∧ Hid (RB W wr (W.heap.size + 1) W.heap.size (orE b5 (foldE fFunc (y.2.2.1.take k))) (0 + 1 + sumC cSig y.1 + 1 + sumC cImport y.2.1 + 1 + sumC cFunc (y.2.2.1.take k)) [.slice a1 y.1.length k1, .slice a2 y.2.1.length k2, .slice a3 y.2.2.1.length k3, .int .i64 y.2.2.2.1, .int .i64 y.2.2.2.2.1, .int .i64 y.2.2.2.2.2.1, .slice a4 y.2.2.2.2.2.2.1.length k4, .slice a5 y.2.2.2.2.2.2.2.1.length k5, .int .i64 y.2.2.2.2.2.2.2.2.1, .slice a6 y.2.2.2.2.2.2.2.2.2.1.length k6, .slice a7 y.2.2.2.2.2.2.2.2.2.2.1.length k7])) (fun _ i _ => y.2.2.1.length - (RowKit.intOf i).toNat)
      case atStart => exact ⟨0, Nat.zero_le _, rfl, hid (R5.out.cast (orE_none b5).symm (by omega))⟩
      case round =>
       obtain ⟨k, hk, rfl, LL⟩ := hrel
       by_cases hlt : k < y.2.2.1.length
       ·obtain ⟨lb, lo, cap', cs, hv, hc9, hc8, _, hR, hcc⟩ := sliceR_at K3.out (by decide) k hlt
        simp only [Value.slice.injEq] at hv
        obtain ⟨rfl, -, rfl⟩ := hv
        have HNX := hid (foldE_next fFunc y.2.2.1 k hlt b5)
        have HCX := hid (sumC_next cFunc y.2.2.1 k hlt)
        have HCL := hid (sumC_le cFunc y.2.2.1 (k + 1))
        generalize hcur : orE b5 (foldE fFunc (y.2.2.1.take k)) = cur at *
        generalize y.2.2.1[k] = z at *
        clear hcur
        have HBW := hid LL.out.bel
        have HRK := hid hR
        obtain ⟨_, _, rfl, ⟨rfl, _⟩, _, _, rfl, g1, _, _, rfl, g2, rfl⟩ := hR
        obtain ⟨q1, rfl⟩ := sl_one g1
        have Jq1 := hid (kinds_of g1)
        obtain ⟨e1, d1, rfl, _, _, _⟩ := sl_shape g1
        obtain ⟨q2, rfl⟩ := sl_one g2
        have HBO := hid (body_of g2)
        obtain ⟨e2, d2, rfl, _, _, _⟩ := sl_shape g2
        clear g1 g2
        have y0 : wr.cell? ⟨lb, lo + k * 3, none⟩ = some (.int .i64 z.1) := hcc wr HBW.out 0 (by decide)
        have y1 : wr.cell? ⟨lb, lo + k * 3 + 1, none⟩ = some (.slice e1 z.2.1.length d1) := hcc wr HBW.out 1 (by decide)
        have y2 : wr.cell? ⟨lb, lo + k * 3 + 2, none⟩ = some (.slice e2 z.2.2.1.length d2) := hcc wr HBW.out 2 (by decide)
        clear hcc
        have XB := hid (show wr.heap.size ≠ (W.heap.size + 1) from fun e => by have := LL.out.rf.lt; omega)
        have XA0 := hid (Blk.new wr #[.int .i64 z.1, .slice e1 z.2.1.length d1, .slice e2 z.2.2.1.length d2] 59 _ rfl)
        have RA0 := hid (LL.out.alloc (.cells #[.int .i64 z.1, .slice e1 z.2.1.length d1, .slice e2 z.2.2.1.length d2] 59))
        have HN0 := hid (show 0 + 1 + sumC cSig y.1 + 1 + sumC cImport y.2.1 + 1 + sumC cFunc (y.2.2.1.take k) + cFunc z ≤ 1000000000 from by have h0 := HCX.out; have := HCL.out; have := HC1.out; have := HC2.out; have := HC3.out; have := HC4.out; have := HC5.out; have := HC6.out; have := HC7.out; omega)
        have HN1 := hid (show (0 + 1 + sumC cSig y.1 + 1 + sumC cImport y.2.1 + 1 + sumC cFunc (y.2.2.1.take k)) + cFunc z = 0 + 1 + sumC cSig y.1 + 1 + sumC cImport y.2.1 + 1 + sumC cFunc (y.2.2.1.take (k + 1)) from by have h0 := HCX.out; omega)
        generalize (0 + 1 + sumC cSig y.1 + 1 + sumC cImport y.2.1 + 1 + sumC cFunc (y.2.2.1.take k)) = nk at LL RA0 HN0 HN1
        go_wp2_with fail
        refine (ridx_any _ W.heap.size (W.heap.size + 1) nk cur z.1 (by have h0 := HN0.out; unfold cFunc at h0; omega) RA0.out.rf).mono ?_
        rintro r v1 hp
        have RA1 := hid (RA0.out.next hp)
        have XA1 := hid (X_next XA0.out XB.out (by rfl) hp)
        obtain ⟨rfl, -⟩ := hp
        have x1 := XA1.out.cell (i := 1) rfl
        go_wp2_with fail
        clear x1
        refine (rkinds_any _ W.heap.size (W.heap.size + 1) (nk + 1) (orE cur (fIdx z.1)) _ z.2.1 16 (fun w' hb _ => L1.below Jq1.out (RA1.out.bel.trans hb)) (by have h0 := HN0.out; unfold cFunc at h0; omega) RA1.out.rf).mono ?_
        rintro r v2 hp
        have RA2 := hid (RA1.out.next hp)
        have XA2 := hid (X_next XA1.out XB.out (by rfl) hp)
        obtain ⟨rfl, -⟩ := hp
        have x2 := XA2.out.cell (i := 2) rfl
        go_wp2_with fail
        clear x2
        refine (rncheck_any _ _ (z.2.2.1.map itOf) HBO.out.2 (HBO.out.1.below RA2.out.bel) (HML.out _ RA2.out.bel)).mono ?_
        rintro r v9 ⟨rfl, hb9⟩
        have RA9 := hid (RA2.out.below hb9)
        have XA9 := hid (XA2.out.below hb9)
        clear hb9
        go_wp2_with fail
        refine (rsays_any _ W.heap.size (W.heap.size + 1) _ (orE (orE cur (fIdx z.1)) (eachE fKind z.2.1 16)) (ncM (z.2.2.1.map itOf)) (by have h0 := HN0.out; unfold cFunc at h0; omega) RA9.out.rf).mono ?_
        rintro r v3 hp
        have RA3 := hid (RA9.out.next hp)
        have XA3 := hid (X_next XA9.out XB.out (by rfl) hp)
        obtain ⟨rfl, -⟩ := hp
        go_wp2_with fail
        go_roundw
        case rel => exact ⟨k + 1, by omega, by go_num, hid (RA3.out.cast (by rw [← HNX.out]; unfold fFunc; rw [← orE_assoc, ← orE_assoc]) (by have h0 := HN1.out; have h1 : cFunc z = 1 + (z.2.1.length + 1) + 1 := rfl; first | omega | (simp only [List.length_cons, List.length_nil]; omega)))⟩
        case measure => simp [RowKit.intOf]; omega
       ·obtain rfl : k = y.2.2.1.length := by omega
        have R6x := LL.out
        rw [foldE_full fFunc y.2.2.1 b5, List.take_length] at R6x
        obtain ⟨b6, hb6⟩ : ∃ b, orE b5 (foldE fFunc y.2.2.1) = b := ⟨_, rfl⟩
        rw [hb6] at R6x
        have HB6 := hid hb6
        have R6 := hid R6x
        clear hb6 R6x LL hk
        have m3 := R6.out.m.cell (i := 3) rfl
        go_wp2_with fail
        clear m3
        refine (rad_any _ _ (W.heap.size + 1) (0 + 1 + sumC cSig y.1 + 1 + sumC cImport y.2.1 + 1 + sumC cFunc y.2.2.1) _ 1 (decide (y.2.2.2.1 < 0)) (fun _ => by decide) (by have := HC1.out; have := HC2.out; have := HC3.out; have := HC4.out; have := HC5.out; have := HC6.out; have := HC7.out; omega) R6.out.rf).mono ?_
        rintro r w7 hp
        have R7x := R6.out.next hp
        rw [gt_le] at R7x
        obtain ⟨rfl, -⟩ := hp
        obtain ⟨b7, hb7⟩ : ∃ b, orE b6 (ndE (decide (0 ≤ y.2.2.2.1)) 1) = b := ⟨_, rfl⟩
        rw [hb7] at R7x
        have HB7 := hid hb7
        have R7 := hid R7x
        clear hb7 R7x
        have m3 := R7.out.m.cell (i := 3) rfl
        go_wp2_with fail
        clear m3
        refine (rad_any _ _ (W.heap.size + 1) (0 + 1 + sumC cSig y.1 + 1 + sumC cImport y.2.1 + 1 + sumC cFunc y.2.2.1 + 1) _ 2 (decide ((16 : Int) < y.2.2.2.1)) (fun _ => by decide) (by have := HC1.out; have := HC2.out; have := HC3.out; have := HC4.out; have := HC5.out; have := HC6.out; have := HC7.out; omega) R7.out.rf).mono ?_
        rintro r w8 hp
        have R8x := R7.out.next hp
        rw [gt_le] at R8x
        obtain ⟨rfl, -⟩ := hp
        obtain ⟨b8, hb8⟩ : ∃ b, orE b7 (ndE (decide (y.2.2.2.1 ≤ 16)) 2) = b := ⟨_, rfl⟩
        rw [hb8] at R8x
        have HB8 := hid hb8
        have R8 := hid R8x
        clear hb8 R8x
        have m4 := R8.out.m.cell (i := 4) rfl
        have m5 := R8.out.m.cell (i := 5) rfl
        go_wp2_with fail
        clear m4 m5
        refine (rad_any _ _ (W.heap.size + 1) (0 + 1 + sumC cSig y.1 + 1 + sumC cImport y.2.1 + 1 + sumC cFunc y.2.2.1 + 1 + 1) _ 1 true (fun _ => by decide) (by have := HC1.out; have := HC2.out; have := HC3.out; have := HC4.out; have := HC5.out; have := HC6.out; have := HC7.out; omega) R8.out.rf).mono ?_
        rintro r w9 hp
        have R9x := R8.out.next hp
        rw [HPQ.out] at R9x
        obtain ⟨rfl, -⟩ := hp
        obtain ⟨b9, hb9⟩ : ∃ b, orE b8 (ndE (okPg y.2.2.2.2.1 y.2.2.2.2.2.1) 1) = b := ⟨_, rfl⟩
        rw [hb9] at R9x
        have HB9 := hid hb9
        have R9 := hid R9x
        clear hb9 R9x
        have m5 := R9.out.m.cell (i := 5) rfl
        go_wp2_with fail
        clear m5
        refine (rad_any _ _ (W.heap.size + 1) (0 + 1 + sumC cSig y.1 + 1 + sumC cImport y.2.1 + 1 + sumC cFunc y.2.2.1 + 1 + 1 + 1) _ 2 (decide ((8 : Int) < y.2.2.2.2.2.1)) (fun _ => by decide) (by have := HC1.out; have := HC2.out; have := HC3.out; have := HC4.out; have := HC5.out; have := HC6.out; have := HC7.out; omega) R9.out.rf).mono ?_
        rintro r w10 hp
        have R10x := R9.out.next hp
        rw [gt_le] at R10x
        obtain ⟨rfl, -⟩ := hp
        obtain ⟨b10, hb10⟩ : ∃ b, orE b9 (ndE (decide (y.2.2.2.2.2.1 ≤ 8)) 2) = b := ⟨_, rfl⟩
        rw [hb10] at R10x
        have HB10 := hid hb10
        have R10 := hid R10x
        clear hb10 R10x
        have m6 := R10.out.m.cell (i := 6) rfl
        go_wp2_with fail
        clear m6
        refine (rad_any _ _ (W.heap.size + 1) (0 + 1 + sumC cSig y.1 + 1 + sumC cImport y.2.1 + 1 + sumC cFunc y.2.2.1 + 1 + 1 + 1 + 1) _ 2 (decide ((8 : Int) < (y.2.2.2.2.2.2.1.length : Int))) (fun _ => by decide) (by have := HC1.out; have := HC2.out; have := HC3.out; have := HC4.out; have := HC5.out; have := HC6.out; have := HC7.out; omega) R10.out.rf).mono ?_
        rintro r w11 hp
        have R11x := R10.out.next hp
        rw [gt_le] at R11x
        obtain ⟨rfl, -⟩ := hp
        obtain ⟨b11, hb11⟩ : ∃ b, orE b10 (ndE (decide ((y.2.2.2.2.2.2.1.length : Int) ≤ 8)) 2) = b := ⟨_, rfl⟩
        rw [hb11] at R11x
        have HB11 := hid hb11
        have R11 := hid R11x
        clear hb11 R11x
        have m6 := R11.out.m.cell (i := 6) rfl
        go_wp2_with fail
        clear m6
        go_loopw [11, 112] (fun _ i wr => ∃ k : Nat, k ≤ y.2.2.2.2.2.2.1.length ∧ i = .int .i64 k ∧ Hid (RB W wr (W.heap.size + 1) W.heap.size (orE b11 (foldE fGlobal (y.2.2.2.2.2.2.1.take k))) (0 + 1 + sumC cSig y.1 + 1 + sumC cImport y.2.1 + 1 + sumC cFunc y.2.2.1 + 1 + 1 + 1 + 1 + 1 + sumC cGlobal (y.2.2.2.2.2.2.1.take k)) [.slice a1 y.1.length k1, .slice a2 y.2.1.length k2, .slice a3 y.2.2.1.length k3, .int .i64 y.2.2.2.1, .int .i64 y.2.2.2.2.1, .int .i64 y.2.2.2.2.2.1, .slice a4 y.2.2.2.2.2.2.1.length k4, .slice a5 y.2.2.2.2.2.2.2.1.length k5, .int .i64 y.2.2.2.2.2.2.2.2.1, .slice a6 y.2.2.2.2.2.2.2.2.2.1.length k6, .slice a7 y.2.2.2.2.2.2.2.2.2.2.1.length k7])) (fun _ i _ => y.2.2.2.2.2.2.1.length - (RowKit.intOf i).toNat)
        case atStart => exact ⟨0, Nat.zero_le _, rfl, hid (R11.out.cast (orE_none b11).symm (by omega))⟩
        case round =>
         obtain ⟨k, hk, rfl, LL⟩ := hrel
         by_cases hlt : k < y.2.2.2.2.2.2.1.length
         ·obtain ⟨lb, lo, cap', cs, hv, hc9, hc8, _, hR, hcc⟩ := sliceR_at K4.out (by decide) k hlt
          simp only [Value.slice.injEq] at hv
          obtain ⟨rfl, -, rfl⟩ := hv
          have HNX := hid (foldE_next fGlobal y.2.2.2.2.2.2.1 k hlt b11)
          have HCX := hid (sumC_next cGlobal y.2.2.2.2.2.2.1 k hlt)
          have HCL := hid (sumC_le cGlobal y.2.2.2.2.2.2.1 (k + 1))
          generalize hcur : orE b11 (foldE fGlobal (y.2.2.2.2.2.2.1.take k)) = cur at *
          generalize y.2.2.2.2.2.2.1[k] = z at *
          clear hcur
          have HBW := hid LL.out.bel
          have HRK := hid hR
          obtain ⟨zk, zm, zn, zu⟩ := z
          obtain ⟨_, _, rfl, ⟨rfl, _⟩, _, _, rfl, rfl, _, _, rfl, ⟨rfl, _⟩, rfl⟩ := hR
          have y0 : wr.cell? ⟨lb, lo + k * 3, none⟩ = some (.int .u8 zk) := hcc wr HBW.out 0 (by decide)
          have y1 : wr.cell? ⟨lb, lo + k * 3 + 1, none⟩ = some (.bool zm) := hcc wr HBW.out 1 (by decide)
          have y2 : wr.cell? ⟨lb, lo + k * 3 + 2, none⟩ = some (.int .i64 zn) := hcc wr HBW.out 2 (by decide)
          clear hcc
          have XB := hid (show wr.heap.size ≠ (W.heap.size + 1) from fun e => by have := LL.out.rf.lt; omega)
          have XA0 := hid (Blk.new wr #[.int .u8 zk, .bool zm, .int .i64 zn] 64 _ rfl)
          have RA0 := hid (LL.out.alloc (.cells #[.int .u8 zk, .bool zm, .int .i64 zn] 64))
          have HN0 := hid (show 0 + 1 + sumC cSig y.1 + 1 + sumC cImport y.2.1 + 1 + sumC cFunc y.2.2.1 + 1 + 1 + 1 + 1 + 1 + sumC cGlobal (y.2.2.2.2.2.2.1.take k) + cGlobal (zk, zm, zn, zu) ≤ 1000000000 from by have h0 := HCX.out; have := HCL.out; have := HC1.out; have := HC2.out; have := HC3.out; have := HC4.out; have := HC5.out; have := HC6.out; have := HC7.out; omega)
          have HN1 := hid (show (0 + 1 + sumC cSig y.1 + 1 + sumC cImport y.2.1 + 1 + sumC cFunc y.2.2.1 + 1 + 1 + 1 + 1 + 1 + sumC cGlobal (y.2.2.2.2.2.2.1.take k)) + cGlobal (zk, zm, zn, zu) = 0 + 1 + sumC cSig y.1 + 1 + sumC cImport y.2.1 + 1 + sumC cFunc y.2.2.1 + 1 + 1 + 1 + 1 + 1 + sumC cGlobal (y.2.2.2.2.2.2.1.take (k + 1)) from by have h0 := HCX.out; omega)
          generalize (0 + 1 + sumC cSig y.1 + 1 + sumC cImport y.2.1 + 1 + sumC cFunc y.2.2.1 + 1 + 1 + 1 + 1 + 1 + sumC cGlobal (y.2.2.2.2.2.2.1.take k)) = nk at LL RA0 HN0 HN1
          have RA0b := hid (RA0.out.alloc (.cells #[.int .u8 zk] 62))
          have XA0b := hid (XA0.out.below ((Below.refl _ _).alloc (Nat.le_refl _) (.cells #[.int .u8 zk] 62)))
          have XK := hid (Blk.new (wr.alloc (.cells #[.int .u8 zk, .bool zm, .int .i64 zn] 64)) #[.int .u8 zk] 62 (wr.heap.size + 1) (by simp))
          have XKB := hid (show wr.heap.size + 1 ≠ (W.heap.size + 1) from fun e => by have := LL.out.rf.lt; omega)
          go_wp2_with fail
          refine (rkinds_any _ W.heap.size (W.heap.size + 1) nk cur _ [zk] 1 (kind_one XK.out XKB.out) (by have h0 := HN0.out; unfold cGlobal at h0; simp only [List.length_cons, List.length_nil]; omega) RA0b.out.rf).mono ?_
          rintro r v1 hp
          have RA1 := hid (RA0b.out.next hp)
          have XA1 := hid (X_next XA0b.out XB.out (by rfl) hp)
          obtain ⟨rfl, -⟩ := hp
          rw [eachE_one] at RA1
          rcases (show (zk = 127 ∧ zn < -2147483648) ∨ (zk = 127 ∧ ¬ zn < -2147483648 ∧ 2147483647 < zn) ∨ (zk = 127 ∧ ¬ zn < -2147483648 ∧ ¬ 2147483647 < zn) ∨ ¬ zk = 127 from by omega) with ⟨rfl, g1⟩ | ⟨rfl, g1, g2⟩ | ⟨rfl, g1, g2⟩ | g1
          ·have HOK := hid (show okG 127 zn = false from by unfold okG; first | exact decide_eq_true (by omega) | exact decide_eq_false (by omega))
           have d1 : decide (zn < -2147483648) = true := decide_eq_true g1
           have x0 := XA1.out.cell (i := 0) rfl
           have x2 := XA1.out.cell (i := 2) rfl
           go_wp2_with fail
           clear x0 x2
           refine (rad_any _ W.heap.size (W.heap.size + 1) _ _ 1 true (fun _ => by decide) (by have h0 := HN0.out; unfold cGlobal at h0; simp only [List.length_cons, List.length_nil]; omega) RA1.out.rf).mono ?_
           rintro r v2 hp
           have RA2 := hid (RA1.out.next hp)
           have XA2 := hid (X_next XA1.out XB.out (by rfl) hp)
           obtain ⟨rfl, -⟩ := hp
           go_wp2_with fail
           go_roundw
           case rel => exact ⟨k + 1, by omega, by go_num, hid (RA2.out.cast (by rw [← HNX.out]; unfold fGlobal; simp only; rw [HOK.out, ← orE_assoc]; rfl) (by have h0 := HN1.out; have h1 : cGlobal (127, zm, zn, zu) = 3 := rfl; first | omega | (simp only [List.length_cons, List.length_nil]; omega)))⟩
           case measure => simp [RowKit.intOf]; omega
          ·have HOK := hid (show okG 127 zn = false from by unfold okG; first | exact decide_eq_true (by omega) | exact decide_eq_false (by omega))
           have d1 : decide (zn < -2147483648) = false := decide_eq_false g1
           have d2 : decide (2147483647 < zn) = true := decide_eq_true g2
           have x0 := XA1.out.cell (i := 0) rfl
           have x2 := XA1.out.cell (i := 2) rfl
           go_wp2_with fail
           clear x0 x2
           refine (rad_any _ W.heap.size (W.heap.size + 1) _ _ 1 true (fun _ => by decide) (by have h0 := HN0.out; unfold cGlobal at h0; simp only [List.length_cons, List.length_nil]; omega) RA1.out.rf).mono ?_
           rintro r v2 hp
           have RA2 := hid (RA1.out.next hp)
           have XA2 := hid (X_next XA1.out XB.out (by rfl) hp)
           obtain ⟨rfl, -⟩ := hp
           go_wp2_with fail
           go_roundw
           case rel => exact ⟨k + 1, by omega, by go_num, hid (RA2.out.cast (by rw [← HNX.out]; unfold fGlobal; simp only; rw [HOK.out, ← orE_assoc]; rfl) (by have h0 := HN1.out; have h1 : cGlobal (127, zm, zn, zu) = 3 := rfl; first | omega | (simp only [List.length_cons, List.length_nil]; omega)))⟩
           case measure => simp [RowKit.intOf]; omega
          ·have HOK := hid (show okG 127 zn = true from by unfold okG; first | exact decide_eq_true (by omega) | exact decide_eq_false (by omega))
           have d1 : decide (zn < -2147483648) = false := decide_eq_false g1
           have d2 : decide (2147483647 < zn) = false := decide_eq_false g2
           have x0 := XA1.out.cell (i := 0) rfl
           have x2 := XA1.out.cell (i := 2) rfl
           go_wp2_with fail
           clear x0 x2
           refine (rad_any _ W.heap.size (W.heap.size + 1) _ _ 1 false (fun _ => by decide) (by have h0 := HN0.out; unfold cGlobal at h0; simp only [List.length_cons, List.length_nil]; omega) RA1.out.rf).mono ?_
           rintro r v2 hp
           have RA2 := hid (RA1.out.next hp)
           have XA2 := hid (X_next XA1.out XB.out (by rfl) hp)
           obtain ⟨rfl, -⟩ := hp
           go_wp2_with fail
           go_roundw
           case rel => exact ⟨k + 1, by omega, by go_num, hid (RA2.out.cast (by rw [← HNX.out]; unfold fGlobal; simp only; rw [HOK.out, ← orE_assoc]; rfl) (by have h0 := HN1.out; have h1 : cGlobal (127, zm, zn, zu) = 3 := rfl; first | omega | (simp only [List.length_cons, List.length_nil]; omega)))⟩
           case measure => simp [RowKit.intOf]; omega
          ·have HOK := hid (show okG zk zn = true from by unfold okG; first | exact decide_eq_true (by omega) | exact decide_eq_false (by omega))
           have d1 : (zk == 127) = false := by simpa using g1
           have x0 := XA1.out.cell (i := 0) rfl
           have x2 := XA1.out.cell (i := 2) rfl
           go_wp2_with fail
           clear x0 x2
           refine (rad_any _ W.heap.size (W.heap.size + 1) _ _ 1 false (fun _ => by decide) (by have h0 := HN0.out; unfold cGlobal at h0; simp only [List.length_cons, List.length_nil]; omega) RA1.out.rf).mono ?_
           rintro r v2 hp
           have RA2 := hid (RA1.out.next hp)
           have XA2 := hid (X_next XA1.out XB.out (by rfl) hp)
           obtain ⟨rfl, -⟩ := hp
           go_wp2_with fail
           go_roundw
           case rel => exact ⟨k + 1, by omega, by go_num, hid (RA2.out.cast (by rw [← HNX.out]; unfold fGlobal; simp only; rw [HOK.out, ← orE_assoc]; rfl) (by have h0 := HN1.out; have h1 : cGlobal (zk, zm, zn, zu) = 3 := rfl; first | omega | (simp only [List.length_cons, List.length_nil]; omega)))⟩
           case measure => simp [RowKit.intOf]; omega
         ·obtain rfl : k = y.2.2.2.2.2.2.1.length := by omega
          have R12x := LL.out
          rw [foldE_full fGlobal y.2.2.2.2.2.2.1 b11, List.take_length] at R12x
          obtain ⟨b12, hb12⟩ : ∃ b, orE b11 (foldE fGlobal y.2.2.2.2.2.2.1) = b := ⟨_, rfl⟩
          rw [hb12] at R12x
          have HB12 := hid hb12
          have R12 := hid R12x
          clear hb12 R12x LL hk
          have m7 := R12.out.m.cell (i := 7) rfl
          go_wp2_with fail
          clear m7
          refine (rad_any _ _ (W.heap.size + 1) (0 + 1 + sumC cSig y.1 + 1 + sumC cImport y.2.1 + 1 + sumC cFunc y.2.2.1 + 1 + 1 + 1 + 1 + 1 + sumC cGlobal y.2.2.2.2.2.2.1) _ 2 (decide ((8 : Int) < (y.2.2.2.2.2.2.2.1.length : Int))) (fun _ => by decide) (by have := HC1.out; have := HC2.out; have := HC3.out; have := HC4.out; have := HC5.out; have := HC6.out; have := HC7.out; omega) R12.out.rf).mono ?_
          rintro r w13 hp
          have R13x := R12.out.next hp
          rw [gt_le] at R13x
          obtain ⟨rfl, -⟩ := hp
          obtain ⟨b13, hb13⟩ : ∃ b, orE b12 (ndE (decide ((y.2.2.2.2.2.2.2.1.length : Int) ≤ 8)) 2) = b := ⟨_, rfl⟩
          rw [hb13] at R13x
          have HB13 := hid hb13
          have R13 := hid R13x
          clear hb13 R13x
          have m7 := R13.out.m.cell (i := 7) rfl
          go_wp2_with fail
          clear m7
          go_loopw [13, 143] (fun _ i wr => ∃ k : Nat, k ≤ y.2.2.2.2.2.2.2.1.length ∧ i = .int .i64 k ∧ Hid (RB W wr (W.heap.size + 1) W.heap.size (orE b13 (foldE fExport (y.2.2.2.2.2.2.2.1.take k))) (0 + 1 + sumC cSig y.1 + 1 + sumC cImport y.2.1 + 1 + sumC cFunc y.2.2.1 + 1 + 1 + 1 + 1 + 1 + sumC cGlobal y.2.2.2.2.2.2.1 + 1 + sumC cExport (y.2.2.2.2.2.2.2.1.take k)) [.slice a1 y.1.length k1, .slice a2 y.2.1.length k2, .slice a3 y.2.2.1.length k3, .int .i64 y.2.2.2.1, .int .i64 y.2.2.2.2.1, .int .i64 y.2.2.2.2.2.1, .slice a4 y.2.2.2.2.2.2.1.length k4, .slice a5 y.2.2.2.2.2.2.2.1.length k5, .int .i64 y.2.2.2.2.2.2.2.2.1, .slice a6 y.2.2.2.2.2.2.2.2.2.1.length k6, .slice a7 y.2.2.2.2.2.2.2.2.2.2.1.length k7])) (fun _ i _ => y.2.2.2.2.2.2.2.1.length - (RowKit.intOf i).toNat)
          case atStart => exact ⟨0, Nat.zero_le _, rfl, hid (R13.out.cast (orE_none b13).symm (by omega))⟩
          case round =>
           obtain ⟨k, hk, rfl, LL⟩ := hrel
           by_cases hlt : k < y.2.2.2.2.2.2.2.1.length
           ·obtain ⟨lb, lo, cap', cs, hv, hc9, hc8, _, hR, hcc⟩ := sliceR_at K5.out (by decide) k hlt
            simp only [Value.slice.injEq] at hv
            obtain ⟨rfl, -, rfl⟩ := hv
            have HNX := hid (foldE_next fExport y.2.2.2.2.2.2.2.1 k hlt b13)
            have HCX := hid (sumC_next cExport y.2.2.2.2.2.2.2.1 k hlt)
            have HCL := hid (sumC_le cExport y.2.2.2.2.2.2.2.1 (k + 1))
            generalize hcur : orE b13 (foldE fExport (y.2.2.2.2.2.2.2.1.take k)) = cur at *
            generalize y.2.2.2.2.2.2.2.1[k] = z at *
            clear hcur
            have HBW := hid LL.out.bel
            have HRK := hid hR
            obtain ⟨_, _, rfl, ⟨rfl, hs⟩, _, _, rfl, ⟨rfl, _⟩, rfl⟩ := hR
            have HSZ := hid hs
            clear hs
            have y0 : wr.cell? ⟨lb, lo + k * 2, none⟩ = some (.string z.1) := hcc wr HBW.out 0 (by decide)
            have y1 : wr.cell? ⟨lb, lo + k * 2 + 1, none⟩ = some (.int .i64 z.2.1) := hcc wr HBW.out 1 (by decide)
            clear hcc
            have XB := hid (show wr.heap.size ≠ (W.heap.size + 1) from fun e => by have := LL.out.rf.lt; omega)
            have XA0 := hid (Blk.new wr #[.string z.1, .int .i64 z.2.1] 68 _ rfl)
            have RA0 := hid (LL.out.alloc (.cells #[.string z.1, .int .i64 z.2.1] 68))
            have HN0 := hid (show 0 + 1 + sumC cSig y.1 + 1 + sumC cImport y.2.1 + 1 + sumC cFunc y.2.2.1 + 1 + 1 + 1 + 1 + 1 + sumC cGlobal y.2.2.2.2.2.2.1 + 1 + sumC cExport (y.2.2.2.2.2.2.2.1.take k) + cExport z ≤ 1000000000 from by have h0 := HCX.out; have := HCL.out; have := HC1.out; have := HC2.out; have := HC3.out; have := HC4.out; have := HC5.out; have := HC6.out; have := HC7.out; omega)
            have HN1 := hid (show (0 + 1 + sumC cSig y.1 + 1 + sumC cImport y.2.1 + 1 + sumC cFunc y.2.2.1 + 1 + 1 + 1 + 1 + 1 + sumC cGlobal y.2.2.2.2.2.2.1 + 1 + sumC cExport (y.2.2.2.2.2.2.2.1.take k)) + cExport z = 0 + 1 + sumC cSig y.1 + 1 + sumC cImport y.2.1 + 1 + sumC cFunc y.2.2.1 + 1 + 1 + 1 + 1 + 1 + sumC cGlobal y.2.2.2.2.2.2.1 + 1 + sumC cExport (y.2.2.2.2.2.2.2.1.take (k + 1)) from by have h0 := HCX.out; omega)
            generalize (0 + 1 + sumC cSig y.1 + 1 + sumC cImport y.2.1 + 1 + sumC cFunc y.2.2.1 + 1 + 1 + 1 + 1 + 1 + sumC cGlobal y.2.2.2.2.2.2.1 + 1 + sumC cExport (y.2.2.2.2.2.2.2.1.take k)) = nk at LL RA0 HN0 HN1
            go_wp2_with fail
            refine (rnm_any _ W.heap.size (W.heap.size + 1) nk cur z.1 HSZ.out (by have h0 := HN0.out; unfold cExport at h0; omega) RA0.out.rf RA0.out.rf.base).mono ?_
            rintro r v1 hp
            have RA1 := hid (RA0.out.next hp)
            have XA1 := hid (X_next XA0.out XB.out (by rfl) hp)
            obtain ⟨rfl, -⟩ := hp
            have x1 := XA1.out.cell (i := 1) rfl
            go_wp2_with fail
            clear x1
            refine (ridx_any _ W.heap.size (W.heap.size + 1) (nk + 1) (orE cur (nameE z.1)) z.2.1 (by have h0 := HN0.out; unfold cExport at h0; omega) RA1.out.rf).mono ?_
            rintro r v2 hp
            have RA2 := hid (RA1.out.next hp)
            have XA2 := hid (X_next XA1.out XB.out (by rfl) hp)
            obtain ⟨rfl, -⟩ := hp
            go_wp2_with fail
            go_roundw
            case rel => exact ⟨k + 1, by omega, by go_num, hid (RA2.out.cast (by rw [← HNX.out]; unfold fExport; rw [← orE_assoc]) (by have h0 := HN1.out; have h1 : cExport z = 2 := rfl; first | omega | (simp only [List.length_cons, List.length_nil]; omega)))⟩
            case measure => simp [RowKit.intOf]; omega
           ·obtain rfl : k = y.2.2.2.2.2.2.2.1.length := by omega
            have R14x := LL.out
            rw [foldE_full fExport y.2.2.2.2.2.2.2.1 b13, List.take_length] at R14x
            obtain ⟨b14, hb14⟩ : ∃ b, orE b13 (foldE fExport y.2.2.2.2.2.2.2.1) = b := ⟨_, rfl⟩
            rw [hb14] at R14x
            have HB14 := hid hb14
            have R14 := hid R14x
            clear hb14 R14x LL hk
            have m8 := R14.out.m.cell (i := 8) rfl
            go_wp2_with fail
            clear m8
            refine (ridx_any _ _ (W.heap.size + 1) (0 + 1 + sumC cSig y.1 + 1 + sumC cImport y.2.1 + 1 + sumC cFunc y.2.2.1 + 1 + 1 + 1 + 1 + 1 + sumC cGlobal y.2.2.2.2.2.2.1 + 1 + sumC cExport y.2.2.2.2.2.2.2.1) _ y.2.2.2.2.2.2.2.2.1 (by have := HC1.out; have := HC2.out; have := HC3.out; have := HC4.out; have := HC5.out; have := HC6.out; have := HC7.out; omega) R14.out.rf).mono ?_
            rintro r w15 hp
            have R15x := R14.out.next hp
            obtain ⟨rfl, -⟩ := hp
            obtain ⟨b15, hb15⟩ : ∃ b, orE b14 (fIdx y.2.2.2.2.2.2.2.2.1) = b := ⟨_, rfl⟩
            rw [hb15] at R15x
            have HB15 := hid hb15
            have R15 := hid R15x
            clear hb15 R15x
            have m9 := R15.out.m.cell (i := 9) rfl
            go_wp2_with fail
            clear m9
            refine (rad_any _ _ (W.heap.size + 1) (0 + 1 + sumC cSig y.1 + 1 + sumC cImport y.2.1 + 1 + sumC cFunc y.2.2.1 + 1 + 1 + 1 + 1 + 1 + sumC cGlobal y.2.2.2.2.2.2.1 + 1 + sumC cExport y.2.2.2.2.2.2.2.1 + 1) _ 2 (decide ((4 : Int) < (y.2.2.2.2.2.2.2.2.2.1.length : Int))) (fun _ => by decide) (by have := HC1.out; have := HC2.out; have := HC3.out; have := HC4.out; have := HC5.out; have := HC6.out; have := HC7.out; omega) R15.out.rf).mono ?_
            rintro r w16 hp
            have R16x := R15.out.next hp
            rw [gt_le] at R16x
            obtain ⟨rfl, -⟩ := hp
            obtain ⟨b16, hb16⟩ : ∃ b, orE b15 (ndE (decide ((y.2.2.2.2.2.2.2.2.2.1.length : Int) ≤ 4)) 2) = b := ⟨_, rfl⟩
            rw [hb16] at R16x
            have HB16 := hid hb16
            have R16 := hid R16x
            clear hb16 R16x
            have m9 := R16.out.m.cell (i := 9) rfl
            go_wp2_with fail
            clear m9
            go_loopw [15, 165] (fun _ i wr => ∃ k : Nat, k ≤ y.2.2.2.2.2.2.2.2.2.1.length ∧ i = .int .i64 k ∧ Hid (RB W wr (W.heap.size + 1) W.heap.size (orE b16 (foldE fElem (y.2.2.2.2.2.2.2.2.2.1.take k))) (0 + 1 + sumC cSig y.1 + 1 + sumC cImport y.2.1 + 1 + sumC cFunc y.2.2.1 + 1 + 1 + 1 + 1 + 1 + sumC cGlobal y.2.2.2.2.2.2.1 + 1 + sumC cExport y.2.2.2.2.2.2.2.1 + 1 + 1 + sumC cElem (y.2.2.2.2.2.2.2.2.2.1.take k)) [.slice a1 y.1.length k1, .slice a2 y.2.1.length k2, .slice a3 y.2.2.1.length k3, .int .i64 y.2.2.2.1, .int .i64 y.2.2.2.2.1, .int .i64 y.2.2.2.2.2.1, .slice a4 y.2.2.2.2.2.2.1.length k4, .slice a5 y.2.2.2.2.2.2.2.1.length k5, .int .i64 y.2.2.2.2.2.2.2.2.1, .slice a6 y.2.2.2.2.2.2.2.2.2.1.length k6, .slice a7 y.2.2.2.2.2.2.2.2.2.2.1.length k7])) (fun _ i _ => y.2.2.2.2.2.2.2.2.2.1.length - (RowKit.intOf i).toNat)
            case atStart => exact ⟨0, Nat.zero_le _, rfl, hid (R16.out.cast (orE_none b16).symm (by omega))⟩
            case round =>
             obtain ⟨k, hk, rfl, LL⟩ := hrel
             by_cases hlt : k < y.2.2.2.2.2.2.2.2.2.1.length
             ·obtain ⟨lb, lo, cap', cs, hv, hc9, hc8, _, hR, hcc⟩ := sliceR_at K6.out (by decide) k hlt
              simp only [Value.slice.injEq] at hv
              obtain ⟨rfl, -, rfl⟩ := hv
              have HNX := hid (foldE_next fElem y.2.2.2.2.2.2.2.2.2.1 k hlt b16)
              have HCX := hid (sumC_next cElem y.2.2.2.2.2.2.2.2.2.1 k hlt)
              have HCL := hid (sumC_le cElem y.2.2.2.2.2.2.2.2.2.1 (k + 1))
              generalize hcur : orE b16 (foldE fElem (y.2.2.2.2.2.2.2.2.2.1.take k)) = cur at *
              generalize y.2.2.2.2.2.2.2.2.2.1[k] = z at *
              clear hcur
              have HBW := hid LL.out.bel
              have HRK := hid hR
              obtain ⟨_, _, rfl, ⟨rfl, _⟩, _, _, rfl, g1, rfl⟩ := hR
              obtain ⟨q1, rfl⟩ := sl_one g1
              have Jq1 := hid (ints_of g1)
              obtain ⟨e1, d1, rfl, hz1, hz2, _⟩ := sl_shape g1
              have HZL := hid (And.intro hz1 hz2)
              clear g1 hz1 hz2
              have y0 : wr.cell? ⟨lb, lo + k * 2, none⟩ = some (.int .i64 z.1) := hcc wr HBW.out 0 (by decide)
              have y1 : wr.cell? ⟨lb, lo + k * 2 + 1, none⟩ = some (.slice e1 z.2.1.length d1) := hcc wr HBW.out 1 (by decide)
              clear hcc
              have XB := hid (show wr.heap.size ≠ (W.heap.size + 1) from fun e => by have := LL.out.rf.lt; omega)
              have XA0 := hid (Blk.new wr #[.int .i64 z.1, .slice e1 z.2.1.length d1] 73 _ rfl)
              have RA0 := hid (LL.out.alloc (.cells #[.int .i64 z.1, .slice e1 z.2.1.length d1] 73))
              have HN0 := hid (show 0 + 1 + sumC cSig y.1 + 1 + sumC cImport y.2.1 + 1 + sumC cFunc y.2.2.1 + 1 + 1 + 1 + 1 + 1 + sumC cGlobal y.2.2.2.2.2.2.1 + 1 + sumC cExport y.2.2.2.2.2.2.2.1 + 1 + 1 + sumC cElem (y.2.2.2.2.2.2.2.2.2.1.take k) + cElem z ≤ 1000000000 from by have h0 := HCX.out; have := HCL.out; have := HC1.out; have := HC2.out; have := HC3.out; have := HC4.out; have := HC5.out; have := HC6.out; have := HC7.out; omega)
              have HN1 := hid (show (0 + 1 + sumC cSig y.1 + 1 + sumC cImport y.2.1 + 1 + sumC cFunc y.2.2.1 + 1 + 1 + 1 + 1 + 1 + sumC cGlobal y.2.2.2.2.2.2.1 + 1 + sumC cExport y.2.2.2.2.2.2.2.1 + 1 + 1 + sumC cElem (y.2.2.2.2.2.2.2.2.2.1.take k)) + cElem z = 0 + 1 + sumC cSig y.1 + 1 + sumC cImport y.2.1 + 1 + sumC cFunc y.2.2.1 + 1 + 1 + 1 + 1 + 1 + sumC cGlobal y.2.2.2.2.2.2.1 + 1 + sumC cExport y.2.2.2.2.2.2.2.1 + 1 + 1 + sumC cElem (y.2.2.2.2.2.2.2.2.2.1.take (k + 1)) from by have h0 := HCX.out; omega)
              generalize (0 + 1 + sumC cSig y.1 + 1 + sumC cImport y.2.1 + 1 + sumC cFunc y.2.2.1 + 1 + 1 + 1 + 1 + 1 + sumC cGlobal y.2.2.2.2.2.2.1 + 1 + sumC cExport y.2.2.2.2.2.2.2.1 + 1 + 1 + sumC cElem (y.2.2.2.2.2.2.2.2.2.1.take k)) = nk at LL RA0 HN0 HN1
              go_wp2_with fail
              refine (rat_any _ W.heap.size (W.heap.size + 1) nk cur z.1 (by have h0 := HN0.out; unfold cElem at h0; omega) RA0.out.rf).mono ?_
              rintro r v1 hp
              have RA1 := hid (RA0.out.next hp)
              have XA1 := hid (X_next XA0.out XB.out (by rfl) hp)
              obtain ⟨rfl, -⟩ := hp
              have x1 := XA1.out.cell (i := 1) rfl
              go_wp2_with fail
              clear x1
              refine (rad_any _ W.heap.size (W.heap.size + 1) (nk + 1) (orE cur (fPlc z.1)) 2 (decide ((16 : Int) < (z.2.1.length : Int))) (fun _ => by decide) (by have h0 := HN0.out; unfold cElem at h0; omega) RA1.out.rf).mono ?_
              rintro r v2 hp
              have RA2 := hid (RA1.out.next hp)
              have XA2 := hid (X_next XA1.out XB.out (by rfl) hp)
              obtain ⟨rfl, -⟩ := hp
              rw [gt_le] at RA2
              have x1 := XA2.out.cell (i := 1) rfl
              have hzl : (z.2.1.length : Int) ≤ 9223372036854775807 := by have := HZL.out; omega
              go_wp2_with fail
              clear x1
              have HFZ := hid (foldE_full fIdx z.2.1 (orE (orE cur (fPlc z.1)) (ndE (decide ((z.2.1.length : Int) ≤ 16)) 2)))
              go_loopw [17, 180] (fun _ i wq => ∃ j : Nat, j ≤ z.2.1.length ∧ i = .int .i64 j ∧ Hid (RB W wq (W.heap.size + 1) W.heap.size (orE (orE (orE cur (fPlc z.1)) (ndE (decide ((z.2.1.length : Int) ≤ 16)) 2)) (foldE fIdx (z.2.1.take j))) (((nk + 1) + 1) + j) [.slice a1 y.1.length k1, .slice a2 y.2.1.length k2, .slice a3 y.2.2.1.length k3, .int .i64 y.2.2.2.1, .int .i64 y.2.2.2.2.1, .int .i64 y.2.2.2.2.2.1, .slice a4 y.2.2.2.2.2.2.1.length k4, .slice a5 y.2.2.2.2.2.2.2.1.length k5, .int .i64 y.2.2.2.2.2.2.2.2.1, .slice (some ⟨lb, lo, none⟩) y.2.2.2.2.2.2.2.2.2.1.length k6, .slice a7 y.2.2.2.2.2.2.2.2.2.2.1.length k7])) (fun _ i _ => z.2.1.length - (RowKit.intOf i).toNat)
              case atStart => exact ⟨0, Nat.zero_le _, rfl, hid (RA2.out.cast (orE_none _).symm (by omega))⟩
              case round =>
               obtain ⟨j, hj, rfl, LI⟩ := hrel
               by_cases hjl : j < z.2.1.length
               ·have hI := L1.below Jq1.out LI.out.bel
                rcases hI.open with ⟨_, _, _, e, _⟩ | ⟨ib, io, icap, hv, _, ic1, ic2, ic⟩
                ·rw [e] at hjl; simp at hjl
                simp only [Value.slice.injEq] at hv
                obtain ⟨rfl, -, rfl⟩ := hv
                have yi := ic j hjl
                have HIX := hid (foldE_next fIdx z.2.1 j hjl (orE (orE cur (fPlc z.1)) (ndE (decide ((z.2.1.length : Int) ≤ 16)) 2)))
                clear ic hI
                generalize orE (orE (orE cur (fPlc z.1)) (ndE (decide ((z.2.1.length : Int) ≤ 16)) 2)) (foldE fIdx (z.2.1.take j)) = ci at *
                generalize z.2.1[j] = yy at *
                go_wp2_with fail
                refine (ridx_any _ W.heap.size (W.heap.size + 1) _ ci yy (by have h0 := HN0.out; unfold cElem at h0; omega) LI.out.rf).mono ?_
                rintro r v8 hp
                have RI := hid (LI.out.next hp)
                obtain ⟨rfl, -⟩ := hp
                go_wp2_with fail
                go_roundw
                case rel => exact ⟨j + 1, by omega, by go_num, hid (RI.out.cast HIX.out (by omega))⟩
                case measure => simp [RowKit.intOf]; omega
               ·obtain rfl : j = z.2.1.length := by omega
                have RI := hid LI.out
                rw [HFZ.out] at RI
                go_wp2_with fail
                go_roundw
                case rel => exact ⟨k + 1, by omega, by go_num, hid (RI.out.cast (by rw [← HNX.out]; unfold fElem eachE; rw [← orE_assoc, ← orE_assoc]) (by have h0 := HN1.out; have h1 : cElem z = 2 + z.2.1.length := rfl; first | omega | (simp only [List.length_cons, List.length_nil]; omega)))⟩
                case measure => simp [RowKit.intOf]; omega
             ·obtain rfl : k = y.2.2.2.2.2.2.2.2.2.1.length := by omega
              have R17x := LL.out
              rw [foldE_full fElem y.2.2.2.2.2.2.2.2.2.1 b16, List.take_length] at R17x
              obtain ⟨b17, hb17⟩ : ∃ b, orE b16 (foldE fElem y.2.2.2.2.2.2.2.2.2.1) = b := ⟨_, rfl⟩
              rw [hb17] at R17x
              have HB17 := hid hb17
              have R17 := hid R17x
              clear hb17 R17x LL hk
              have m10 := R17.out.m.cell (i := 10) rfl
              go_wp2_with fail
              clear m10
              refine (rad_any _ _ (W.heap.size + 1) (0 + 1 + sumC cSig y.1 + 1 + sumC cImport y.2.1 + 1 + sumC cFunc y.2.2.1 + 1 + 1 + 1 + 1 + 1 + sumC cGlobal y.2.2.2.2.2.2.1 + 1 + sumC cExport y.2.2.2.2.2.2.2.1 + 1 + 1 + sumC cElem y.2.2.2.2.2.2.2.2.2.1) _ 2 (decide ((4 : Int) < (y.2.2.2.2.2.2.2.2.2.2.1.length : Int))) (fun _ => by decide) (by have := HC1.out; have := HC2.out; have := HC3.out; have := HC4.out; have := HC5.out; have := HC6.out; have := HC7.out; omega) R17.out.rf).mono ?_
              rintro r w18 hp
              have R18x := R17.out.next hp
              rw [gt_le] at R18x
              obtain ⟨rfl, -⟩ := hp
              obtain ⟨b18, hb18⟩ : ∃ b, orE b17 (ndE (decide ((y.2.2.2.2.2.2.2.2.2.2.1.length : Int) ≤ 4)) 2) = b := ⟨_, rfl⟩
              rw [hb18] at R18x
              have HB18 := hid hb18
              have R18 := hid R18x
              clear hb18 R18x
              have m10 := R18.out.m.cell (i := 10) rfl
              go_wp2_with fail
              clear m10
              go_loopw [19, 196] (fun _ i wr => ∃ k : Nat, k ≤ y.2.2.2.2.2.2.2.2.2.2.1.length ∧ i = .int .i64 k ∧ Hid (RB W wr (W.heap.size + 1) W.heap.size (orE b18 (foldE fData (y.2.2.2.2.2.2.2.2.2.2.1.take k))) (0 + 1 + sumC cSig y.1 + 1 + sumC cImport y.2.1 + 1 + sumC cFunc y.2.2.1 + 1 + 1 + 1 + 1 + 1 + sumC cGlobal y.2.2.2.2.2.2.1 + 1 + sumC cExport y.2.2.2.2.2.2.2.1 + 1 + 1 + sumC cElem y.2.2.2.2.2.2.2.2.2.1 + 1 + sumC cData (y.2.2.2.2.2.2.2.2.2.2.1.take k)) [.slice a1 y.1.length k1, .slice a2 y.2.1.length k2, .slice a3 y.2.2.1.length k3, .int .i64 y.2.2.2.1, .int .i64 y.2.2.2.2.1, .int .i64 y.2.2.2.2.2.1, .slice a4 y.2.2.2.2.2.2.1.length k4, .slice a5 y.2.2.2.2.2.2.2.1.length k5, .int .i64 y.2.2.2.2.2.2.2.2.1, .slice a6 y.2.2.2.2.2.2.2.2.2.1.length k6, .slice a7 y.2.2.2.2.2.2.2.2.2.2.1.length k7])) (fun _ i _ => y.2.2.2.2.2.2.2.2.2.2.1.length - (RowKit.intOf i).toNat)
              case atStart => exact ⟨0, Nat.zero_le _, rfl, hid (R18.out.cast (orE_none b18).symm (by omega))⟩
              case round =>
               obtain ⟨k, hk, rfl, LL⟩ := hrel
               by_cases hlt : k < y.2.2.2.2.2.2.2.2.2.2.1.length
               ·obtain ⟨lb, lo, cap', cs, hv, hc9, hc8, _, hR, hcc⟩ := sliceR_at K7.out (by decide) k hlt
                simp only [Value.slice.injEq] at hv
                obtain ⟨rfl, -, rfl⟩ := hv
                have HNX := hid (foldE_next fData y.2.2.2.2.2.2.2.2.2.2.1 k hlt b18)
                have HCX := hid (sumC_next cData y.2.2.2.2.2.2.2.2.2.2.1 k hlt)
                have HCL := hid (sumC_le cData y.2.2.2.2.2.2.2.2.2.2.1 (k + 1))
                generalize hcur : orE b18 (foldE fData (y.2.2.2.2.2.2.2.2.2.2.1.take k)) = cur at *
                generalize y.2.2.2.2.2.2.2.2.2.2.1[k] = z at *
                clear hcur
                have HBW := hid LL.out.bel
                have HRK := hid hR
                obtain ⟨_, _, rfl, ⟨rfl, _⟩, _, _, rfl, ⟨rfl, hs⟩, rfl⟩ := hR
                have hs2 : (z.2.1.size : Int) ≤ 140737488351232 := by omega
                clear hs
                have y0 : wr.cell? ⟨lb, lo + k * 2, none⟩ = some (.int .i64 z.1) := hcc wr HBW.out 0 (by decide)
                have y1 : wr.cell? ⟨lb, lo + k * 2 + 1, none⟩ = some (.string z.2.1) := hcc wr HBW.out 1 (by decide)
                clear hcc
                have XB := hid (show wr.heap.size ≠ (W.heap.size + 1) from fun e => by have := LL.out.rf.lt; omega)
                have XA0 := hid (Blk.new wr #[.int .i64 z.1, .string z.2.1] 78 _ rfl)
                have RA0 := hid (LL.out.alloc (.cells #[.int .i64 z.1, .string z.2.1] 78))
                have HN0 := hid (show 0 + 1 + sumC cSig y.1 + 1 + sumC cImport y.2.1 + 1 + sumC cFunc y.2.2.1 + 1 + 1 + 1 + 1 + 1 + sumC cGlobal y.2.2.2.2.2.2.1 + 1 + sumC cExport y.2.2.2.2.2.2.2.1 + 1 + 1 + sumC cElem y.2.2.2.2.2.2.2.2.2.1 + 1 + sumC cData (y.2.2.2.2.2.2.2.2.2.2.1.take k) + cData z ≤ 1000000000 from by have h0 := HCX.out; have := HCL.out; have := HC1.out; have := HC2.out; have := HC3.out; have := HC4.out; have := HC5.out; have := HC6.out; have := HC7.out; omega)
                have HN1 := hid (show (0 + 1 + sumC cSig y.1 + 1 + sumC cImport y.2.1 + 1 + sumC cFunc y.2.2.1 + 1 + 1 + 1 + 1 + 1 + sumC cGlobal y.2.2.2.2.2.2.1 + 1 + sumC cExport y.2.2.2.2.2.2.2.1 + 1 + 1 + sumC cElem y.2.2.2.2.2.2.2.2.2.1 + 1 + sumC cData (y.2.2.2.2.2.2.2.2.2.2.1.take k)) + cData z = 0 + 1 + sumC cSig y.1 + 1 + sumC cImport y.2.1 + 1 + sumC cFunc y.2.2.1 + 1 + 1 + 1 + 1 + 1 + sumC cGlobal y.2.2.2.2.2.2.1 + 1 + sumC cExport y.2.2.2.2.2.2.2.1 + 1 + 1 + sumC cElem y.2.2.2.2.2.2.2.2.2.1 + 1 + sumC cData (y.2.2.2.2.2.2.2.2.2.2.1.take (k + 1)) from by have h0 := HCX.out; omega)
                generalize (0 + 1 + sumC cSig y.1 + 1 + sumC cImport y.2.1 + 1 + sumC cFunc y.2.2.1 + 1 + 1 + 1 + 1 + 1 + sumC cGlobal y.2.2.2.2.2.2.1 + 1 + sumC cExport y.2.2.2.2.2.2.2.1 + 1 + 1 + sumC cElem y.2.2.2.2.2.2.2.2.2.1 + 1 + sumC cData (y.2.2.2.2.2.2.2.2.2.2.1.take k)) = nk at LL RA0 HN0 HN1
                go_wp2_with fail
                refine (rat_any _ W.heap.size (W.heap.size + 1) nk cur z.1 (by have h0 := HN0.out; unfold cData at h0; omega) RA0.out.rf).mono ?_
                rintro r v1 hp
                have RA1 := hid (RA0.out.next hp)
                have XA1 := hid (X_next XA0.out XB.out (by rfl) hp)
                obtain ⟨rfl, -⟩ := hp
                have x1 := XA1.out.cell (i := 1) rfl
                go_wp2_with fail
                clear x1
                refine (rad_any _ W.heap.size (W.heap.size + 1) (nk + 1) (orE cur (fPlc z.1)) 2 (decide ((64 : Int) < (z.2.1.size : Int))) (fun _ => by decide) (by have h0 := HN0.out; unfold cData at h0; omega) RA1.out.rf).mono ?_
                rintro r v2 hp
                have RA2 := hid (RA1.out.next hp)
                have XA2 := hid (X_next XA1.out XB.out (by rfl) hp)
                obtain ⟨rfl, -⟩ := hp
                rw [gt_le] at RA2
                go_wp2_with fail
                go_roundw
                case rel => exact ⟨k + 1, by omega, by go_num, hid (RA2.out.cast (by rw [← HNX.out]; unfold fData; rw [← orE_assoc]) (by have h0 := HN1.out; have h1 : cData z = 2 := rfl; first | omega | (simp only [List.length_cons, List.length_nil]; omega)))⟩
                case measure => simp [RowKit.intOf]; omega
               ·obtain rfl : k = y.2.2.2.2.2.2.2.2.2.2.1.length := by omega
                have R19x := LL.out
                rw [foldE_full fData y.2.2.2.2.2.2.2.2.2.2.1 b18, List.take_length] at R19x
                obtain ⟨b19, hb19⟩ : ∃ b, orE b18 (foldE fData y.2.2.2.2.2.2.2.2.2.2.1) = b := ⟨_, rfl⟩
                rw [hb19] at R19x
                have HB19 := hid hb19
                have R19 := hid R19x
                clear hb19 R19x LL hk
                obtain ⟨LF, hF, hf1, _, _⟩ := R19.out.rf.ex
                obtain ⟨_, ⟨vF, hB, hO⟩, _⟩ := hF
                have HOI := hid (OwnI.ints hO)
                obtain ⟨aF, cF, rfl, _⟩ := own_sl hO
                have q0 := hB.cell (i := 0) rfl
                have HF1 := hid hf1
                clear hf1 hO hB
                go_wp2_with fail
                refine (ffirst_any _ _ LF HOI.out).mono ?_
                rintro r wz ⟨rfl, rfl⟩
                go_wp2_with fail
                go_ret
                refine ⟨?_, R19.out.bel⟩
                have E1 : orE 0 (eachE fSig y.1 16) = b2 := by rw [← eachE_eq, HB1.out, HB2.out]
                have E2 : orE b2 (eachE fImport y.2.1 16) = b4 := by rw [← eachE_eq, HB3.out, HB4.out]
                have E3 : orE b4 (eachE fFunc y.2.2.1 16) = b6 := by rw [← eachE_eq, HB5.out, HB6.out]
                have E8 : orE b10 (eachE fGlobal y.2.2.2.2.2.2.1 8) = b12 := by rw [← eachE_eq, HB11.out, HB12.out]
                have E9 : orE b12 (eachE fExport y.2.2.2.2.2.2.2.1 8) = b14 := by rw [← eachE_eq, HB13.out, HB14.out]
                have E11 : orE b15 (eachE fElem y.2.2.2.2.2.2.2.2.2.1 4) = b17 := by rw [← eachE_eq, HB16.out, HB17.out]
                have E12 : orE b17 (eachE fData y.2.2.2.2.2.2.2.2.2.2.1 4) = b19 := by rw [← eachE_eq, HB18.out, HB19.out]
                rw [HF1.out]
                unfold fModule
                rw [orE_none, ← orE_zero (eachE fSig y.1 16), E1, E2, E3, HB7.out, HB8.out, HB9.out, HB10.out, E8, E9, HB15.out, E11, E12]
                rfl
 ·have hd : decide (y.2.2.2.2.1 < 0) = false := decide_eq_false hpg
  have HPQ := hid (show bdE (decide (y.2.2.2.2.2.1 < y.2.2.2.2.1)) 1 = ndE (okPg y.2.2.2.2.1 y.2.2.2.2.2.1) 1 from by
   rw [gt_le]
   unfold okPg
   by_cases g : y.2.2.2.2.1 ≤ y.2.2.2.2.2.1
   ·rw [decide_eq_true g, decide_eq_true (by omega)]
   ·rw [decide_eq_false g, decide_eq_false (by omega)])
  clear hpg
  have m0 := R0.out.m.cell (i := 0) rfl
  go_wp2_with fail
  clear m0
  refine (rad_any _ _ (W.heap.size + 1) (0) _ 2 (decide ((16 : Int) < (y.1.length : Int))) (fun _ => by decide) (by have := HC1.out; have := HC2.out; have := HC3.out; have := HC4.out; have := HC5.out; have := HC6.out; have := HC7.out; omega) R0.out.rf).mono ?_
  rintro r w1 hp
  have R1x := R0.out.next hp
  rw [gt_le] at R1x
  obtain ⟨rfl, -⟩ := hp
  obtain ⟨b1, hb1⟩ : ∃ b, orE 0 (ndE (decide ((y.1.length : Int) ≤ 16)) 2) = b := ⟨_, rfl⟩
  rw [hb1] at R1x
  have HB1 := hid hb1
  have R1 := hid R1x
  clear hb1 R1x
  have m0 := R1.out.m.cell (i := 0) rfl
  go_wp2_with fail
  clear m0
  go_loopw [5, 28] (fun _ i wr => ∃ k : Nat, k ≤ y.1.length ∧ i = .int .i64 k ∧ Hid (RB W wr (W.heap.size + 1) W.heap.size (orE b1 (foldE fSig (y.1.take k))) (0 + 1 + sumC cSig (y.1.take k)) [.slice a1 y.1.length k1, .slice a2 y.2.1.length k2, .slice a3 y.2.2.1.length k3, .int .i64 y.2.2.2.1, .int .i64 y.2.2.2.2.1, .int .i64 y.2.2.2.2.2.1, .slice a4 y.2.2.2.2.2.2.1.length k4, .slice a5 y.2.2.2.2.2.2.2.1.length k5, .int .i64 y.2.2.2.2.2.2.2.2.1, .slice a6 y.2.2.2.2.2.2.2.2.2.1.length k6, .slice a7 y.2.2.2.2.2.2.2.2.2.2.1.length k7])) (fun _ i _ => y.1.length - (RowKit.intOf i).toNat)
  case atStart => exact ⟨0, Nat.zero_le _, rfl, hid (R1.out.cast (orE_none b1).symm (by omega))⟩
  case round =>
   obtain ⟨k, hk, rfl, LL⟩ := hrel
   by_cases hlt : k < y.1.length
   ·obtain ⟨lb, lo, cap', cs, hv, hc9, hc8, _, hR, hcc⟩ := sliceR_at K1.out (by decide) k hlt
    simp only [Value.slice.injEq] at hv
    obtain ⟨rfl, -, rfl⟩ := hv
    have HNX := hid (foldE_next fSig y.1 k hlt b1)
    have HCX := hid (sumC_next cSig y.1 k hlt)
    have HCL := hid (sumC_le cSig y.1 (k + 1))
    generalize hcur : orE b1 (foldE fSig (y.1.take k)) = cur at *
    generalize y.1[k] = z at *
    clear hcur
    have HBW := hid LL.out.bel
    have HRK := hid hR
    obtain ⟨_, _, rfl, g1, _, _, rfl, g2, rfl⟩ := hR
    obtain ⟨q1, rfl⟩ := sl_one g1
    have Jq1 := hid (kinds_of g1)
    obtain ⟨e1, d1, rfl, _, _, _⟩ := sl_shape g1
    obtain ⟨q2, rfl⟩ := sl_one g2
    have Jq2 := hid (kinds_of g2)
    obtain ⟨e2, d2, rfl, _, _, _⟩ := sl_shape g2
    clear g1 g2
    have y0 : wr.cell? ⟨lb, lo + k * 2, none⟩ = some (.slice e1 z.1.length d1) := hcc wr HBW.out 0 (by decide)
    have y1 : wr.cell? ⟨lb, lo + k * 2 + 1, none⟩ = some (.slice e2 z.2.1.length d2) := hcc wr HBW.out 1 (by decide)
    clear hcc
    have XB := hid (show wr.heap.size ≠ (W.heap.size + 1) from fun e => by have := LL.out.rf.lt; omega)
    have XA0 := hid (Blk.new wr #[.slice e1 z.1.length d1, .slice e2 z.2.1.length d2] 47 _ rfl)
    have RA0 := hid (LL.out.alloc (.cells #[.slice e1 z.1.length d1, .slice e2 z.2.1.length d2] 47))
    have HN0 := hid (show 0 + 1 + sumC cSig (y.1.take k) + cSig z ≤ 1000000000 from by have h0 := HCX.out; have := HCL.out; have := HC1.out; have := HC2.out; have := HC3.out; have := HC4.out; have := HC5.out; have := HC6.out; have := HC7.out; omega)
    have HN1 := hid (show (0 + 1 + sumC cSig (y.1.take k)) + cSig z = 0 + 1 + sumC cSig (y.1.take (k + 1)) from by have h0 := HCX.out; omega)
    generalize (0 + 1 + sumC cSig (y.1.take k)) = nk at LL RA0 HN0 HN1
    go_wp2_with fail
    refine (rkinds_any _ W.heap.size (W.heap.size + 1) nk cur _ z.1 4 (fun w' hb _ => L1.below Jq1.out (RA0.out.bel.trans hb)) (by have h0 := HN0.out; unfold cSig at h0; omega) RA0.out.rf).mono ?_
    rintro r v1 hp
    have RA1 := hid (RA0.out.next hp)
    have XA1 := hid (X_next XA0.out XB.out (by rfl) hp)
    obtain ⟨rfl, -⟩ := hp
    have x1 := XA1.out.cell (i := 1) rfl
    go_wp2_with fail
    clear x1
    refine (rkinds_any _ W.heap.size (W.heap.size + 1) _ (orE cur (eachE fKind z.1 4)) _ z.2.1 1 (fun w' hb _ => L1.below Jq2.out (RA1.out.bel.trans hb)) (by have h0 := HN0.out; unfold cSig at h0; omega) RA1.out.rf).mono ?_
    rintro r v2 hp
    have RA2 := hid (RA1.out.next hp)
    have XA2 := hid (X_next XA1.out XB.out (by rfl) hp)
    obtain ⟨rfl, -⟩ := hp
    go_wp2_with fail
    go_roundw
    case rel => exact ⟨k + 1, by omega, by go_num, hid (RA2.out.cast (by rw [← HNX.out]; unfold fSig; rw [← orE_assoc]) (by have h0 := HN1.out; have h1 : cSig z = z.1.length + 1 + (z.2.1.length + 1) := rfl; first | omega | (simp only [List.length_cons, List.length_nil]; omega)))⟩
    case measure => simp [RowKit.intOf]; omega
   ·obtain rfl : k = y.1.length := by omega
    have R2x := LL.out
    rw [foldE_full fSig y.1 b1, List.take_length] at R2x
    obtain ⟨b2, hb2⟩ : ∃ b, orE b1 (foldE fSig y.1) = b := ⟨_, rfl⟩
    rw [hb2] at R2x
    have HB2 := hid hb2
    have R2 := hid R2x
    clear hb2 R2x LL hk
    have m1 := R2.out.m.cell (i := 1) rfl
    go_wp2_with fail
    clear m1
    refine (rad_any _ _ (W.heap.size + 1) (0 + 1 + sumC cSig y.1) _ 2 (decide ((16 : Int) < (y.2.1.length : Int))) (fun _ => by decide) (by have := HC1.out; have := HC2.out; have := HC3.out; have := HC4.out; have := HC5.out; have := HC6.out; have := HC7.out; omega) R2.out.rf).mono ?_
    rintro r w3 hp
    have R3x := R2.out.next hp
    rw [gt_le] at R3x
    obtain ⟨rfl, -⟩ := hp
    obtain ⟨b3, hb3⟩ : ∃ b, orE b2 (ndE (decide ((y.2.1.length : Int) ≤ 16)) 2) = b := ⟨_, rfl⟩
    rw [hb3] at R3x
    have HB3 := hid hb3
    have R3 := hid R3x
    clear hb3 R3x
    have m1 := R3.out.m.cell (i := 1) rfl
    go_wp2_with fail
    clear m1
    go_loopw [7, 47] (fun _ i wr => ∃ k : Nat, k ≤ y.2.1.length ∧ i = .int .i64 k ∧ Hid (RB W wr (W.heap.size + 1) W.heap.size (orE b3 (foldE fImport (y.2.1.take k))) (0 + 1 + sumC cSig y.1 + 1 + sumC cImport (y.2.1.take k)) [.slice a1 y.1.length k1, .slice a2 y.2.1.length k2, .slice a3 y.2.2.1.length k3, .int .i64 y.2.2.2.1, .int .i64 y.2.2.2.2.1, .int .i64 y.2.2.2.2.2.1, .slice a4 y.2.2.2.2.2.2.1.length k4, .slice a5 y.2.2.2.2.2.2.2.1.length k5, .int .i64 y.2.2.2.2.2.2.2.2.1, .slice a6 y.2.2.2.2.2.2.2.2.2.1.length k6, .slice a7 y.2.2.2.2.2.2.2.2.2.2.1.length k7])) (fun _ i _ => y.2.1.length - (RowKit.intOf i).toNat)
    case atStart => exact ⟨0, Nat.zero_le _, rfl, hid (R3.out.cast (orE_none b3).symm (by omega))⟩
    case round =>
     obtain ⟨k, hk, rfl, LL⟩ := hrel
     by_cases hlt : k < y.2.1.length
     ·obtain ⟨lb, lo, cap', cs, hv, hc9, hc8, _, hR, hcc⟩ := sliceR_at K2.out (by decide) k hlt
      simp only [Value.slice.injEq] at hv
      obtain ⟨rfl, -, rfl⟩ := hv
      have HNX := hid (foldE_next fImport y.2.1 k hlt b3)
      have HCX := hid (sumC_next cImport y.2.1 k hlt)
      have HCL := hid (sumC_le cImport y.2.1 (k + 1))
      generalize hcur : orE b3 (foldE fImport (y.2.1.take k)) = cur at *
      generalize y.2.1[k] = z at *
      clear hcur
      have HBW := hid LL.out.bel
      have HRK := hid hR
      obtain ⟨_, _, rfl, ⟨rfl, hs⟩, _, _, rfl, ⟨rfl, _⟩, rfl⟩ := hR
      have HSZ := hid hs
      clear hs
      have y0 : wr.cell? ⟨lb, lo + k * 2, none⟩ = some (.string z.1) := hcc wr HBW.out 0 (by decide)
      have y1 : wr.cell? ⟨lb, lo + k * 2 + 1, none⟩ = some (.int .i64 z.2.1) := hcc wr HBW.out 1 (by decide)
      clear hcc
      have XB := hid (show wr.heap.size ≠ (W.heap.size + 1) from fun e => by have := LL.out.rf.lt; omega)
      have XA0 := hid (Blk.new wr #[.string z.1, .int .i64 z.2.1] 52 _ rfl)
      have RA0 := hid (LL.out.alloc (.cells #[.string z.1, .int .i64 z.2.1] 52))
      have HN0 := hid (show 0 + 1 + sumC cSig y.1 + 1 + sumC cImport (y.2.1.take k) + cImport z ≤ 1000000000 from by have h0 := HCX.out; have := HCL.out; have := HC1.out; have := HC2.out; have := HC3.out; have := HC4.out; have := HC5.out; have := HC6.out; have := HC7.out; omega)
      have HN1 := hid (show (0 + 1 + sumC cSig y.1 + 1 + sumC cImport (y.2.1.take k)) + cImport z = 0 + 1 + sumC cSig y.1 + 1 + sumC cImport (y.2.1.take (k + 1)) from by have h0 := HCX.out; omega)
      generalize (0 + 1 + sumC cSig y.1 + 1 + sumC cImport (y.2.1.take k)) = nk at LL RA0 HN0 HN1
      go_wp2_with fail
      refine (rnm_any _ W.heap.size (W.heap.size + 1) nk cur z.1 HSZ.out (by have h0 := HN0.out; unfold cImport at h0; omega) RA0.out.rf RA0.out.rf.base).mono ?_
      rintro r v1 hp
      have RA1 := hid (RA0.out.next hp)
      have XA1 := hid (X_next XA0.out XB.out (by rfl) hp)
      obtain ⟨rfl, -⟩ := hp
      have x1 := XA1.out.cell (i := 1) rfl
      go_wp2_with fail
      clear x1
      refine (ridx_any _ W.heap.size (W.heap.size + 1) (nk + 1) (orE cur (nameE z.1)) z.2.1 (by have h0 := HN0.out; unfold cImport at h0; omega) RA1.out.rf).mono ?_
      rintro r v2 hp
      have RA2 := hid (RA1.out.next hp)
      have XA2 := hid (X_next XA1.out XB.out (by rfl) hp)
      obtain ⟨rfl, -⟩ := hp
      go_wp2_with fail
      go_roundw
      case rel => exact ⟨k + 1, by omega, by go_num, hid (RA2.out.cast (by rw [← HNX.out]; unfold fImport; rw [← orE_assoc]) (by have h0 := HN1.out; have h1 : cImport z = 2 := rfl; first | omega | (simp only [List.length_cons, List.length_nil]; omega)))⟩
      case measure => simp [RowKit.intOf]; omega
     ·obtain rfl : k = y.2.1.length := by omega
      have R4x := LL.out
      rw [foldE_full fImport y.2.1 b3, List.take_length] at R4x
      obtain ⟨b4, hb4⟩ : ∃ b, orE b3 (foldE fImport y.2.1) = b := ⟨_, rfl⟩
      rw [hb4] at R4x
      have HB4 := hid hb4
      have R4 := hid R4x
      clear hb4 R4x LL hk
      have m2 := R4.out.m.cell (i := 2) rfl
      go_wp2_with fail
      clear m2
      refine (rad_any _ _ (W.heap.size + 1) (0 + 1 + sumC cSig y.1 + 1 + sumC cImport y.2.1) _ 2 (decide ((16 : Int) < (y.2.2.1.length : Int))) (fun _ => by decide) (by have := HC1.out; have := HC2.out; have := HC3.out; have := HC4.out; have := HC5.out; have := HC6.out; have := HC7.out; omega) R4.out.rf).mono ?_
      rintro r w5 hp
      have R5x := R4.out.next hp
      rw [gt_le] at R5x
      obtain ⟨rfl, -⟩ := hp
      obtain ⟨b5, hb5⟩ : ∃ b, orE b4 (ndE (decide ((y.2.2.1.length : Int) ≤ 16)) 2) = b := ⟨_, rfl⟩
      rw [hb5] at R5x
      have HB5 := hid hb5
      have R5 := hid R5x
      clear hb5 R5x
      have m2 := R5.out.m.cell (i := 2) rfl
      go_wp2_with fail
      clear m2
      go_loopw [9, 66] (fun _ i wr => ∃ k : Nat, k ≤ y.2.2.1.length ∧ i = .int .i64 k ∧ Hid (RB W wr (W.heap.size + 1) W.heap.size (orE b5 (foldE fFunc (y.2.2.1.take k))) (0 + 1 + sumC cSig y.1 + 1 + sumC cImport y.2.1 + 1 + sumC cFunc (y.2.2.1.take k)) [.slice a1 y.1.length k1, .slice a2 y.2.1.length k2, .slice a3 y.2.2.1.length k3, .int .i64 y.2.2.2.1, .int .i64 y.2.2.2.2.1, .int .i64 y.2.2.2.2.2.1, .slice a4 y.2.2.2.2.2.2.1.length k4, .slice a5 y.2.2.2.2.2.2.2.1.length k5, .int .i64 y.2.2.2.2.2.2.2.2.1, .slice a6 y.2.2.2.2.2.2.2.2.2.1.length k6, .slice a7 y.2.2.2.2.2.2.2.2.2.2.1.length k7])) (fun _ i _ => y.2.2.1.length - (RowKit.intOf i).toNat)
      case atStart => exact ⟨0, Nat.zero_le _, rfl, hid (R5.out.cast (orE_none b5).symm (by omega))⟩
      case round =>
       obtain ⟨k, hk, rfl, LL⟩ := hrel
       by_cases hlt : k < y.2.2.1.length
       ·obtain ⟨lb, lo, cap', cs, hv, hc9, hc8, _, hR, hcc⟩ := sliceR_at K3.out (by decide) k hlt
        simp only [Value.slice.injEq] at hv
        obtain ⟨rfl, -, rfl⟩ := hv
        have HNX := hid (foldE_next fFunc y.2.2.1 k hlt b5)
        have HCX := hid (sumC_next cFunc y.2.2.1 k hlt)
        have HCL := hid (sumC_le cFunc y.2.2.1 (k + 1))
        generalize hcur : orE b5 (foldE fFunc (y.2.2.1.take k)) = cur at *
        generalize y.2.2.1[k] = z at *
        clear hcur
        have HBW := hid LL.out.bel
        have HRK := hid hR
        obtain ⟨_, _, rfl, ⟨rfl, _⟩, _, _, rfl, g1, _, _, rfl, g2, rfl⟩ := hR
        obtain ⟨q1, rfl⟩ := sl_one g1
        have Jq1 := hid (kinds_of g1)
        obtain ⟨e1, d1, rfl, _, _, _⟩ := sl_shape g1
        obtain ⟨q2, rfl⟩ := sl_one g2
        have HBO := hid (body_of g2)
        obtain ⟨e2, d2, rfl, _, _, _⟩ := sl_shape g2
        clear g1 g2
        have y0 : wr.cell? ⟨lb, lo + k * 3, none⟩ = some (.int .i64 z.1) := hcc wr HBW.out 0 (by decide)
        have y1 : wr.cell? ⟨lb, lo + k * 3 + 1, none⟩ = some (.slice e1 z.2.1.length d1) := hcc wr HBW.out 1 (by decide)
        have y2 : wr.cell? ⟨lb, lo + k * 3 + 2, none⟩ = some (.slice e2 z.2.2.1.length d2) := hcc wr HBW.out 2 (by decide)
        clear hcc
        have XB := hid (show wr.heap.size ≠ (W.heap.size + 1) from fun e => by have := LL.out.rf.lt; omega)
        have XA0 := hid (Blk.new wr #[.int .i64 z.1, .slice e1 z.2.1.length d1, .slice e2 z.2.2.1.length d2] 59 _ rfl)
        have RA0 := hid (LL.out.alloc (.cells #[.int .i64 z.1, .slice e1 z.2.1.length d1, .slice e2 z.2.2.1.length d2] 59))
        have HN0 := hid (show 0 + 1 + sumC cSig y.1 + 1 + sumC cImport y.2.1 + 1 + sumC cFunc (y.2.2.1.take k) + cFunc z ≤ 1000000000 from by have h0 := HCX.out; have := HCL.out; have := HC1.out; have := HC2.out; have := HC3.out; have := HC4.out; have := HC5.out; have := HC6.out; have := HC7.out; omega)
        have HN1 := hid (show (0 + 1 + sumC cSig y.1 + 1 + sumC cImport y.2.1 + 1 + sumC cFunc (y.2.2.1.take k)) + cFunc z = 0 + 1 + sumC cSig y.1 + 1 + sumC cImport y.2.1 + 1 + sumC cFunc (y.2.2.1.take (k + 1)) from by have h0 := HCX.out; omega)
        generalize (0 + 1 + sumC cSig y.1 + 1 + sumC cImport y.2.1 + 1 + sumC cFunc (y.2.2.1.take k)) = nk at LL RA0 HN0 HN1
        go_wp2_with fail
        refine (ridx_any _ W.heap.size (W.heap.size + 1) nk cur z.1 (by have h0 := HN0.out; unfold cFunc at h0; omega) RA0.out.rf).mono ?_
        rintro r v1 hp
        have RA1 := hid (RA0.out.next hp)
        have XA1 := hid (X_next XA0.out XB.out (by rfl) hp)
        obtain ⟨rfl, -⟩ := hp
        have x1 := XA1.out.cell (i := 1) rfl
        go_wp2_with fail
        clear x1
        refine (rkinds_any _ W.heap.size (W.heap.size + 1) (nk + 1) (orE cur (fIdx z.1)) _ z.2.1 16 (fun w' hb _ => L1.below Jq1.out (RA1.out.bel.trans hb)) (by have h0 := HN0.out; unfold cFunc at h0; omega) RA1.out.rf).mono ?_
        rintro r v2 hp
        have RA2 := hid (RA1.out.next hp)
        have XA2 := hid (X_next XA1.out XB.out (by rfl) hp)
        obtain ⟨rfl, -⟩ := hp
        have x2 := XA2.out.cell (i := 2) rfl
        go_wp2_with fail
        clear x2
        refine (rncheck_any _ _ (z.2.2.1.map itOf) HBO.out.2 (HBO.out.1.below RA2.out.bel) (HML.out _ RA2.out.bel)).mono ?_
        rintro r v9 ⟨rfl, hb9⟩
        have RA9 := hid (RA2.out.below hb9)
        have XA9 := hid (XA2.out.below hb9)
        clear hb9
        go_wp2_with fail
        refine (rsays_any _ W.heap.size (W.heap.size + 1) _ (orE (orE cur (fIdx z.1)) (eachE fKind z.2.1 16)) (ncM (z.2.2.1.map itOf)) (by have h0 := HN0.out; unfold cFunc at h0; omega) RA9.out.rf).mono ?_
        rintro r v3 hp
        have RA3 := hid (RA9.out.next hp)
        have XA3 := hid (X_next XA9.out XB.out (by rfl) hp)
        obtain ⟨rfl, -⟩ := hp
        go_wp2_with fail
        go_roundw
        case rel => exact ⟨k + 1, by omega, by go_num, hid (RA3.out.cast (by rw [← HNX.out]; unfold fFunc; rw [← orE_assoc, ← orE_assoc]) (by have h0 := HN1.out; have h1 : cFunc z = 1 + (z.2.1.length + 1) + 1 := rfl; first | omega | (simp only [List.length_cons, List.length_nil]; omega)))⟩
        case measure => simp [RowKit.intOf]; omega
       ·obtain rfl : k = y.2.2.1.length := by omega
        have R6x := LL.out
        rw [foldE_full fFunc y.2.2.1 b5, List.take_length] at R6x
        obtain ⟨b6, hb6⟩ : ∃ b, orE b5 (foldE fFunc y.2.2.1) = b := ⟨_, rfl⟩
        rw [hb6] at R6x
        have HB6 := hid hb6
        have R6 := hid R6x
        clear hb6 R6x LL hk
        have m3 := R6.out.m.cell (i := 3) rfl
        go_wp2_with fail
        clear m3
        refine (rad_any _ _ (W.heap.size + 1) (0 + 1 + sumC cSig y.1 + 1 + sumC cImport y.2.1 + 1 + sumC cFunc y.2.2.1) _ 1 (decide (y.2.2.2.1 < 0)) (fun _ => by decide) (by have := HC1.out; have := HC2.out; have := HC3.out; have := HC4.out; have := HC5.out; have := HC6.out; have := HC7.out; omega) R6.out.rf).mono ?_
        rintro r w7 hp
        have R7x := R6.out.next hp
        rw [gt_le] at R7x
        obtain ⟨rfl, -⟩ := hp
        obtain ⟨b7, hb7⟩ : ∃ b, orE b6 (ndE (decide (0 ≤ y.2.2.2.1)) 1) = b := ⟨_, rfl⟩
        rw [hb7] at R7x
        have HB7 := hid hb7
        have R7 := hid R7x
        clear hb7 R7x
        have m3 := R7.out.m.cell (i := 3) rfl
        go_wp2_with fail
        clear m3
        refine (rad_any _ _ (W.heap.size + 1) (0 + 1 + sumC cSig y.1 + 1 + sumC cImport y.2.1 + 1 + sumC cFunc y.2.2.1 + 1) _ 2 (decide ((16 : Int) < y.2.2.2.1)) (fun _ => by decide) (by have := HC1.out; have := HC2.out; have := HC3.out; have := HC4.out; have := HC5.out; have := HC6.out; have := HC7.out; omega) R7.out.rf).mono ?_
        rintro r w8 hp
        have R8x := R7.out.next hp
        rw [gt_le] at R8x
        obtain ⟨rfl, -⟩ := hp
        obtain ⟨b8, hb8⟩ : ∃ b, orE b7 (ndE (decide (y.2.2.2.1 ≤ 16)) 2) = b := ⟨_, rfl⟩
        rw [hb8] at R8x
        have HB8 := hid hb8
        have R8 := hid R8x
        clear hb8 R8x
        have m4 := R8.out.m.cell (i := 4) rfl
        have m5 := R8.out.m.cell (i := 5) rfl
        go_wp2_with fail
        clear m4 m5
        refine (rad_any _ _ (W.heap.size + 1) (0 + 1 + sumC cSig y.1 + 1 + sumC cImport y.2.1 + 1 + sumC cFunc y.2.2.1 + 1 + 1) _ 1 (decide (y.2.2.2.2.2.1 < y.2.2.2.2.1)) (fun _ => by decide) (by have := HC1.out; have := HC2.out; have := HC3.out; have := HC4.out; have := HC5.out; have := HC6.out; have := HC7.out; omega) R8.out.rf).mono ?_
        rintro r w9 hp
        have R9x := R8.out.next hp
        rw [HPQ.out] at R9x
        obtain ⟨rfl, -⟩ := hp
        obtain ⟨b9, hb9⟩ : ∃ b, orE b8 (ndE (okPg y.2.2.2.2.1 y.2.2.2.2.2.1) 1) = b := ⟨_, rfl⟩
        rw [hb9] at R9x
        have HB9 := hid hb9
        have R9 := hid R9x
        clear hb9 R9x
        have m5 := R9.out.m.cell (i := 5) rfl
        go_wp2_with fail
        clear m5
        refine (rad_any _ _ (W.heap.size + 1) (0 + 1 + sumC cSig y.1 + 1 + sumC cImport y.2.1 + 1 + sumC cFunc y.2.2.1 + 1 + 1 + 1) _ 2 (decide ((8 : Int) < y.2.2.2.2.2.1)) (fun _ => by decide) (by have := HC1.out; have := HC2.out; have := HC3.out; have := HC4.out; have := HC5.out; have := HC6.out; have := HC7.out; omega) R9.out.rf).mono ?_
        rintro r w10 hp
        have R10x := R9.out.next hp
        rw [gt_le] at R10x
        obtain ⟨rfl, -⟩ := hp
        obtain ⟨b10, hb10⟩ : ∃ b, orE b9 (ndE (decide (y.2.2.2.2.2.1 ≤ 8)) 2) = b := ⟨_, rfl⟩
        rw [hb10] at R10x
        have HB10 := hid hb10
        have R10 := hid R10x
        clear hb10 R10x
        have m6 := R10.out.m.cell (i := 6) rfl
        go_wp2_with fail
        clear m6
        refine (rad_any _ _ (W.heap.size + 1) (0 + 1 + sumC cSig y.1 + 1 + sumC cImport y.2.1 + 1 + sumC cFunc y.2.2.1 + 1 + 1 + 1 + 1) _ 2 (decide ((8 : Int) < (y.2.2.2.2.2.2.1.length : Int))) (fun _ => by decide) (by have := HC1.out; have := HC2.out; have := HC3.out; have := HC4.out; have := HC5.out; have := HC6.out; have := HC7.out; omega) R10.out.rf).mono ?_
        rintro r w11 hp
        have R11x := R10.out.next hp
        rw [gt_le] at R11x
        obtain ⟨rfl, -⟩ := hp
        obtain ⟨b11, hb11⟩ : ∃ b, orE b10 (ndE (decide ((y.2.2.2.2.2.2.1.length : Int) ≤ 8)) 2) = b := ⟨_, rfl⟩
        rw [hb11] at R11x
        have HB11 := hid hb11
        have R11 := hid R11x
        clear hb11 R11x
        have m6 := R11.out.m.cell (i := 6) rfl
        go_wp2_with fail
        clear m6
        go_loopw [11, 112] (fun _ i wr => ∃ k : Nat, k ≤ y.2.2.2.2.2.2.1.length ∧ i = .int .i64 k ∧ Hid (RB W wr (W.heap.size + 1) W.heap.size (orE b11 (foldE fGlobal (y.2.2.2.2.2.2.1.take k))) (0 + 1 + sumC cSig y.1 + 1 + sumC cImport y.2.1 + 1 + sumC cFunc y.2.2.1 + 1 + 1 + 1 + 1 + 1 + sumC cGlobal (y.2.2.2.2.2.2.1.take k)) [.slice a1 y.1.length k1, .slice a2 y.2.1.length k2, .slice a3 y.2.2.1.length k3, .int .i64 y.2.2.2.1, .int .i64 y.2.2.2.2.1, .int .i64 y.2.2.2.2.2.1, .slice a4 y.2.2.2.2.2.2.1.length k4, .slice a5 y.2.2.2.2.2.2.2.1.length k5, .int .i64 y.2.2.2.2.2.2.2.2.1, .slice a6 y.2.2.2.2.2.2.2.2.2.1.length k6, .slice a7 y.2.2.2.2.2.2.2.2.2.2.1.length k7])) (fun _ i _ => y.2.2.2.2.2.2.1.length - (RowKit.intOf i).toNat)
        case atStart => exact ⟨0, Nat.zero_le _, rfl, hid (R11.out.cast (orE_none b11).symm (by omega))⟩
        case round =>
         obtain ⟨k, hk, rfl, LL⟩ := hrel
         by_cases hlt : k < y.2.2.2.2.2.2.1.length
         ·obtain ⟨lb, lo, cap', cs, hv, hc9, hc8, _, hR, hcc⟩ := sliceR_at K4.out (by decide) k hlt
          simp only [Value.slice.injEq] at hv
          obtain ⟨rfl, -, rfl⟩ := hv
          have HNX := hid (foldE_next fGlobal y.2.2.2.2.2.2.1 k hlt b11)
          have HCX := hid (sumC_next cGlobal y.2.2.2.2.2.2.1 k hlt)
          have HCL := hid (sumC_le cGlobal y.2.2.2.2.2.2.1 (k + 1))
          generalize hcur : orE b11 (foldE fGlobal (y.2.2.2.2.2.2.1.take k)) = cur at *
          generalize y.2.2.2.2.2.2.1[k] = z at *
          clear hcur
          have HBW := hid LL.out.bel
          have HRK := hid hR
          obtain ⟨zk, zm, zn, zu⟩ := z
          obtain ⟨_, _, rfl, ⟨rfl, _⟩, _, _, rfl, rfl, _, _, rfl, ⟨rfl, _⟩, rfl⟩ := hR
          have y0 : wr.cell? ⟨lb, lo + k * 3, none⟩ = some (.int .u8 zk) := hcc wr HBW.out 0 (by decide)
          have y1 : wr.cell? ⟨lb, lo + k * 3 + 1, none⟩ = some (.bool zm) := hcc wr HBW.out 1 (by decide)
          have y2 : wr.cell? ⟨lb, lo + k * 3 + 2, none⟩ = some (.int .i64 zn) := hcc wr HBW.out 2 (by decide)
          clear hcc
          have XB := hid (show wr.heap.size ≠ (W.heap.size + 1) from fun e => by have := LL.out.rf.lt; omega)
          have XA0 := hid (Blk.new wr #[.int .u8 zk, .bool zm, .int .i64 zn] 64 _ rfl)
          have RA0 := hid (LL.out.alloc (.cells #[.int .u8 zk, .bool zm, .int .i64 zn] 64))
          have HN0 := hid (show 0 + 1 + sumC cSig y.1 + 1 + sumC cImport y.2.1 + 1 + sumC cFunc y.2.2.1 + 1 + 1 + 1 + 1 + 1 + sumC cGlobal (y.2.2.2.2.2.2.1.take k) + cGlobal (zk, zm, zn, zu) ≤ 1000000000 from by have h0 := HCX.out; have := HCL.out; have := HC1.out; have := HC2.out; have := HC3.out; have := HC4.out; have := HC5.out; have := HC6.out; have := HC7.out; omega)
          have HN1 := hid (show (0 + 1 + sumC cSig y.1 + 1 + sumC cImport y.2.1 + 1 + sumC cFunc y.2.2.1 + 1 + 1 + 1 + 1 + 1 + sumC cGlobal (y.2.2.2.2.2.2.1.take k)) + cGlobal (zk, zm, zn, zu) = 0 + 1 + sumC cSig y.1 + 1 + sumC cImport y.2.1 + 1 + sumC cFunc y.2.2.1 + 1 + 1 + 1 + 1 + 1 + sumC cGlobal (y.2.2.2.2.2.2.1.take (k + 1)) from by have h0 := HCX.out; omega)
          generalize (0 + 1 + sumC cSig y.1 + 1 + sumC cImport y.2.1 + 1 + sumC cFunc y.2.2.1 + 1 + 1 + 1 + 1 + 1 + sumC cGlobal (y.2.2.2.2.2.2.1.take k)) = nk at LL RA0 HN0 HN1
          have RA0b := hid (RA0.out.alloc (.cells #[.int .u8 zk] 62))
          have XA0b := hid (XA0.out.below ((Below.refl _ _).alloc (Nat.le_refl _) (.cells #[.int .u8 zk] 62)))
          have XK := hid (Blk.new (wr.alloc (.cells #[.int .u8 zk, .bool zm, .int .i64 zn] 64)) #[.int .u8 zk] 62 (wr.heap.size + 1) (by simp))
          have XKB := hid (show wr.heap.size + 1 ≠ (W.heap.size + 1) from fun e => by have := LL.out.rf.lt; omega)
          go_wp2_with fail
          refine (rkinds_any _ W.heap.size (W.heap.size + 1) nk cur _ [zk] 1 (kind_one XK.out XKB.out) (by have h0 := HN0.out; unfold cGlobal at h0; simp only [List.length_cons, List.length_nil]; omega) RA0b.out.rf).mono ?_
          rintro r v1 hp
          have RA1 := hid (RA0b.out.next hp)
          have XA1 := hid (X_next XA0b.out XB.out (by rfl) hp)
          obtain ⟨rfl, -⟩ := hp
          rw [eachE_one] at RA1
          rcases (show (zk = 127 ∧ zn < -2147483648) ∨ (zk = 127 ∧ ¬ zn < -2147483648 ∧ 2147483647 < zn) ∨ (zk = 127 ∧ ¬ zn < -2147483648 ∧ ¬ 2147483647 < zn) ∨ ¬ zk = 127 from by omega) with ⟨rfl, g1⟩ | ⟨rfl, g1, g2⟩ | ⟨rfl, g1, g2⟩ | g1
          ·have HOK := hid (show okG 127 zn = false from by unfold okG; first | exact decide_eq_true (by omega) | exact decide_eq_false (by omega))
           have d1 : decide (zn < -2147483648) = true := decide_eq_true g1
           have x0 := XA1.out.cell (i := 0) rfl
           have x2 := XA1.out.cell (i := 2) rfl
           go_wp2_with fail
           clear x0 x2
           refine (rad_any _ W.heap.size (W.heap.size + 1) _ _ 1 true (fun _ => by decide) (by have h0 := HN0.out; unfold cGlobal at h0; simp only [List.length_cons, List.length_nil]; omega) RA1.out.rf).mono ?_
           rintro r v2 hp
           have RA2 := hid (RA1.out.next hp)
           have XA2 := hid (X_next XA1.out XB.out (by rfl) hp)
           obtain ⟨rfl, -⟩ := hp
           go_wp2_with fail
           go_roundw
           case rel => exact ⟨k + 1, by omega, by go_num, hid (RA2.out.cast (by rw [← HNX.out]; unfold fGlobal; simp only; rw [HOK.out, ← orE_assoc]; rfl) (by have h0 := HN1.out; have h1 : cGlobal (127, zm, zn, zu) = 3 := rfl; first | omega | (simp only [List.length_cons, List.length_nil]; omega)))⟩
           case measure => simp [RowKit.intOf]; omega
          ·have HOK := hid (show okG 127 zn = false from by unfold okG; first | exact decide_eq_true (by omega) | exact decide_eq_false (by omega))
           have d1 : decide (zn < -2147483648) = false := decide_eq_false g1
           have d2 : decide (2147483647 < zn) = true := decide_eq_true g2
           have x0 := XA1.out.cell (i := 0) rfl
           have x2 := XA1.out.cell (i := 2) rfl
           go_wp2_with fail
           clear x0 x2
           refine (rad_any _ W.heap.size (W.heap.size + 1) _ _ 1 true (fun _ => by decide) (by have h0 := HN0.out; unfold cGlobal at h0; simp only [List.length_cons, List.length_nil]; omega) RA1.out.rf).mono ?_
           rintro r v2 hp
           have RA2 := hid (RA1.out.next hp)
           have XA2 := hid (X_next XA1.out XB.out (by rfl) hp)
           obtain ⟨rfl, -⟩ := hp
           go_wp2_with fail
           go_roundw
           case rel => exact ⟨k + 1, by omega, by go_num, hid (RA2.out.cast (by rw [← HNX.out]; unfold fGlobal; simp only; rw [HOK.out, ← orE_assoc]; rfl) (by have h0 := HN1.out; have h1 : cGlobal (127, zm, zn, zu) = 3 := rfl; first | omega | (simp only [List.length_cons, List.length_nil]; omega)))⟩
           case measure => simp [RowKit.intOf]; omega
          ·have HOK := hid (show okG 127 zn = true from by unfold okG; first | exact decide_eq_true (by omega) | exact decide_eq_false (by omega))
           have d1 : decide (zn < -2147483648) = false := decide_eq_false g1
           have d2 : decide (2147483647 < zn) = false := decide_eq_false g2
           have x0 := XA1.out.cell (i := 0) rfl
           have x2 := XA1.out.cell (i := 2) rfl
           go_wp2_with fail
           clear x0 x2
           refine (rad_any _ W.heap.size (W.heap.size + 1) _ _ 1 false (fun _ => by decide) (by have h0 := HN0.out; unfold cGlobal at h0; simp only [List.length_cons, List.length_nil]; omega) RA1.out.rf).mono ?_
           rintro r v2 hp
           have RA2 := hid (RA1.out.next hp)
           have XA2 := hid (X_next XA1.out XB.out (by rfl) hp)
           obtain ⟨rfl, -⟩ := hp
           go_wp2_with fail
           go_roundw
           case rel => exact ⟨k + 1, by omega, by go_num, hid (RA2.out.cast (by rw [← HNX.out]; unfold fGlobal; simp only; rw [HOK.out, ← orE_assoc]; rfl) (by have h0 := HN1.out; have h1 : cGlobal (127, zm, zn, zu) = 3 := rfl; first | omega | (simp only [List.length_cons, List.length_nil]; omega)))⟩
           case measure => simp [RowKit.intOf]; omega
          ·have HOK := hid (show okG zk zn = true from by unfold okG; first | exact decide_eq_true (by omega) | exact decide_eq_false (by omega))
           have d1 : (zk == 127) = false := by simpa using g1
           have x0 := XA1.out.cell (i := 0) rfl
           have x2 := XA1.out.cell (i := 2) rfl
           go_wp2_with fail
           clear x0 x2
           refine (rad_any _ W.heap.size (W.heap.size + 1) _ _ 1 false (fun _ => by decide) (by have h0 := HN0.out; unfold cGlobal at h0; simp only [List.length_cons, List.length_nil]; omega) RA1.out.rf).mono ?_
           rintro r v2 hp
           have RA2 := hid (RA1.out.next hp)
           have XA2 := hid (X_next XA1.out XB.out (by rfl) hp)
           obtain ⟨rfl, -⟩ := hp
           go_wp2_with fail
           go_roundw
           case rel => exact ⟨k + 1, by omega, by go_num, hid (RA2.out.cast (by rw [← HNX.out]; unfold fGlobal; simp only; rw [HOK.out, ← orE_assoc]; rfl) (by have h0 := HN1.out; have h1 : cGlobal (zk, zm, zn, zu) = 3 := rfl; first | omega | (simp only [List.length_cons, List.length_nil]; omega)))⟩
           case measure => simp [RowKit.intOf]; omega
         ·obtain rfl : k = y.2.2.2.2.2.2.1.length := by omega
          have R12x := LL.out
          rw [foldE_full fGlobal y.2.2.2.2.2.2.1 b11, List.take_length] at R12x
          obtain ⟨b12, hb12⟩ : ∃ b, orE b11 (foldE fGlobal y.2.2.2.2.2.2.1) = b := ⟨_, rfl⟩
          rw [hb12] at R12x
          have HB12 := hid hb12
          have R12 := hid R12x
          clear hb12 R12x LL hk
          have m7 := R12.out.m.cell (i := 7) rfl
          go_wp2_with fail
          clear m7
          refine (rad_any _ _ (W.heap.size + 1) (0 + 1 + sumC cSig y.1 + 1 + sumC cImport y.2.1 + 1 + sumC cFunc y.2.2.1 + 1 + 1 + 1 + 1 + 1 + sumC cGlobal y.2.2.2.2.2.2.1) _ 2 (decide ((8 : Int) < (y.2.2.2.2.2.2.2.1.length : Int))) (fun _ => by decide) (by have := HC1.out; have := HC2.out; have := HC3.out; have := HC4.out; have := HC5.out; have := HC6.out; have := HC7.out; omega) R12.out.rf).mono ?_
          rintro r w13 hp
          have R13x := R12.out.next hp
          rw [gt_le] at R13x
          obtain ⟨rfl, -⟩ := hp
          obtain ⟨b13, hb13⟩ : ∃ b, orE b12 (ndE (decide ((y.2.2.2.2.2.2.2.1.length : Int) ≤ 8)) 2) = b := ⟨_, rfl⟩
          rw [hb13] at R13x
          have HB13 := hid hb13
          have R13 := hid R13x
          clear hb13 R13x
          have m7 := R13.out.m.cell (i := 7) rfl
          go_wp2_with fail
          clear m7
          go_loopw [13, 143] (fun _ i wr => ∃ k : Nat, k ≤ y.2.2.2.2.2.2.2.1.length ∧ i = .int .i64 k ∧ Hid (RB W wr (W.heap.size + 1) W.heap.size (orE b13 (foldE fExport (y.2.2.2.2.2.2.2.1.take k))) (0 + 1 + sumC cSig y.1 + 1 + sumC cImport y.2.1 + 1 + sumC cFunc y.2.2.1 + 1 + 1 + 1 + 1 + 1 + sumC cGlobal y.2.2.2.2.2.2.1 + 1 + sumC cExport (y.2.2.2.2.2.2.2.1.take k)) [.slice a1 y.1.length k1, .slice a2 y.2.1.length k2, .slice a3 y.2.2.1.length k3, .int .i64 y.2.2.2.1, .int .i64 y.2.2.2.2.1, .int .i64 y.2.2.2.2.2.1, .slice a4 y.2.2.2.2.2.2.1.length k4, .slice a5 y.2.2.2.2.2.2.2.1.length k5, .int .i64 y.2.2.2.2.2.2.2.2.1, .slice a6 y.2.2.2.2.2.2.2.2.2.1.length k6, .slice a7 y.2.2.2.2.2.2.2.2.2.2.1.length k7])) (fun _ i _ => y.2.2.2.2.2.2.2.1.length - (RowKit.intOf i).toNat)
          case atStart => exact ⟨0, Nat.zero_le _, rfl, hid (R13.out.cast (orE_none b13).symm (by omega))⟩
          case round =>
           obtain ⟨k, hk, rfl, LL⟩ := hrel
           by_cases hlt : k < y.2.2.2.2.2.2.2.1.length
           ·obtain ⟨lb, lo, cap', cs, hv, hc9, hc8, _, hR, hcc⟩ := sliceR_at K5.out (by decide) k hlt
            simp only [Value.slice.injEq] at hv
            obtain ⟨rfl, -, rfl⟩ := hv
            have HNX := hid (foldE_next fExport y.2.2.2.2.2.2.2.1 k hlt b13)
            have HCX := hid (sumC_next cExport y.2.2.2.2.2.2.2.1 k hlt)
            have HCL := hid (sumC_le cExport y.2.2.2.2.2.2.2.1 (k + 1))
            generalize hcur : orE b13 (foldE fExport (y.2.2.2.2.2.2.2.1.take k)) = cur at *
            generalize y.2.2.2.2.2.2.2.1[k] = z at *
            clear hcur
            have HBW := hid LL.out.bel
            have HRK := hid hR
            obtain ⟨_, _, rfl, ⟨rfl, hs⟩, _, _, rfl, ⟨rfl, _⟩, rfl⟩ := hR
            have HSZ := hid hs
            clear hs
            have y0 : wr.cell? ⟨lb, lo + k * 2, none⟩ = some (.string z.1) := hcc wr HBW.out 0 (by decide)
            have y1 : wr.cell? ⟨lb, lo + k * 2 + 1, none⟩ = some (.int .i64 z.2.1) := hcc wr HBW.out 1 (by decide)
            clear hcc
            have XB := hid (show wr.heap.size ≠ (W.heap.size + 1) from fun e => by have := LL.out.rf.lt; omega)
            have XA0 := hid (Blk.new wr #[.string z.1, .int .i64 z.2.1] 68 _ rfl)
            have RA0 := hid (LL.out.alloc (.cells #[.string z.1, .int .i64 z.2.1] 68))
            have HN0 := hid (show 0 + 1 + sumC cSig y.1 + 1 + sumC cImport y.2.1 + 1 + sumC cFunc y.2.2.1 + 1 + 1 + 1 + 1 + 1 + sumC cGlobal y.2.2.2.2.2.2.1 + 1 + sumC cExport (y.2.2.2.2.2.2.2.1.take k) + cExport z ≤ 1000000000 from by have h0 := HCX.out; have := HCL.out; have := HC1.out; have := HC2.out; have := HC3.out; have := HC4.out; have := HC5.out; have := HC6.out; have := HC7.out; omega)
            have HN1 := hid (show (0 + 1 + sumC cSig y.1 + 1 + sumC cImport y.2.1 + 1 + sumC cFunc y.2.2.1 + 1 + 1 + 1 + 1 + 1 + sumC cGlobal y.2.2.2.2.2.2.1 + 1 + sumC cExport (y.2.2.2.2.2.2.2.1.take k)) + cExport z = 0 + 1 + sumC cSig y.1 + 1 + sumC cImport y.2.1 + 1 + sumC cFunc y.2.2.1 + 1 + 1 + 1 + 1 + 1 + sumC cGlobal y.2.2.2.2.2.2.1 + 1 + sumC cExport (y.2.2.2.2.2.2.2.1.take (k + 1)) from by have h0 := HCX.out; omega)
            generalize (0 + 1 + sumC cSig y.1 + 1 + sumC cImport y.2.1 + 1 + sumC cFunc y.2.2.1 + 1 + 1 + 1 + 1 + 1 + sumC cGlobal y.2.2.2.2.2.2.1 + 1 + sumC cExport (y.2.2.2.2.2.2.2.1.take k)) = nk at LL RA0 HN0 HN1
            go_wp2_with fail
            refine (rnm_any _ W.heap.size (W.heap.size + 1) nk cur z.1 HSZ.out (by have h0 := HN0.out; unfold cExport at h0; omega) RA0.out.rf RA0.out.rf.base).mono ?_
            rintro r v1 hp
            have RA1 := hid (RA0.out.next hp)
            have XA1 := hid (X_next XA0.out XB.out (by rfl) hp)
            obtain ⟨rfl, -⟩ := hp
            have x1 := XA1.out.cell (i := 1) rfl
            go_wp2_with fail
            clear x1
            refine (ridx_any _ W.heap.size (W.heap.size + 1) (nk + 1) (orE cur (nameE z.1)) z.2.1 (by have h0 := HN0.out; unfold cExport at h0; omega) RA1.out.rf).mono ?_
            rintro r v2 hp
            have RA2 := hid (RA1.out.next hp)
            have XA2 := hid (X_next XA1.out XB.out (by rfl) hp)
            obtain ⟨rfl, -⟩ := hp
            go_wp2_with fail
            go_roundw
            case rel => exact ⟨k + 1, by omega, by go_num, hid (RA2.out.cast (by rw [← HNX.out]; unfold fExport; rw [← orE_assoc]) (by have h0 := HN1.out; have h1 : cExport z = 2 := rfl; first | omega | (simp only [List.length_cons, List.length_nil]; omega)))⟩
            case measure => simp [RowKit.intOf]; omega
           ·obtain rfl : k = y.2.2.2.2.2.2.2.1.length := by omega
            have R14x := LL.out
            rw [foldE_full fExport y.2.2.2.2.2.2.2.1 b13, List.take_length] at R14x
            obtain ⟨b14, hb14⟩ : ∃ b, orE b13 (foldE fExport y.2.2.2.2.2.2.2.1) = b := ⟨_, rfl⟩
            rw [hb14] at R14x
            have HB14 := hid hb14
            have R14 := hid R14x
            clear hb14 R14x LL hk
            have m8 := R14.out.m.cell (i := 8) rfl
            go_wp2_with fail
            clear m8
            refine (ridx_any _ _ (W.heap.size + 1) (0 + 1 + sumC cSig y.1 + 1 + sumC cImport y.2.1 + 1 + sumC cFunc y.2.2.1 + 1 + 1 + 1 + 1 + 1 + sumC cGlobal y.2.2.2.2.2.2.1 + 1 + sumC cExport y.2.2.2.2.2.2.2.1) _ y.2.2.2.2.2.2.2.2.1 (by have := HC1.out; have := HC2.out; have := HC3.out; have := HC4.out; have := HC5.out; have := HC6.out; have := HC7.out; omega) R14.out.rf).mono ?_
            rintro r w15 hp
            have R15x := R14.out.next hp
            obtain ⟨rfl, -⟩ := hp
            obtain ⟨b15, hb15⟩ : ∃ b, orE b14 (fIdx y.2.2.2.2.2.2.2.2.1) = b := ⟨_, rfl⟩
            rw [hb15] at R15x
            have HB15 := hid hb15
            have R15 := hid R15x
            clear hb15 R15x
            have m9 := R15.out.m.cell (i := 9) rfl
            go_wp2_with fail
            clear m9
            refine (rad_any _ _ (W.heap.size + 1) (0 + 1 + sumC cSig y.1 + 1 + sumC cImport y.2.1 + 1 + sumC cFunc y.2.2.1 + 1 + 1 + 1 + 1 + 1 + sumC cGlobal y.2.2.2.2.2.2.1 + 1 + sumC cExport y.2.2.2.2.2.2.2.1 + 1) _ 2 (decide ((4 : Int) < (y.2.2.2.2.2.2.2.2.2.1.length : Int))) (fun _ => by decide) (by have := HC1.out; have := HC2.out; have := HC3.out; have := HC4.out; have := HC5.out; have := HC6.out; have := HC7.out; omega) R15.out.rf).mono ?_
            rintro r w16 hp
            have R16x := R15.out.next hp
            rw [gt_le] at R16x
            obtain ⟨rfl, -⟩ := hp
            obtain ⟨b16, hb16⟩ : ∃ b, orE b15 (ndE (decide ((y.2.2.2.2.2.2.2.2.2.1.length : Int) ≤ 4)) 2) = b := ⟨_, rfl⟩
            rw [hb16] at R16x
            have HB16 := hid hb16
            have R16 := hid R16x
            clear hb16 R16x
            have m9 := R16.out.m.cell (i := 9) rfl
            go_wp2_with fail
            clear m9
            go_loopw [15, 165] (fun _ i wr => ∃ k : Nat, k ≤ y.2.2.2.2.2.2.2.2.2.1.length ∧ i = .int .i64 k ∧ Hid (RB W wr (W.heap.size + 1) W.heap.size (orE b16 (foldE fElem (y.2.2.2.2.2.2.2.2.2.1.take k))) (0 + 1 + sumC cSig y.1 + 1 + sumC cImport y.2.1 + 1 + sumC cFunc y.2.2.1 + 1 + 1 + 1 + 1 + 1 + sumC cGlobal y.2.2.2.2.2.2.1 + 1 + sumC cExport y.2.2.2.2.2.2.2.1 + 1 + 1 + sumC cElem (y.2.2.2.2.2.2.2.2.2.1.take k)) [.slice a1 y.1.length k1, .slice a2 y.2.1.length k2, .slice a3 y.2.2.1.length k3, .int .i64 y.2.2.2.1, .int .i64 y.2.2.2.2.1, .int .i64 y.2.2.2.2.2.1, .slice a4 y.2.2.2.2.2.2.1.length k4, .slice a5 y.2.2.2.2.2.2.2.1.length k5, .int .i64 y.2.2.2.2.2.2.2.2.1, .slice a6 y.2.2.2.2.2.2.2.2.2.1.length k6, .slice a7 y.2.2.2.2.2.2.2.2.2.2.1.length k7])) (fun _ i _ => y.2.2.2.2.2.2.2.2.2.1.length - (RowKit.intOf i).toNat)
            case atStart => exact ⟨0, Nat.zero_le _, rfl, hid (R16.out.cast (orE_none b16).symm (by omega))⟩
            case round =>
             obtain ⟨k, hk, rfl, LL⟩ := hrel
             by_cases hlt : k < y.2.2.2.2.2.2.2.2.2.1.length
             ·obtain ⟨lb, lo, cap', cs, hv, hc9, hc8, _, hR, hcc⟩ := sliceR_at K6.out (by decide) k hlt
              simp only [Value.slice.injEq] at hv
              obtain ⟨rfl, -, rfl⟩ := hv
              have HNX := hid (foldE_next fElem y.2.2.2.2.2.2.2.2.2.1 k hlt b16)
              have HCX := hid (sumC_next cElem y.2.2.2.2.2.2.2.2.2.1 k hlt)
              have HCL := hid (sumC_le cElem y.2.2.2.2.2.2.2.2.2.1 (k + 1))
              generalize hcur : orE b16 (foldE fElem (y.2.2.2.2.2.2.2.2.2.1.take k)) = cur at *
              generalize y.2.2.2.2.2.2.2.2.2.1[k] = z at *
              clear hcur
              have HBW := hid LL.out.bel
              have HRK := hid hR
              obtain ⟨_, _, rfl, ⟨rfl, _⟩, _, _, rfl, g1, rfl⟩ := hR
              obtain ⟨q1, rfl⟩ := sl_one g1
              have Jq1 := hid (ints_of g1)
              obtain ⟨e1, d1, rfl, hz1, hz2, _⟩ := sl_shape g1
              have HZL := hid (And.intro hz1 hz2)
              clear g1 hz1 hz2
              have y0 : wr.cell? ⟨lb, lo + k * 2, none⟩ = some (.int .i64 z.1) := hcc wr HBW.out 0 (by decide)
              have y1 : wr.cell? ⟨lb, lo + k * 2 + 1, none⟩ = some (.slice e1 z.2.1.length d1) := hcc wr HBW.out 1 (by decide)
              clear hcc
              have XB := hid (show wr.heap.size ≠ (W.heap.size + 1) from fun e => by have := LL.out.rf.lt; omega)
              have XA0 := hid (Blk.new wr #[.int .i64 z.1, .slice e1 z.2.1.length d1] 73 _ rfl)
              have RA0 := hid (LL.out.alloc (.cells #[.int .i64 z.1, .slice e1 z.2.1.length d1] 73))
              have HN0 := hid (show 0 + 1 + sumC cSig y.1 + 1 + sumC cImport y.2.1 + 1 + sumC cFunc y.2.2.1 + 1 + 1 + 1 + 1 + 1 + sumC cGlobal y.2.2.2.2.2.2.1 + 1 + sumC cExport y.2.2.2.2.2.2.2.1 + 1 + 1 + sumC cElem (y.2.2.2.2.2.2.2.2.2.1.take k) + cElem z ≤ 1000000000 from by have h0 := HCX.out; have := HCL.out; have := HC1.out; have := HC2.out; have := HC3.out; have := HC4.out; have := HC5.out; have := HC6.out; have := HC7.out; omega)
              have HN1 := hid (show (0 + 1 + sumC cSig y.1 + 1 + sumC cImport y.2.1 + 1 + sumC cFunc y.2.2.1 + 1 + 1 + 1 + 1 + 1 + sumC cGlobal y.2.2.2.2.2.2.1 + 1 + sumC cExport y.2.2.2.2.2.2.2.1 + 1 + 1 + sumC cElem (y.2.2.2.2.2.2.2.2.2.1.take k)) + cElem z = 0 + 1 + sumC cSig y.1 + 1 + sumC cImport y.2.1 + 1 + sumC cFunc y.2.2.1 + 1 + 1 + 1 + 1 + 1 + sumC cGlobal y.2.2.2.2.2.2.1 + 1 + sumC cExport y.2.2.2.2.2.2.2.1 + 1 + 1 + sumC cElem (y.2.2.2.2.2.2.2.2.2.1.take (k + 1)) from by have h0 := HCX.out; omega)
              generalize (0 + 1 + sumC cSig y.1 + 1 + sumC cImport y.2.1 + 1 + sumC cFunc y.2.2.1 + 1 + 1 + 1 + 1 + 1 + sumC cGlobal y.2.2.2.2.2.2.1 + 1 + sumC cExport y.2.2.2.2.2.2.2.1 + 1 + 1 + sumC cElem (y.2.2.2.2.2.2.2.2.2.1.take k)) = nk at LL RA0 HN0 HN1
              go_wp2_with fail
              refine (rat_any _ W.heap.size (W.heap.size + 1) nk cur z.1 (by have h0 := HN0.out; unfold cElem at h0; omega) RA0.out.rf).mono ?_
              rintro r v1 hp
              have RA1 := hid (RA0.out.next hp)
              have XA1 := hid (X_next XA0.out XB.out (by rfl) hp)
              obtain ⟨rfl, -⟩ := hp
              have x1 := XA1.out.cell (i := 1) rfl
              go_wp2_with fail
              clear x1
              refine (rad_any _ W.heap.size (W.heap.size + 1) (nk + 1) (orE cur (fPlc z.1)) 2 (decide ((16 : Int) < (z.2.1.length : Int))) (fun _ => by decide) (by have h0 := HN0.out; unfold cElem at h0; omega) RA1.out.rf).mono ?_
              rintro r v2 hp
              have RA2 := hid (RA1.out.next hp)
              have XA2 := hid (X_next XA1.out XB.out (by rfl) hp)
              obtain ⟨rfl, -⟩ := hp
              rw [gt_le] at RA2
              have x1 := XA2.out.cell (i := 1) rfl
              have hzl : (z.2.1.length : Int) ≤ 9223372036854775807 := by have := HZL.out; omega
              go_wp2_with fail
              clear x1
              have HFZ := hid (foldE_full fIdx z.2.1 (orE (orE cur (fPlc z.1)) (ndE (decide ((z.2.1.length : Int) ≤ 16)) 2)))
              go_loopw [17, 180] (fun _ i wq => ∃ j : Nat, j ≤ z.2.1.length ∧ i = .int .i64 j ∧ Hid (RB W wq (W.heap.size + 1) W.heap.size (orE (orE (orE cur (fPlc z.1)) (ndE (decide ((z.2.1.length : Int) ≤ 16)) 2)) (foldE fIdx (z.2.1.take j))) (((nk + 1) + 1) + j) [.slice a1 y.1.length k1, .slice a2 y.2.1.length k2, .slice a3 y.2.2.1.length k3, .int .i64 y.2.2.2.1, .int .i64 y.2.2.2.2.1, .int .i64 y.2.2.2.2.2.1, .slice a4 y.2.2.2.2.2.2.1.length k4, .slice a5 y.2.2.2.2.2.2.2.1.length k5, .int .i64 y.2.2.2.2.2.2.2.2.1, .slice (some ⟨lb, lo, none⟩) y.2.2.2.2.2.2.2.2.2.1.length k6, .slice a7 y.2.2.2.2.2.2.2.2.2.2.1.length k7])) (fun _ i _ => z.2.1.length - (RowKit.intOf i).toNat)
              case atStart => exact ⟨0, Nat.zero_le _, rfl, hid (RA2.out.cast (orE_none _).symm (by omega))⟩
              case round =>
               obtain ⟨j, hj, rfl, LI⟩ := hrel
               by_cases hjl : j < z.2.1.length
               ·have hI := L1.below Jq1.out LI.out.bel
                rcases hI.open with ⟨_, _, _, e, _⟩ | ⟨ib, io, icap, hv, _, ic1, ic2, ic⟩
                ·rw [e] at hjl; simp at hjl
                simp only [Value.slice.injEq] at hv
                obtain ⟨rfl, -, rfl⟩ := hv
                have yi := ic j hjl
                have HIX := hid (foldE_next fIdx z.2.1 j hjl (orE (orE cur (fPlc z.1)) (ndE (decide ((z.2.1.length : Int) ≤ 16)) 2)))
                clear ic hI
                generalize orE (orE (orE cur (fPlc z.1)) (ndE (decide ((z.2.1.length : Int) ≤ 16)) 2)) (foldE fIdx (z.2.1.take j)) = ci at *
                generalize z.2.1[j] = yy at *
                go_wp2_with fail
                refine (ridx_any _ W.heap.size (W.heap.size + 1) _ ci yy (by have h0 := HN0.out; unfold cElem at h0; omega) LI.out.rf).mono ?_
                rintro r v8 hp
                have RI := hid (LI.out.next hp)
                obtain ⟨rfl, -⟩ := hp
                go_wp2_with fail
                go_roundw
                case rel => exact ⟨j + 1, by omega, by go_num, hid (RI.out.cast HIX.out (by omega))⟩
                case measure => simp [RowKit.intOf]; omega
               ·obtain rfl : j = z.2.1.length := by omega
                have RI := hid LI.out
                rw [HFZ.out] at RI
                go_wp2_with fail
                go_roundw
                case rel => exact ⟨k + 1, by omega, by go_num, hid (RI.out.cast (by rw [← HNX.out]; unfold fElem eachE; rw [← orE_assoc, ← orE_assoc]) (by have h0 := HN1.out; have h1 : cElem z = 2 + z.2.1.length := rfl; first | omega | (simp only [List.length_cons, List.length_nil]; omega)))⟩
                case measure => simp [RowKit.intOf]; omega
             ·obtain rfl : k = y.2.2.2.2.2.2.2.2.2.1.length := by omega
              have R17x := LL.out
              rw [foldE_full fElem y.2.2.2.2.2.2.2.2.2.1 b16, List.take_length] at R17x
              obtain ⟨b17, hb17⟩ : ∃ b, orE b16 (foldE fElem y.2.2.2.2.2.2.2.2.2.1) = b := ⟨_, rfl⟩
              rw [hb17] at R17x
              have HB17 := hid hb17
              have R17 := hid R17x
              clear hb17 R17x LL hk
              have m10 := R17.out.m.cell (i := 10) rfl
              go_wp2_with fail
              clear m10
              refine (rad_any _ _ (W.heap.size + 1) (0 + 1 + sumC cSig y.1 + 1 + sumC cImport y.2.1 + 1 + sumC cFunc y.2.2.1 + 1 + 1 + 1 + 1 + 1 + sumC cGlobal y.2.2.2.2.2.2.1 + 1 + sumC cExport y.2.2.2.2.2.2.2.1 + 1 + 1 + sumC cElem y.2.2.2.2.2.2.2.2.2.1) _ 2 (decide ((4 : Int) < (y.2.2.2.2.2.2.2.2.2.2.1.length : Int))) (fun _ => by decide) (by have := HC1.out; have := HC2.out; have := HC3.out; have := HC4.out; have := HC5.out; have := HC6.out; have := HC7.out; omega) R17.out.rf).mono ?_
              rintro r w18 hp
              have R18x := R17.out.next hp
              rw [gt_le] at R18x
              obtain ⟨rfl, -⟩ := hp
              obtain ⟨b18, hb18⟩ : ∃ b, orE b17 (ndE (decide ((y.2.2.2.2.2.2.2.2.2.2.1.length : Int) ≤ 4)) 2) = b := ⟨_, rfl⟩
              rw [hb18] at R18x
              have HB18 := hid hb18
              have R18 := hid R18x
              clear hb18 R18x
              have m10 := R18.out.m.cell (i := 10) rfl
              go_wp2_with fail
              clear m10
              go_loopw [19, 196] (fun _ i wr => ∃ k : Nat, k ≤ y.2.2.2.2.2.2.2.2.2.2.1.length ∧ i = .int .i64 k ∧ Hid (RB W wr (W.heap.size + 1) W.heap.size (orE b18 (foldE fData (y.2.2.2.2.2.2.2.2.2.2.1.take k))) (0 + 1 + sumC cSig y.1 + 1 + sumC cImport y.2.1 + 1 + sumC cFunc y.2.2.1 + 1 + 1 + 1 + 1 + 1 + sumC cGlobal y.2.2.2.2.2.2.1 + 1 + sumC cExport y.2.2.2.2.2.2.2.1 + 1 + 1 + sumC cElem y.2.2.2.2.2.2.2.2.2.1 + 1 + sumC cData (y.2.2.2.2.2.2.2.2.2.2.1.take k)) [.slice a1 y.1.length k1, .slice a2 y.2.1.length k2, .slice a3 y.2.2.1.length k3, .int .i64 y.2.2.2.1, .int .i64 y.2.2.2.2.1, .int .i64 y.2.2.2.2.2.1, .slice a4 y.2.2.2.2.2.2.1.length k4, .slice a5 y.2.2.2.2.2.2.2.1.length k5, .int .i64 y.2.2.2.2.2.2.2.2.1, .slice a6 y.2.2.2.2.2.2.2.2.2.1.length k6, .slice a7 y.2.2.2.2.2.2.2.2.2.2.1.length k7])) (fun _ i _ => y.2.2.2.2.2.2.2.2.2.2.1.length - (RowKit.intOf i).toNat)
              case atStart => exact ⟨0, Nat.zero_le _, rfl, hid (R18.out.cast (orE_none b18).symm (by omega))⟩
              case round =>
               obtain ⟨k, hk, rfl, LL⟩ := hrel
               by_cases hlt : k < y.2.2.2.2.2.2.2.2.2.2.1.length
               ·obtain ⟨lb, lo, cap', cs, hv, hc9, hc8, _, hR, hcc⟩ := sliceR_at K7.out (by decide) k hlt
                simp only [Value.slice.injEq] at hv
                obtain ⟨rfl, -, rfl⟩ := hv
                have HNX := hid (foldE_next fData y.2.2.2.2.2.2.2.2.2.2.1 k hlt b18)
                have HCX := hid (sumC_next cData y.2.2.2.2.2.2.2.2.2.2.1 k hlt)
                have HCL := hid (sumC_le cData y.2.2.2.2.2.2.2.2.2.2.1 (k + 1))
                generalize hcur : orE b18 (foldE fData (y.2.2.2.2.2.2.2.2.2.2.1.take k)) = cur at *
                generalize y.2.2.2.2.2.2.2.2.2.2.1[k] = z at *
                clear hcur
                have HBW := hid LL.out.bel
                have HRK := hid hR
                obtain ⟨_, _, rfl, ⟨rfl, _⟩, _, _, rfl, ⟨rfl, hs⟩, rfl⟩ := hR
                have hs2 : (z.2.1.size : Int) ≤ 140737488351232 := by omega
                clear hs
                have y0 : wr.cell? ⟨lb, lo + k * 2, none⟩ = some (.int .i64 z.1) := hcc wr HBW.out 0 (by decide)
                have y1 : wr.cell? ⟨lb, lo + k * 2 + 1, none⟩ = some (.string z.2.1) := hcc wr HBW.out 1 (by decide)
                clear hcc
                have XB := hid (show wr.heap.size ≠ (W.heap.size + 1) from fun e => by have := LL.out.rf.lt; omega)
                have XA0 := hid (Blk.new wr #[.int .i64 z.1, .string z.2.1] 78 _ rfl)
                have RA0 := hid (LL.out.alloc (.cells #[.int .i64 z.1, .string z.2.1] 78))
                have HN0 := hid (show 0 + 1 + sumC cSig y.1 + 1 + sumC cImport y.2.1 + 1 + sumC cFunc y.2.2.1 + 1 + 1 + 1 + 1 + 1 + sumC cGlobal y.2.2.2.2.2.2.1 + 1 + sumC cExport y.2.2.2.2.2.2.2.1 + 1 + 1 + sumC cElem y.2.2.2.2.2.2.2.2.2.1 + 1 + sumC cData (y.2.2.2.2.2.2.2.2.2.2.1.take k) + cData z ≤ 1000000000 from by have h0 := HCX.out; have := HCL.out; have := HC1.out; have := HC2.out; have := HC3.out; have := HC4.out; have := HC5.out; have := HC6.out; have := HC7.out; omega)
                have HN1 := hid (show (0 + 1 + sumC cSig y.1 + 1 + sumC cImport y.2.1 + 1 + sumC cFunc y.2.2.1 + 1 + 1 + 1 + 1 + 1 + sumC cGlobal y.2.2.2.2.2.2.1 + 1 + sumC cExport y.2.2.2.2.2.2.2.1 + 1 + 1 + sumC cElem y.2.2.2.2.2.2.2.2.2.1 + 1 + sumC cData (y.2.2.2.2.2.2.2.2.2.2.1.take k)) + cData z = 0 + 1 + sumC cSig y.1 + 1 + sumC cImport y.2.1 + 1 + sumC cFunc y.2.2.1 + 1 + 1 + 1 + 1 + 1 + sumC cGlobal y.2.2.2.2.2.2.1 + 1 + sumC cExport y.2.2.2.2.2.2.2.1 + 1 + 1 + sumC cElem y.2.2.2.2.2.2.2.2.2.1 + 1 + sumC cData (y.2.2.2.2.2.2.2.2.2.2.1.take (k + 1)) from by have h0 := HCX.out; omega)
                generalize (0 + 1 + sumC cSig y.1 + 1 + sumC cImport y.2.1 + 1 + sumC cFunc y.2.2.1 + 1 + 1 + 1 + 1 + 1 + sumC cGlobal y.2.2.2.2.2.2.1 + 1 + sumC cExport y.2.2.2.2.2.2.2.1 + 1 + 1 + sumC cElem y.2.2.2.2.2.2.2.2.2.1 + 1 + sumC cData (y.2.2.2.2.2.2.2.2.2.2.1.take k)) = nk at LL RA0 HN0 HN1
                go_wp2_with fail
                refine (rat_any _ W.heap.size (W.heap.size + 1) nk cur z.1 (by have h0 := HN0.out; unfold cData at h0; omega) RA0.out.rf).mono ?_
                rintro r v1 hp
                have RA1 := hid (RA0.out.next hp)
                have XA1 := hid (X_next XA0.out XB.out (by rfl) hp)
                obtain ⟨rfl, -⟩ := hp
                have x1 := XA1.out.cell (i := 1) rfl
                go_wp2_with fail
                clear x1
                refine (rad_any _ W.heap.size (W.heap.size + 1) (nk + 1) (orE cur (fPlc z.1)) 2 (decide ((64 : Int) < (z.2.1.size : Int))) (fun _ => by decide) (by have h0 := HN0.out; unfold cData at h0; omega) RA1.out.rf).mono ?_
                rintro r v2 hp
                have RA2 := hid (RA1.out.next hp)
                have XA2 := hid (X_next XA1.out XB.out (by rfl) hp)
                obtain ⟨rfl, -⟩ := hp
                rw [gt_le] at RA2
                go_wp2_with fail
                go_roundw
                case rel => exact ⟨k + 1, by omega, by go_num, hid (RA2.out.cast (by rw [← HNX.out]; unfold fData; rw [← orE_assoc]) (by have h0 := HN1.out; have h1 : cData z = 2 := rfl; first | omega | (simp only [List.length_cons, List.length_nil]; omega)))⟩
                case measure => simp [RowKit.intOf]; omega
               ·obtain rfl : k = y.2.2.2.2.2.2.2.2.2.2.1.length := by omega
                have R19x := LL.out
                rw [foldE_full fData y.2.2.2.2.2.2.2.2.2.2.1 b18, List.take_length] at R19x
                obtain ⟨b19, hb19⟩ : ∃ b, orE b18 (foldE fData y.2.2.2.2.2.2.2.2.2.2.1) = b := ⟨_, rfl⟩
                rw [hb19] at R19x
                have HB19 := hid hb19
                have R19 := hid R19x
                clear hb19 R19x LL hk
                obtain ⟨LF, hF, hf1, _, _⟩ := R19.out.rf.ex
                obtain ⟨_, ⟨vF, hB, hO⟩, _⟩ := hF
                have HOI := hid (OwnI.ints hO)
                obtain ⟨aF, cF, rfl, _⟩ := own_sl hO
                have q0 := hB.cell (i := 0) rfl
                have HF1 := hid hf1
                clear hf1 hO hB
                go_wp2_with fail
                refine (ffirst_any _ _ LF HOI.out).mono ?_
                rintro r wz ⟨rfl, rfl⟩
                go_wp2_with fail
                go_ret
                refine ⟨?_, R19.out.bel⟩
                have E1 : orE 0 (eachE fSig y.1 16) = b2 := by rw [← eachE_eq, HB1.out, HB2.out]
                have E2 : orE b2 (eachE fImport y.2.1 16) = b4 := by rw [← eachE_eq, HB3.out, HB4.out]
                have E3 : orE b4 (eachE fFunc y.2.2.1 16) = b6 := by rw [← eachE_eq, HB5.out, HB6.out]
                have E8 : orE b10 (eachE fGlobal y.2.2.2.2.2.2.1 8) = b12 := by rw [← eachE_eq, HB11.out, HB12.out]
                have E9 : orE b12 (eachE fExport y.2.2.2.2.2.2.2.1 8) = b14 := by rw [← eachE_eq, HB13.out, HB14.out]
                have E11 : orE b15 (eachE fElem y.2.2.2.2.2.2.2.2.2.1 4) = b17 := by rw [← eachE_eq, HB16.out, HB17.out]
                have E12 : orE b17 (eachE fData y.2.2.2.2.2.2.2.2.2.2.1 4) = b19 := by rw [← eachE_eq, HB18.out, HB19.out]
                rw [HF1.out]
                unfold fModule
                rw [orE_none, ← orE_zero (eachE fSig y.1 16), E1, E2, E3, HB7.out, HB8.out, HB9.out, HB10.out, E8, E9, HB15.out, E11, E12]
                rfl
end Go.Proofs.YthoalneknadheaaGreatDoor
