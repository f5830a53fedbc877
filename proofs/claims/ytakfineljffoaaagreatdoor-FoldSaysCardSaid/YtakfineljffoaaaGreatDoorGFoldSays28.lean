/-
  FOLDED BODIES: the program's span and other: the models of FoQ. No condition.
-/
import Derived.Test.YtakfineljffoaaaGreatDoorGFoldSays27
namespace Go.Proofs.YtakfineljffoaaaGreatDoor
open Go.RowKit Go.Lib

theorem drop_at {l : List It} {k : Nat} (h : k < l.length) : l.drop k = l[k] :: l.drop (k + 1) := List.drop_eq_getElem_cons h
theorem span_fin (D : Int) {l : List It} {k : Nat} (h : ¬ k < l.length) : spanA D k (l.drop k) = k := by rw [List.drop_eq_nil_of_le (by omega)]; rfl
theorem oth_fin (D : Int) {l : List It} {k : Nat} (h : ¬ k < l.length) : othA D k (l.drop k) = k - 1 := by rw [List.drop_eq_nil_of_le (by omega)]; rfl
theorem span_1 {D D' : Int} {l : List It} {k : Nat} (h : k < l.length) (hD : (if (l[k]).op = 2 ∨ (l[k]).op = 3 ∨ (l[k]).op = 4 then D + 1 else if (l[k]).op = 11 then D - 1 else D) = D') : spanA D k (l.drop k) = if D' = 0 then k + 1 else spanA D' (k + 1) (l.drop (k + 1)) := by rw [drop_at h, spanA, hD]
theorem oth_1 {D : Int} {l : List It} {k : Nat} (h : k < l.length) : othA D k (l.drop k) = othA D k (l[k] :: l.drop (k + 1)) := by rw [drop_at h]

set_option maxRecDepth 100000 in
set_option maxHeartbeats 4000000 in
theorem span_any (w : World) (v : Value) (l : List It) (h : BodS w v l) (h200 : l.length ≤ 200) :
  Calls Tryz.prog 104 #[v] w fun e w' => e = .returned (.int .i64 ((spanM l : Nat) : Int)) ∧ Below w.heap.size w w' := by
 have H := hid h
 obtain ⟨css, _, ⟨ao, cap, rfl, _⟩, _⟩ := h
 have HFIN := hid (show spanA 0 0 (l.drop 0) = spanM l from rfl)
 generalize spanM l = fin at *
 go_enter Tryz.func104, Tryz.ntmps104
 go_wp2_with fail
 go_loopw [3, 8] (fun d i wr => ∃ (k : Nat) (D : Int), k ≤ l.length ∧ (-200 ≤ D ∧ D ≤ 200) ∧ Hid (-(k : Int) ≤ D ∧ D ≤ (k : Int)) ∧ i = .int .i64 k ∧ d = .int .i64 D ∧ Hid (Below w.heap.size w wr) ∧ Hid (spanA D k (l.drop k) = fin)) (fun _ i _ => l.length - (RowKit.intOf i).toNat)
 case atStart => exact ⟨0, 0, Nat.zero_le _, by decide, hid (by decide), rfl, rfl, hid (Below.refl _ _), HFIN⟩
 case round =>
  obtain ⟨k, D, hk, hD, HKD, rfl, rfl, BL, HF⟩ := hrel
  by_cases hlt : k < l.length
  ·have hlt2 : (k : Int) < (l.length : Int) := by omega
   obtain ⟨b, off, cap', u, hv, _, _, c0, c1, c2, c3, hto⟩ := (H.out.below BL.out).open k hlt
   simp only [Value.slice.injEq] at hv
   obtain ⟨rfl, -, rfl⟩ := hv
   have HS := hid (fun D' hD => span_1 (D := D) (D' := D') hlt hD)
   generalize l[k] = x at *
   obtain ⟨op, A, C, xs⟩ := x
   simp only at c0 c1 c2 c3 hto HS
   obtain ⟨au, cu, rfl, -⟩ := id hto
   have X2 := hid (Blk.new wr #[.int .u8 op, .int .i64 A, .int .i64 C, .slice au xs.length cu] 97 _ rfl)
   have B2 := hid (BL.out.alloc BL.out.size (.cells #[.int .u8 op, .int .i64 A, .int .i64 C, .slice au xs.length cu] 97))
   have x0 := X2.out.cell (i := 0) rfl
   have hwk : wrap64 ((k : Int) + 1) = ((k + 1 : Nat) : Int) := by unfold wrap64; omega
   have hkd := HKD.out
   clear hto
   by_cases g2 : op = 2
   ·have g0 := g2
    have e2 : ((op : Int) == 2) = true := opT (by first | assumption | omega)
    have HX := hid (HS.out (D + 1) (if_pos (.inl g2)))
    have hwD : wrap64 (D + 1) = D + 1 := by unfold wrap64; omega
    by_cases hz : D + 1 = 0
    ·have ez : ((D + 1 : Int) == 0) = true := by simpa using hz
     have HR := hid (show k + 1 = fin by have q := HX.out; rw [if_pos hz] at q; exact q.symm.trans HF.out)
     clear hz hkd HKD g0 g2
     go_wp2_with fail
     go_ret
     exact ⟨by rw [← HR.out]; rfl, B2.out⟩
    ·have ez : ((D + 1 : Int) == 0) = false := by simpa using hz
     have HR := hid (show spanA (D + 1) (k + 1) (l.drop (k + 1)) = fin by have q := HX.out; rw [if_neg hz] at q; exact q.symm.trans HF.out)
     have HDn := hid (show (-200 ≤ D + 1 ∧ D + 1 ≤ 200) ∧ (-((k + 1 : Nat) : Int) ≤ D + 1 ∧ D + 1 ≤ ((k + 1 : Nat) : Int)) by omega)
     clear hz hkd HKD g0 g2
     go_wp2_with fail
     go_roundw
     case rel => exact ⟨k + 1, D + 1, by omega, HDn.out.1, hid HDn.out.2, by go_num, by go_num, B2, hid (HR.out)⟩
     case measure => simp [RowKit.intOf]; omega
   ·by_cases g3 : op = 3
    ·have g0 := g3
     have e2 : ((op : Int) == 2) = false := opF (by first | assumption | omega)
     have e3 : ((op : Int) == 3) = true := opT (by first | assumption | omega)
     have HX := hid (HS.out (D + 1) (if_pos (.inr (.inl g3))))
     have hwD : wrap64 (D + 1) = D + 1 := by unfold wrap64; omega
     by_cases hz : D + 1 = 0
     ·have ez : ((D + 1 : Int) == 0) = true := by simpa using hz
      have HR := hid (show k + 1 = fin by have q := HX.out; rw [if_pos hz] at q; exact q.symm.trans HF.out)
      clear hz hkd HKD g0 g2 g3
      go_wp2_with fail
      go_ret
      exact ⟨by rw [← HR.out]; rfl, B2.out⟩
     ·have ez : ((D + 1 : Int) == 0) = false := by simpa using hz
      have HR := hid (show spanA (D + 1) (k + 1) (l.drop (k + 1)) = fin by have q := HX.out; rw [if_neg hz] at q; exact q.symm.trans HF.out)
      have HDn := hid (show (-200 ≤ D + 1 ∧ D + 1 ≤ 200) ∧ (-((k + 1 : Nat) : Int) ≤ D + 1 ∧ D + 1 ≤ ((k + 1 : Nat) : Int)) by omega)
      clear hz hkd HKD g0 g2 g3
      go_wp2_with fail
      go_roundw
      case rel => exact ⟨k + 1, D + 1, by omega, HDn.out.1, hid HDn.out.2, by go_num, by go_num, B2, hid (HR.out)⟩
      case measure => simp [RowKit.intOf]; omega
    ·by_cases g4 : op = 4
     ·have g0 := g4
      have e2 : ((op : Int) == 2) = false := opF (by first | assumption | omega)
      have e3 : ((op : Int) == 3) = false := opF (by first | assumption | omega)
      have e4 : ((op : Int) == 4) = true := opT (by first | assumption | omega)
      have HX := hid (HS.out (D + 1) (if_pos (.inr (.inr g4))))
      have hwD : wrap64 (D + 1) = D + 1 := by unfold wrap64; omega
      by_cases hz : D + 1 = 0
      ·have ez : ((D + 1 : Int) == 0) = true := by simpa using hz
       have HR := hid (show k + 1 = fin by have q := HX.out; rw [if_pos hz] at q; exact q.symm.trans HF.out)
       clear hz hkd HKD g0 g2 g3 g4
       go_wp2_with fail
       go_ret
       exact ⟨by rw [← HR.out]; rfl, B2.out⟩
      ·have ez : ((D + 1 : Int) == 0) = false := by simpa using hz
       have HR := hid (show spanA (D + 1) (k + 1) (l.drop (k + 1)) = fin by have q := HX.out; rw [if_neg hz] at q; exact q.symm.trans HF.out)
       have HDn := hid (show (-200 ≤ D + 1 ∧ D + 1 ≤ 200) ∧ (-((k + 1 : Nat) : Int) ≤ D + 1 ∧ D + 1 ≤ ((k + 1 : Nat) : Int)) by omega)
       clear hz hkd HKD g0 g2 g3 g4
       go_wp2_with fail
       go_roundw
       case rel => exact ⟨k + 1, D + 1, by omega, HDn.out.1, hid HDn.out.2, by go_num, by go_num, B2, hid (HR.out)⟩
       case measure => simp [RowKit.intOf]; omega
     ·by_cases g11 : op = 11
      ·have g0 := g11
       have e2 : ((op : Int) == 2) = false := opF (by first | assumption | omega)
       have e3 : ((op : Int) == 3) = false := opF (by first | assumption | omega)
       have e4 : ((op : Int) == 4) = false := opF (by first | assumption | omega)
       have e11 : ((op : Int) == 11) = true := opT (by first | assumption | omega)
       have HX := hid (HS.out (D - 1) (by rw [if_neg (by omega), if_pos g11]))
       have hwD : wrap64 (D - 1) = D - 1 := by unfold wrap64; omega
       by_cases hz : D - 1 = 0
       ·have ez : ((D - 1 : Int) == 0) = true := by simpa using hz
        have HR := hid (show k + 1 = fin by have q := HX.out; rw [if_pos hz] at q; exact q.symm.trans HF.out)
        clear hz hkd HKD g0 g2 g3 g4 g11
        go_wp2_with fail
        go_ret
        exact ⟨by rw [← HR.out]; rfl, B2.out⟩
       ·have ez : ((D - 1 : Int) == 0) = false := by simpa using hz
        have HR := hid (show spanA (D - 1) (k + 1) (l.drop (k + 1)) = fin by have q := HX.out; rw [if_neg hz] at q; exact q.symm.trans HF.out)
        have HDn := hid (show (-200 ≤ D - 1 ∧ D - 1 ≤ 200) ∧ (-((k + 1 : Nat) : Int) ≤ D - 1 ∧ D - 1 ≤ ((k + 1 : Nat) : Int)) by omega)
        clear hz hkd HKD g0 g2 g3 g4 g11
        go_wp2_with fail
        go_roundw
        case rel => exact ⟨k + 1, D - 1, by omega, HDn.out.1, hid HDn.out.2, by go_num, by go_num, B2, hid (HR.out)⟩
        case measure => simp [RowKit.intOf]; omega
      ·have g0 := g11
       have e2 : ((op : Int) == 2) = false := opF (by first | assumption | omega)
       have e3 : ((op : Int) == 3) = false := opF (by first | assumption | omega)
       have e4 : ((op : Int) == 4) = false := opF (by first | assumption | omega)
       have e11 : ((op : Int) == 11) = false := opF (by first | assumption | omega)
       have HX := hid (HS.out (D) (by rw [if_neg (by omega), if_neg g11]))
       by_cases hz : D = 0
       ·have ez : ((D : Int) == 0) = true := by simpa using hz
        have HR := hid (show k + 1 = fin by have q := HX.out; rw [if_pos hz] at q; exact q.symm.trans HF.out)
        clear hz hkd HKD g0 g2 g3 g4 g11
        go_wp2_with fail
        go_ret
        exact ⟨by rw [← HR.out]; rfl, B2.out⟩
       ·have ez : ((D : Int) == 0) = false := by simpa using hz
        have HR := hid (show spanA (D) (k + 1) (l.drop (k + 1)) = fin by have q := HX.out; rw [if_neg hz] at q; exact q.symm.trans HF.out)
        have HDn := hid (show (-200 ≤ D ∧ D ≤ 200) ∧ (-((k + 1 : Nat) : Int) ≤ D ∧ D ≤ ((k + 1 : Nat) : Int)) by omega)
        clear hz hkd HKD g0 g2 g3 g4 g11
        go_wp2_with fail
        go_roundw
        case rel => exact ⟨k + 1, D, by omega, HDn.out.1, hid HDn.out.2, by go_num, by go_num, B2, hid (HR.out)⟩
        case measure => simp [RowKit.intOf]; omega
  ·have hlt2 : ¬ (k : Int) < (l.length : Int) := by omega
   have HR := hid (show k = fin from (span_fin D hlt).symm.trans HF.out)
   have hkl : k = l.length := by omega
   clear HKD
   go_wp2_with fail
   go_ret
   exact ⟨by rw [← HR.out, hkl]; rfl, BL.out⟩

set_option maxRecDepth 100000 in
set_option maxHeartbeats 4000000 in
theorem other_any (w : World) (v : Value) (l : List It) (h : BodS w v l) (h200 : l.length ≤ 200) (h0 : 0 < l.length) :
  Calls Tryz.prog 105 #[v] w fun e w' => e = .returned (.int .i64 ((othM l : Nat) : Int)) ∧ Below w.heap.size w w' := by
 have H := hid h
 obtain ⟨css, _, ⟨ao, cap, rfl, _⟩, _⟩ := h
 have HFIN := hid (show othA 0 0 (l.drop 0) = othM l from rfl)
 generalize othM l = fin at *
 go_enter Tryz.func105, Tryz.ntmps105
 go_wp2_with fail
 go_loopw [3, 8] (fun d i wr => ∃ (k : Nat) (D : Int), k ≤ l.length ∧ (-200 ≤ D ∧ D ≤ 200) ∧ Hid (-(k : Int) ≤ D ∧ D ≤ (k : Int)) ∧ i = .int .i64 k ∧ d = .int .i64 D ∧ Hid (Below w.heap.size w wr) ∧ Hid (othA D k (l.drop k) = fin)) (fun _ i _ => l.length - (RowKit.intOf i).toNat)
 case atStart => exact ⟨0, 0, Nat.zero_le _, by decide, hid (by decide), rfl, rfl, hid (Below.refl _ _), HFIN⟩
 case round =>
  obtain ⟨k, D, hk, hD, HKD, rfl, rfl, BL, HF⟩ := hrel
  by_cases hlt : k < l.length
  ·have hlt2 : (k : Int) < (l.length : Int) := by omega
   obtain ⟨b, off, cap', u, hv, _, _, c0, c1, c2, c3, hto⟩ := (H.out.below BL.out).open k hlt
   simp only [Value.slice.injEq] at hv
   obtain ⟨rfl, -, rfl⟩ := hv
   have HS := hid (oth_1 (D := D) hlt)
   generalize l[k] = x at *
   obtain ⟨op, A, C, xs⟩ := x
   simp only at c0 c1 c2 c3 hto HS
   obtain ⟨au, cu, rfl, -⟩ := id hto
   have X2 := hid (Blk.new wr #[.int .u8 op, .int .i64 A, .int .i64 C, .slice au xs.length cu] 97 _ rfl)
   have B2 := hid (BL.out.alloc BL.out.size (.cells #[.int .u8 op, .int .i64 A, .int .i64 C, .slice au xs.length cu] 97))
   have x0 := X2.out.cell (i := 0) rfl
   have hwk : wrap64 ((k : Int) + 1) = ((k + 1 : Nat) : Int) := by unfold wrap64; omega
   have hkd := HKD.out
   clear hto
   by_cases g2 : op = 2
   ·have g0 := g2
    have e2 : ((op : Int) == 2) = true := opT (by first | assumption | omega)
    have hwD : wrap64 (D + 1) = D + 1 := by unfold wrap64; omega
    have HR := hid (show othA (D + 1) (k + 1) (l.drop (k + 1)) = fin from (show othA D k (⟨op, A, C, xs⟩ :: l.drop (k + 1)) = othA (D + 1) (k + 1) (l.drop (k + 1)) from oth_open (.inl g2)).symm.trans (HS.out.symm.trans HF.out))
    have HDn := hid (show (-200 ≤ D + 1 ∧ D + 1 ≤ 200) ∧ (-((k + 1 : Nat) : Int) ≤ D + 1 ∧ D + 1 ≤ ((k + 1 : Nat) : Int)) by omega)
    clear hkd HKD g0 g2
    go_wp2_with fail
    go_roundw
    case rel => exact ⟨k + 1, D + 1, by omega, HDn.out.1, hid HDn.out.2, by go_num, by go_num, B2, hid (HR.out)⟩
    case measure => simp [RowKit.intOf]; omega
   ·by_cases g3 : op = 3
    ·have g0 := g3
     have e2 : ((op : Int) == 2) = false := opF (by first | assumption | omega)
     have e3 : ((op : Int) == 3) = true := opT (by first | assumption | omega)
     have hwD : wrap64 (D + 1) = D + 1 := by unfold wrap64; omega
     have HR := hid (show othA (D + 1) (k + 1) (l.drop (k + 1)) = fin from (show othA D k (⟨op, A, C, xs⟩ :: l.drop (k + 1)) = othA (D + 1) (k + 1) (l.drop (k + 1)) from oth_open (.inr (.inl g3))).symm.trans (HS.out.symm.trans HF.out))
     have HDn := hid (show (-200 ≤ D + 1 ∧ D + 1 ≤ 200) ∧ (-((k + 1 : Nat) : Int) ≤ D + 1 ∧ D + 1 ≤ ((k + 1 : Nat) : Int)) by omega)
     clear hkd HKD g0 g2 g3
     go_wp2_with fail
     go_roundw
     case rel => exact ⟨k + 1, D + 1, by omega, HDn.out.1, hid HDn.out.2, by go_num, by go_num, B2, hid (HR.out)⟩
     case measure => simp [RowKit.intOf]; omega
    ·by_cases g4 : op = 4
     ·have g0 := g4
      have e2 : ((op : Int) == 2) = false := opF (by first | assumption | omega)
      have e3 : ((op : Int) == 3) = false := opF (by first | assumption | omega)
      have e4 : ((op : Int) == 4) = true := opT (by first | assumption | omega)
      have hwD : wrap64 (D + 1) = D + 1 := by unfold wrap64; omega
      have HR := hid (show othA (D + 1) (k + 1) (l.drop (k + 1)) = fin from (show othA D k (⟨op, A, C, xs⟩ :: l.drop (k + 1)) = othA (D + 1) (k + 1) (l.drop (k + 1)) from oth_open (.inr (.inr g4))).symm.trans (HS.out.symm.trans HF.out))
      have HDn := hid (show (-200 ≤ D + 1 ∧ D + 1 ≤ 200) ∧ (-((k + 1 : Nat) : Int) ≤ D + 1 ∧ D + 1 ≤ ((k + 1 : Nat) : Int)) by omega)
      clear hkd HKD g0 g2 g3 g4
      go_wp2_with fail
      go_roundw
      case rel => exact ⟨k + 1, D + 1, by omega, HDn.out.1, hid HDn.out.2, by go_num, by go_num, B2, hid (HR.out)⟩
      case measure => simp [RowKit.intOf]; omega
     ·by_cases g5 : op = 5
      ·by_cases hz : D = 1
       ·have ez : ((D : Int) == 1) = true := by simpa using hz
        have e2 : ((op : Int) == 2) = false := opF (by first | assumption | omega)
        have e3 : ((op : Int) == 3) = false := opF (by first | assumption | omega)
        have e4 : ((op : Int) == 4) = false := opF (by first | assumption | omega)
        have e5 : ((op : Int) == 5) = true := opT (by first | assumption | omega)
        have HR := hid (show k = fin from (show othA D k (⟨op, A, C, xs⟩ :: l.drop (k + 1)) = k from by rw [oth_else g5, if_pos hz]).symm.trans (HS.out.symm.trans HF.out))
        clear hkd HKD hz g2 g3 g4 g5
        go_wp2_with fail
        go_ret
        exact ⟨by rw [← HR.out]; rfl, B2.out⟩
       ·have ez : ((D : Int) == 1) = false := by simpa using hz
        have e2 : ((op : Int) == 2) = false := opF (by first | assumption | omega)
        have e3 : ((op : Int) == 3) = false := opF (by first | assumption | omega)
        have e4 : ((op : Int) == 4) = false := opF (by first | assumption | omega)
        have e5 : ((op : Int) == 5) = true := opT (by first | assumption | omega)
        have HR := hid (show othA (D) (k + 1) (l.drop (k + 1)) = fin from (show othA D k (⟨op, A, C, xs⟩ :: l.drop (k + 1)) = othA (D) (k + 1) (l.drop (k + 1)) from by rw [oth_else g5, if_neg hz]).symm.trans (HS.out.symm.trans HF.out))
        have HDn := hid (show (-200 ≤ D ∧ D ≤ 200) ∧ (-((k + 1 : Nat) : Int) ≤ D ∧ D ≤ ((k + 1 : Nat) : Int)) by omega)
        clear hkd HKD hz g2 g3 g4 g5
        go_wp2_with fail
        go_roundw
        case rel => exact ⟨k + 1, D, by omega, HDn.out.1, hid HDn.out.2, by go_num, by go_num, B2, hid (HR.out)⟩
        case measure => simp [RowKit.intOf]; omega
      ·by_cases g11 : op = 11
       ·by_cases hz : D - 1 = 0
        ·have ez : ((D - 1 : Int) == 0) = true := by simpa using hz
         have e2 : ((op : Int) == 2) = false := opF (by first | assumption | omega)
         have e3 : ((op : Int) == 3) = false := opF (by first | assumption | omega)
         have e4 : ((op : Int) == 4) = false := opF (by first | assumption | omega)
         have e5 : ((op : Int) == 5) = false := opF (by first | assumption | omega)
         have e11 : ((op : Int) == 11) = true := opT (by first | assumption | omega)
         have hwD : wrap64 (D - 1) = D - 1 := by unfold wrap64; omega
         have HR := hid (show k = fin from (show othA D k (⟨op, A, C, xs⟩ :: l.drop (k + 1)) = k from by rw [oth_end g11, if_pos hz]).symm.trans (HS.out.symm.trans HF.out))
         clear hkd HKD hz g2 g3 g4 g5 g11
         go_wp2_with fail
         go_ret
         exact ⟨by rw [← HR.out]; rfl, B2.out⟩
        ·have ez : ((D - 1 : Int) == 0) = false := by simpa using hz
         have e2 : ((op : Int) == 2) = false := opF (by first | assumption | omega)
         have e3 : ((op : Int) == 3) = false := opF (by first | assumption | omega)
         have e4 : ((op : Int) == 4) = false := opF (by first | assumption | omega)
         have e5 : ((op : Int) == 5) = false := opF (by first | assumption | omega)
         have e11 : ((op : Int) == 11) = true := opT (by first | assumption | omega)
         have hwD : wrap64 (D - 1) = D - 1 := by unfold wrap64; omega
         have HR := hid (show othA (D - 1) (k + 1) (l.drop (k + 1)) = fin from (show othA D k (⟨op, A, C, xs⟩ :: l.drop (k + 1)) = othA (D - 1) (k + 1) (l.drop (k + 1)) from by rw [oth_end g11, if_neg hz]).symm.trans (HS.out.symm.trans HF.out))
         have HDn := hid (show (-200 ≤ D - 1 ∧ D - 1 ≤ 200) ∧ (-((k + 1 : Nat) : Int) ≤ D - 1 ∧ D - 1 ≤ ((k + 1 : Nat) : Int)) by omega)
         clear hkd HKD hz g2 g3 g4 g5 g11
         go_wp2_with fail
         go_roundw
         case rel => exact ⟨k + 1, D - 1, by omega, HDn.out.1, hid HDn.out.2, by go_num, by go_num, B2, hid (HR.out)⟩
         case measure => simp [RowKit.intOf]; omega
       ·have g0 := g11
        have e2 : ((op : Int) == 2) = false := opF (by first | assumption | omega)
        have e3 : ((op : Int) == 3) = false := opF (by first | assumption | omega)
        have e4 : ((op : Int) == 4) = false := opF (by first | assumption | omega)
        have e5 : ((op : Int) == 5) = false := opF (by first | assumption | omega)
        have e11 : ((op : Int) == 11) = false := opF (by first | assumption | omega)
        have HR := hid (show othA (D) (k + 1) (l.drop (k + 1)) = fin from (show othA D k (⟨op, A, C, xs⟩ :: l.drop (k + 1)) = othA (D) (k + 1) (l.drop (k + 1)) from oth_flat (x := ⟨op, A, C, xs⟩) (by unfold flatOp; simp only; omega)).symm.trans (HS.out.symm.trans HF.out))
        have HDn := hid (show (-200 ≤ D ∧ D ≤ 200) ∧ (-((k + 1 : Nat) : Int) ≤ D ∧ D ≤ ((k + 1 : Nat) : Int)) by omega)
        clear hkd HKD g0 g2 g3 g4 g5 g11
        go_wp2_with fail
        go_roundw
        case rel => exact ⟨k + 1, D, by omega, HDn.out.1, hid HDn.out.2, by go_num, by go_num, B2, hid (HR.out)⟩
        case measure => simp [RowKit.intOf]; omega
  ·have hlt2 : ¬ (k : Int) < (l.length : Int) := by omega
   have HR := hid (show k - 1 = fin from (oth_fin D hlt).symm.trans HF.out)
   have HKL := hid (show ((l.length : Int) - 1) = ((k - 1 : Nat) : Int) by omega)
   have hwl : wrap64 ((l.length : Int) - 1) = (l.length : Int) - 1 := by unfold wrap64; omega
   clear HKD
   go_wp2_with fail
   go_ret
   exact ⟨by rw [← HR.out, ← HKL.out]; rfl, BL.out⟩
end Go.Proofs.YtakfineljffoaaaGreatDoor
