/-
  FOLDED BODIES: the reference's upTo (the model of FoQ) and constOf. No condition.
-/
import Derived.Test.YtakfineljffoaaaGreatDoorGFoldSays28
import Derived.Test.YtakfineljffoaaaGreatDoorGFoldSays29
namespace Go.Proofs.YtakfineljffoaaaGreatDoor
open Go.RowKit Go.Lib

theorem upt_fin (o h : Int) {l : List It} {k : Nat} (hk : ¬ k < l.length) : uptA o h k (l.drop k) = ((k : Int) - 1, h) := by rw [List.drop_eq_nil_of_le (by omega)]; rfl
theorem upt_1 {o h : Int} {l : List It} {k : Nat} (hk : k < l.length) : uptA o h k (l.drop k) = uptA o h k (l[k] :: l.drop (k + 1)) := by rw [drop_at hk]

set_option maxRecDepth 100000 in
set_option maxHeartbeats 4000000 in
theorem upto_any (w : World) (v : Value) (l : List It) (h : BodS w v l) (h200 : l.length ≤ 200) :
    Calls Tryz.prog 81 #[v] w fun e w' => e = .returned (.tuple #[.int .i64 (uptM l).1, .int .i64 (uptM l).2]) ∧ Below w.heap.size w w' := by
  have H := hid h
  obtain ⟨css, _, ⟨ao, cap, rfl, _⟩, _⟩ := h
  have HFIN := hid (show uptA 0 (-1) 0 (l.drop 0) = uptM l from rfl)
  generalize uptM l = fin at *
  obtain ⟨f1, f2⟩ := fin
  go_enter Tryz.func81, Tryz.ntmps81
  go_wp2_with fail
  go_loopw [4, 5, 10] (fun ov hv iv wr => ∃ (k : Nat) (o h : Int), k ≤ l.length ∧ (-200 ≤ o ∧ o ≤ 200) ∧ Hid (-(k : Int) ≤ o ∧ o ≤ (k : Int)) ∧ iv = .int .i64 k ∧ ov = .int .i64 o ∧ hv = .int .i64 h ∧ Hid (Below w.heap.size w wr) ∧ Hid (uptA o h k (l.drop k) = (f1, f2))) (fun _ _ iv _ => l.length - (RowKit.intOf iv).toNat)
  case atStart => exact ⟨0, 0, -1, Nat.zero_le _, by decide, hid (by decide), rfl, rfl, rfl, hid (Below.refl _ _), HFIN⟩
  case round =>
    obtain ⟨k, D, hh, hk, hD, HKD, rfl, rfl, rfl, BL, HF⟩ := hrel
    by_cases hlt : k < l.length
    · have hlt2 : (k : Int) < (l.length : Int) := by omega
      obtain ⟨b, off, cap', u, hv, _, _, c0, c1, c2, c3, hto⟩ := (H.out.below BL.out).open k hlt
      simp only [Value.slice.injEq] at hv
      obtain ⟨rfl, -, rfl⟩ := hv
      have HS := hid (upt_1 (o := D) (h := hh) hlt)
      generalize l[k] = x at *
      obtain ⟨op, A, C, xs⟩ := x
      simp only at c0 c1 c2 c3 hto HS
      obtain ⟨au, cu, rfl, -⟩ := id hto
      have X2 := hid (Blk.new wr #[.int .u8 op, .int .i64 A, .int .i64 C, .slice au xs.length cu] 97 _ rfl)
      have B2 := hid (BL.out.alloc BL.out.size (.cells #[.int .u8 op, .int .i64 A, .int .i64 C, .slice au xs.length cu] 97))
      have x0 := X2.out.cell (i := 0) rfl
      have hwk : wrap64 ((k : Int) + 1) = ((k + 1 : Nat) : Int) := by unfold wrap64; omega
      have hkd := HKD.out
      clear hto
      by_cases g2 : 2 ≤ op ∧ op ≤ 4
      · have g3 := g2
        have q2 : (2 : Int) ≤ (op : Int) := by omega
        have q4 : (op : Int) ≤ 4 := by omega
        have e5 : ((op : Int) == 5) = false := opF (show ¬ op = 5 by omega)
        have e11 : ((op : Int) == 11) = false := opF (show ¬ op = 11 by omega)
        have hwD : wrap64 (D + 1) = D + 1 := by unfold wrap64; omega
        have HR := hid (show uptA (D + 1) (hh) (k + 1) (l.drop (k + 1)) = (f1, f2) from (show uptA D hh k (⟨op, A, C, xs⟩ :: l.drop (k + 1)) = uptA (D + 1) (hh) (k + 1) (l.drop (k + 1)) from upt_open (x := ⟨op, A, C, xs⟩) (by simp only; omega)).symm.trans (HS.out.symm.trans HF.out))
        have HDn := hid (show (-200 ≤ D + 1 ∧ D + 1 ≤ 200) ∧ (-((k + 1 : Nat) : Int) ≤ D + 1 ∧ D + 1 ≤ ((k + 1 : Nat) : Int)) by omega)
        clear hkd HKD g2 g3
        go_wp2_with fail
        go_roundw
        case rel => exact ⟨k + 1, D + 1, hh, by omega, HDn.out.1, hid HDn.out.2, by go_num, by go_num, by go_num, B2, HR⟩
        case measure => simp [RowKit.intOf]; omega
      · by_cases g5 : op = 5
        · have g3 := g5
          have q2 : (2 : Int) ≤ (op : Int) := by omega
          have q4 : ¬ (op : Int) ≤ 4 := by omega
          have e5 : ((op : Int) == 5) = true := opT (show op = 5 by omega)
          have e11 : ((op : Int) == 11) = false := opF (show ¬ op = 11 by omega)
          by_cases hz : D = 1
          · have ez : ((D : Int) == 1) = true := by simpa using hz
            have HR := hid (show uptA (D) ((k : Int)) (k + 1) (l.drop (k + 1)) = (f1, f2) from (show uptA D hh k (⟨op, A, C, xs⟩ :: l.drop (k + 1)) = uptA (D) ((k : Int)) (k + 1) (l.drop (k + 1)) from by rw [upt_else (x := ⟨op, A, C, xs⟩) g5, if_pos hz]).symm.trans (HS.out.symm.trans HF.out))
            have HDn := hid (show (-200 ≤ D ∧ D ≤ 200) ∧ (-((k + 1 : Nat) : Int) ≤ D ∧ D ≤ ((k + 1 : Nat) : Int)) by omega)
            clear hkd HKD hz g2 g3 g5
            go_wp2_with fail
            go_roundw
            case rel => exact ⟨k + 1, D, (k : Int), by omega, HDn.out.1, hid HDn.out.2, by go_num, by go_num, by go_num, B2, HR⟩
            case measure => simp [RowKit.intOf]; omega
          · have ez : ((D : Int) == 1) = false := by simpa using hz
            have HR := hid (show uptA (D) (hh) (k + 1) (l.drop (k + 1)) = (f1, f2) from (show uptA D hh k (⟨op, A, C, xs⟩ :: l.drop (k + 1)) = uptA (D) (hh) (k + 1) (l.drop (k + 1)) from by rw [upt_else (x := ⟨op, A, C, xs⟩) g5, if_neg hz]).symm.trans (HS.out.symm.trans HF.out))
            have HDn := hid (show (-200 ≤ D ∧ D ≤ 200) ∧ (-((k + 1 : Nat) : Int) ≤ D ∧ D ≤ ((k + 1 : Nat) : Int)) by omega)
            clear hkd HKD hz g2 g3 g5
            go_wp2_with fail
            go_roundw
            case rel => exact ⟨k + 1, D, hh, by omega, HDn.out.1, hid HDn.out.2, by go_num, by go_num, by go_num, B2, HR⟩
            case measure => simp [RowKit.intOf]; omega
        · by_cases g11 : op = 11
          · have g3 := g11
            have q2 : (2 : Int) ≤ (op : Int) := by omega
            have q4 : ¬ (op : Int) ≤ 4 := by omega
            have e5 : ((op : Int) == 5) = false := opF (show ¬ op = 5 by omega)
            have e11 : ((op : Int) == 11) = true := opT (show op = 11 by omega)
            by_cases hz : D - 1 ≤ 0
            · have hwD : wrap64 (D - 1) = D - 1 := by unfold wrap64; omega
              have HR := hid (show ((k : Int), hh) = (f1, f2) from (show uptA D hh k (⟨op, A, C, xs⟩ :: l.drop (k + 1)) = ((k : Int), hh) from by rw [upt_end (x := ⟨op, A, C, xs⟩) g11, if_pos hz]).symm.trans (HS.out.symm.trans HF.out))
              clear hkd HKD g2 g3 g5 g11
              go_wp2_with fail
              refine bodyPost_ret (v := .tuple #[.int .i64 (k : Int), .int .i64 hh]) (by simp [results, Tryz.results81, go_sem]) rfl ?_
              have HRR := HR.out
              simp only [Prod.mk.injEq] at HRR
              exact ⟨by rw [HRR.1, HRR.2], B2.out⟩
            · have hz2 : ¬ D - 1 ≤ 0 := hz
              have hwD : wrap64 (D - 1) = D - 1 := by unfold wrap64; omega
              have HR := hid (show uptA (D - 1) (hh) (k + 1) (l.drop (k + 1)) = (f1, f2) from (show uptA D hh k (⟨op, A, C, xs⟩ :: l.drop (k + 1)) = uptA (D - 1) (hh) (k + 1) (l.drop (k + 1)) from by rw [upt_end (x := ⟨op, A, C, xs⟩) g11, if_neg hz]).symm.trans (HS.out.symm.trans HF.out))
              have HDn := hid (show (-200 ≤ D - 1 ∧ D - 1 ≤ 200) ∧ (-((k + 1 : Nat) : Int) ≤ D - 1 ∧ D - 1 ≤ ((k + 1 : Nat) : Int)) by omega)
              clear hkd HKD g2 g3 g5 g11
              go_wp2_with fail
              go_roundw
              case rel => exact ⟨k + 1, D - 1, hh, by omega, HDn.out.1, hid HDn.out.2, by go_num, by go_num, by go_num, B2, HR⟩
              case measure => simp [RowKit.intOf]; omega
          · have hfl : flatOp op := by unfold flatOp; omega
            by_cases hg2 : 2 ≤ op
            · have g3 := hg2
              have q2 : (2 : Int) ≤ (op : Int) := by omega
              have q4 : ¬ (op : Int) ≤ 4 := by omega
              have e5 : ((op : Int) == 5) = false := opF (show ¬ op = 5 by omega)
              have e11 : ((op : Int) == 11) = false := opF (show ¬ op = 11 by omega)
              have HR := hid (show uptA (D) (hh) (k + 1) (l.drop (k + 1)) = (f1, f2) from (show uptA D hh k (⟨op, A, C, xs⟩ :: l.drop (k + 1)) = uptA (D) (hh) (k + 1) (l.drop (k + 1)) from upt_flat (x := ⟨op, A, C, xs⟩) hfl).symm.trans (HS.out.symm.trans HF.out))
              have HDn := hid (show (-200 ≤ D ∧ D ≤ 200) ∧ (-((k + 1 : Nat) : Int) ≤ D ∧ D ≤ ((k + 1 : Nat) : Int)) by omega)
              clear hkd HKD g2 g3 g5 g11 hg2 hfl
              go_wp2_with fail
              go_roundw
              case rel => exact ⟨k + 1, D, hh, by omega, HDn.out.1, hid HDn.out.2, by go_num, by go_num, by go_num, B2, HR⟩
              case measure => simp [RowKit.intOf]; omega
            · have g3 := hg2
              have q2 : ¬ (2 : Int) ≤ (op : Int) := by omega
              have e5 : ((op : Int) == 5) = false := opF (show ¬ op = 5 by omega)
              have e11 : ((op : Int) == 11) = false := opF (show ¬ op = 11 by omega)
              have HR := hid (show uptA (D) (hh) (k + 1) (l.drop (k + 1)) = (f1, f2) from (show uptA D hh k (⟨op, A, C, xs⟩ :: l.drop (k + 1)) = uptA (D) (hh) (k + 1) (l.drop (k + 1)) from upt_flat (x := ⟨op, A, C, xs⟩) hfl).symm.trans (HS.out.symm.trans HF.out))
              have HDn := hid (show (-200 ≤ D ∧ D ≤ 200) ∧ (-((k + 1 : Nat) : Int) ≤ D ∧ D ≤ ((k + 1 : Nat) : Int)) by omega)
              clear hkd HKD g2 g3 g5 g11 hg2 hfl
              go_wp2_with fail
              go_roundw
              case rel => exact ⟨k + 1, D, hh, by omega, HDn.out.1, hid HDn.out.2, by go_num, by go_num, by go_num, B2, HR⟩
              case measure => simp [RowKit.intOf]; omega
    · have hlt2 : ¬ (k : Int) < (l.length : Int) := by omega
      have HR := hid (show ((k : Int) - 1, hh) = (f1, f2) from (upt_fin D hh hlt).symm.trans HF.out)
      have HKL := hid (show ((l.length : Int) - 1) = (k : Int) - 1 by omega)
      have hwl : wrap64 ((l.length : Int) - 1) = (l.length : Int) - 1 := by unfold wrap64; omega
      clear HKD
      go_wp2_with fail
      refine bodyPost_ret (v := .tuple #[.int .i64 ((l.length : Int) - 1), .int .i64 hh]) (by simp [results, Tryz.results81, go_sem]) rfl ?_
      have HRR := HR.out
      simp only [Prod.mk.injEq] at HRR
      exact ⟨by rw [HKL.out, HRR.1, HRR.2], BL.out⟩

theorem constOf_any (w : World) (t : Nat) (ht : 1 ≤ t ∧ t ≤ 7) (n : Int) : Calls Tryz.prog 79 #[.string (S (tkL t)), .int .i64 n] w fun e w' => e = .returned (.slice (some ⟨w.heap.size, 0, none⟩) 1 1) ∧ w' = w.alloc (.cells #[.int .u8 (ci (kOn t) : Nat), .int .i64 n, .int .i64 0, .slice none 0 0] 97) := by
  rcases (by omega : t = 1 ∨ t = 2 ∨ t = 3 ∨ t = 4 ∨ t = 5 ∨ t = 6 ∨ t = 7) with rfl | rfl | rfl | rfl | rfl | rfl | rfl
  · rw [show S (tkL 1) = ⟨#[105, 62, 105]⟩ from rfl]
    go_enter Tryz.func79, Tryz.ntmps79
    go_wp2_with fail
    go_ret
    exact ⟨rfl, rfl⟩
  · rw [show S (tkL 2) = ⟨#[108, 62, 105]⟩ from rfl]
    go_enter Tryz.func79, Tryz.ntmps79
    go_wp2_with fail
    go_ret
    exact ⟨rfl, rfl⟩
  · rw [show S (tkL 3) = ⟨#[105, 105, 62, 105]⟩ from rfl]
    go_enter Tryz.func79, Tryz.ntmps79
    go_wp2_with fail
    go_ret
    exact ⟨rfl, rfl⟩
  · rw [show S (tkL 4) = ⟨#[108, 108, 62, 105]⟩ from rfl]
    go_enter Tryz.func79, Tryz.ntmps79
    go_wp2_with fail
    go_ret
    exact ⟨rfl, rfl⟩
  · rw [show S (tkL 5) = ⟨#[108, 62, 108]⟩ from rfl]
    go_enter Tryz.func79, Tryz.ntmps79
    go_wp2_with fail
    go_ret
    exact ⟨rfl, rfl⟩
  · rw [show S (tkL 6) = ⟨#[108, 108, 62, 108]⟩ from rfl]
    go_enter Tryz.func79, Tryz.ntmps79
    go_wp2_with fail
    go_ret
    exact ⟨rfl, rfl⟩
  · rw [show S (tkL 7) = ⟨#[105, 62, 108]⟩ from rfl]
    go_enter Tryz.func79, Tryz.ntmps79
    go_wp2_with fail
    go_ret
    exact ⟨rfl, rfl⟩
end Go.Proofs.YtakfineljffoaaaGreatDoor
