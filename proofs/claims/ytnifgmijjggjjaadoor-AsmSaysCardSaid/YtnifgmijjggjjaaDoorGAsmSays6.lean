/-
  NAMES OF INSTRUCTIONS: the program's rows and Name. Condition: the variable of the library that strings.Split reads holds some number.
-/
import Derived.Test.YtnifgmijjggjjaaDoorRowK
import Derived.Test.YtnifgmijjggjjaaDoorGAsmSays2
import Derived.Test.YtnifgmijjggjjaaDoorGAsmSays5
import Derived.Test.YtnifgmijjggjjaaDoorFl0
import Derived.Deep.CutBlock
import Derived.Deep.DrawnRows
namespace Go.Proofs.YtnifgmijjggjjaaDoor
open Go.RowKit Go.Lib
attribute [local go_sem ↓] Go.wp_at_zero Go.wp_at_succ

/-- a row's cells -/
def asC (r : Nat × List UInt8 × List (List UInt8)) : List Value := [.int .u8 r.1, .string (S r.2.1), .string (S (jn [32] r.2.2))]
set_option maxRecDepth 100000 in
set_option maxHeartbeats 4000000 in
theorem rows_any (w : World) : Calls Tryd.prog 8 #[] w fun e w' => e = .returned (.slice (some ⟨w.heap.size, 0, none⟩) 17 17) ∧ Blk w' w.heap.size 32 (asR.map asC).flatten ∧ Below w.heap.size w w' := by
  go_enter Tryd.func8, Tryd.ntmps8
  go_wp2_with fail
  go_ret
  refine ⟨rfl, ?_, (Below.refl _ _).alloc (Nat.le_refl _) _⟩
  exact Blk.new w _ _ _ (by kernel_rfl)
theorem asC_len : ∀ c ∈ asR.map asC, c.length = 3 := by
  intro c hc
  obtain ⟨r, _, rfl⟩ := List.mem_map.1 hc
  rfl
theorem row_cells {w : World} {B : Nat} (h : Blk w B 32 (asR.map asC).flatten) (k : Nat) (hk : k < asR.length) (j : Nat) (hj : j < 3) : w.cell? ⟨B, k * 3 + j, none⟩ = (asC asR[k])[j]? := by
  have e := flatten_get (asR.map asC) asC_len k j hj (by simpa using hk)
  rw [List.getElem_map] at e
  have hl : j < (asC asR[k]).length := hj
  rw [List.getElem?_eq_getElem hl] at e ⊢
  exact h.cell e
theorem split_any (c : UInt8) (t : List UInt8) (ps : List (List UInt8)) (h0 : ps ≠ []) (h : ps.all (fun p => !p.contains c) = true) (s : List UInt8) (hs : s = jn (c :: t) ps) (hl : s.length < 4294967281) (w : World) (hM : MaxL w) :
    Calls Tryd.prog 9 #[.string (S s), .string (S (c :: t))] w fun e w' => e = .returned (.slice (some ⟨w.heap.size, 0, none⟩) ps.length ps.length) ∧ w' = w.alloc (.cells ((ps.map S).map Value.string).toArray 9) := by
  obtain ⟨m, hm⟩ := hM
  obtain ⟨e1, e2⟩ := split_jn c t ps h0 h s hs
  have := Tryd.strings_Split (S s) (S (c :: t)) m w (by rw [S_size]; exact hl) hm (by rw [S_size]; simp)
  rw [e2] at this
  refine this.mono ?_
  rintro e w' ⟨rfl, rfl⟩
  exact ⟨by rw [← e1], rfl⟩
set_option maxRecDepth 100000 in
set_option maxHeartbeats 8000000 in
theorem name_any (op : Nat) (hop : op < 256) (w : World) (hM : MaxL w) :
    Calls Tryd.prog 4 #[.int .u8 op] w fun e w' => e = .returned (.tuple #[.string (S (nmM op).1), .bool (nmM op).2]) ∧ Below w.heap.size w w' := by
  obtain ⟨fin, hfin⟩ : ∃ fin, nmF asR op = fin := ⟨_, rfl⟩
  unfold nmM
  rw [hfin]
  have HF0 := hid (show nmF (asR.drop 0) op = fin from hfin)
  have HR := hid (rows_any w)
  have HM := hid hM
  clear hfin hM
  go_enter Tryd.func4, Tryd.ntmps4
  go_wp2_with (go_at_call 8; refine HR.out.mono ?_; rintro r w1 ⟨rfl, hb1, hw1⟩; have HB1 := hid hb1; have HW1 := hid hw1; clear hb1 hw1)
  go_loopw [10] (fun i wr => ∃ k : Nat, k ≤ 17 ∧ i = .int .i64 k ∧ Hid (nmF (asR.drop k) op = fin) ∧ Hid (Blk wr w.heap.size 32 (asR.map asC).flatten) ∧ Hid (Below w.heap.size w wr)) (fun i _ => 17 - (RowKit.intOf i).toNat)
  case atStart => exact ⟨0, by decide, rfl, HF0, HB1, HW1⟩
  case round =>
    obtain ⟨k, hk, rfl, HF, HB, HW⟩ := hrel
    by_cases hlt : k < 17
    · have hkr : k < asR.length := hlt
      have y0 := row_cells HB.out k hkr 0 (by decide)
      have y1 := row_cells HB.out k hkr 1 (by decide)
      have y2 := row_cells HB.out k hkr 2 (by decide)
      have hok := List.all_eq_true.1 asR_ok _ (List.getElem_mem hkr)
      have hfk := HF.out
      rw [List.drop_eq_getElem_cons hkr] at hfk
      simp only [asC, List.getElem?_cons_zero, List.getElem?_cons_succ, Nat.add_zero] at y0 y1 y2
      generalize asR[k] = row at *
      obtain ⟨F, ah, ws⟩ := row
      simp only [Bool.and_eq_true, decide_eq_true_eq] at hok y0 y1 y2
      obtain ⟨⟨⟨⟨⟨p1, p2⟩, p3⟩, p4⟩, p5⟩, p6⟩ := hok
      have HS := hid (fun wx (hx : Below w.heap.size w wx) => split_any 32 [] ws p2 p1 _ rfl (by omega) wx (HM.out.below hx))
      have HP := hid (And.intro p5 p6)
      have HFK := hid (show (if F ≤ op ∧ op < F + ws.length then (ah ++ ws.getD (op - F) [], true) else nmF (asR.drop (k + 1)) op) = fin from hfk)
      clear hkr hfk p1 p2 p3 p5 p6 HF
      have hFr : ((F : Int) : Int) < 256 := by omega
      have hopr : (op : Int) < 256 := by omega
      have HA := hid (HW.out.alloc HW.out.size (.cells #[.int .u8 F, .string (S ah), .string (S (jn [32] ws))] 32))
      have HB2 := hid (HB.out.alloc (.cells #[.int .u8 F, .string (S ah), .string (S (jn [32] ws))] 32))
      have hN := Blk.new wr #[.int .u8 F, .string (S ah), .string (S (jn [32] ws))] 32 _ rfl
      have a0 := hN.cell (i := 0) rfl
      have a1 := hN.cell (i := 1) rfl
      have a2 := hN.cell (i := 2) rfl
      have HN := hid hN
      clear hN
      obtain ⟨CL, hCL⟩ : ∃ CL, CL = (ws.map S).map Value.string := ⟨_, rfl⟩
      rw [← hCL] at HS
      have HCL := hid hCL
      clear hCL
      by_cases hin : F ≤ op ∧ op < F + ws.length
      · obtain ⟨d, hd⟩ : ∃ d : Nat, (op : Int) - (F : Int) = (d : Int) := ⟨op - F, by omega⟩
        have hd2 : op - F = d := by omega
        have g1 : (0 : Int) ≤ (d : Int) := by omega
        have g2 : (d : Int) < (ws.length : Int) := by omega
        have hdl : d < ws.length := by omega
        have HQ := hid (show fin = (ah ++ ws.getD d [], true) from by have := HFK.out; rw [if_pos hin, hd2] at this; exact this.symm)
        have HLS := hid (show (ah ++ ws.getD d []).length < 30 from by
          have h6 := List.all_eq_true.1 HP.out.2 _ (List.getElem_mem hdl)
          have h5 := HP.out.1
          rw [decide_eq_true_eq] at h6
          rw [List.getD_eq_getElem?_getD, List.getElem?_eq_getElem hdl, Option.getD_some, List.length_append]
          omega)
        have hgd : CL[d]? = some (.string (S (ws.getD d []))) := by
          rw [HCL.out, List.getElem?_map, List.getElem?_map, List.getD_eq_getElem?_getD, List.getElem?_eq_getElem hdl]
          rfl
        have hce : ((wr.alloc (.cells #[.int .u8 F, .string (S ah), .string (S (jn [32] ws))] 32)).alloc (.cells CL.toArray 9)).cell? ⟨wr.heap.size + 1, d, none⟩ = some (.string (S (ws.getD d []))) := (Blk.new (wr.alloc (.cells #[.int .u8 F, .string (S ah), .string (S (jn [32] ws))] 32)) CL.toArray 9 _ (by simp)).cell (by simpa using hgd)
        have q1 := fun o => cell_alloc o a1
        have hcat : ¬ 9223372036854775807 < (S ah).size + (S (ws.getD d [])).size := by
          have := HLS.out
          rw [List.length_append] at this
          rw [S_size, S_size]
          omega
        have HSA := hid (S_append ah (ws.getD d []))
        clear hin hd2 hgd hdl HP HFK p4
        go_wp2_with (go_at_call 9; refine (HS.out _ HA.out).mono ?_; rintro r w2 ⟨rfl, rfl⟩)
        generalize ws.getD d [] = nmw at *
        go_quiet (fail)
        go_wp2_with fail
        go_ret2
        exact ⟨by rw [HQ.out, HSA.out]; rfl, drew_bel' (n := nq) (HA.out.alloc HA.out.size _)⟩
      · have HFN := hid (show nmF (asR.drop (k + 1)) op = fin from by have := HFK.out; rw [if_neg hin] at this; exact this)
        have gin : ¬ ((F : Int) ≤ op ∧ (op : Int) - F < ws.length) := by omega
        by_cases h1 : F ≤ op
        · have g1 : (0 : Int) ≤ (op : Int) - F := by omega
          have g2 : ¬ ((op : Int) - F < ws.length) := by omega
          clear gin hin HFK HP
          go_wp2_with (go_at_call 9; refine (HS.out _ HA.out).mono ?_; rintro r w2 ⟨rfl, rfl⟩)
          go_roundw
          case rel => exact ⟨k + 1, by omega, by go_num, HFN, hid (HB2.out.alloc _), hid (HA.out.alloc HA.out.size _)⟩
          case measure => simp [RowKit.intOf]; omega
        · have g1 : ¬ (0 : Int) ≤ (op : Int) - F := by omega
          clear gin hin HFK HP
          go_wp2_with (go_at_call 9; refine (HS.out _ HA.out).mono ?_; rintro r w2 ⟨rfl, rfl⟩)
          go_roundw
          case rel => exact ⟨k + 1, by omega, by go_num, HFN, hid (HB2.out.alloc _), hid (HA.out.alloc HA.out.size _)⟩
          case measure => simp [RowKit.intOf]; omega
    · obtain rfl : k = 17 := by omega
      have hfin := HF.out
      rw [show asR.drop 17 = [] from rfl] at hfin
      have HE := hid (show (([], false) : List UInt8 × Bool) = fin from hfin)
      clear hfin
      go_wp2_with fail
      go_ret2
      exact ⟨by rw [← HE.out]; rfl, HW.out⟩
end Go.Proofs.YtnifgmijjggjjaaDoor
