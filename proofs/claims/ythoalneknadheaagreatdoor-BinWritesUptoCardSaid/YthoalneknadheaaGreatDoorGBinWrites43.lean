/-
  MODULES AS BYTES, the program's each over structs. Condition: unicode/utf8's two tables hold what the row lists.
-/
import Derived.Test.YthoalneknadheaaGreatDoorGBinWrites33
namespace Go.Proofs.YthoalneknadheaaGreatDoor
open Go.RowKit Go.Lib

set_option maxRecDepth 100000 in
set_option maxHeartbeats 4000000 in
theorem eachSig_any (W w : World) (C : Nat) (b : Int) (v : Value) (ys : List D_api_Sig) (most : Int) (hb : Below W.heap.size W w) (hC : W.heap.size ≤ C) (hl : R_s_api_Sig W [v] ys) (h : PC w C b) :
  Calls Tryz.prog 63 #[.pointer (some ⟨C, 0, none⟩), v, .int .i64 most, .func (.func 64) #[.pointer (some ⟨C, 0, none⟩)] #[]] w (CPost C (orE b (eachE fSig ys most)) w) := by
 have HN := hid (fun wx h => need_any wx C b 2 (decide ((ys.length : Int) ≤ most)) h)
 have H := hid h
 have HL := hid hl
 have HB := hid hb
 have HC := hid hC
 obtain ⟨ao, cap, rfl, hcap, hcm, _⟩ := sl_shape hl
 unfold eachE
 rw [← orE_assoc]
 obtain ⟨bs, hbs⟩ : ∃ bs, decide ((ys.length : Int) ≤ most) = bs := ⟨_, rfl⟩
 rw [hbs] at HN
 rw [hbs]
 obtain ⟨b1, hb1⟩ : ∃ b1, orE b (ndE bs 2) = b1 := ⟨_, rfl⟩
 rw [hb1] at HN
 rw [hb1]
 have HNX := hid (fun k (hk : k < ys.length) => foldE_next fSig ys k hk b1)
 have HSP := hid (fun k (hk : orE b1 (foldE fSig (ys.take k)) ≠ 0) => foldE_stop fSig ys k b1 hk)
 have HFL := hid (foldE_full fSig ys b1)
 obtain ⟨n, hn⟩ : ∃ n, ys.length = n := ⟨_, rfl⟩
 have HLN := hid hn
 rw [hn] at hcap HL hbs HFL
 rw [hn]
 have hn9 : (n : Int) ≤ 9223372036854775807 := by omega
 clear h hl hb hb1 hn hC
 go_enter Tryz.func63, Tryz.ntmps63
 go_wp2_with (go_at_call 71; refine (HN.out _ H.out).mono ?_; rintro r w2 hp; obtain ⟨rfl, hq⟩ := hp; have HQ := hid hq; clear hq)
 go_loopw [9, 18] (fun _ i wr => ∃ k : Nat, k ≤ n ∧ i = .int .i64 k ∧ Hid (PC wr C (orE b1 (foldE fSig (ys.take k)))) ∧ Hid (Touch (fun k => k = C) w wr)) (fun _ i _ => n - (RowKit.intOf i).toNat)
 case atStart => exact ⟨0, Nat.zero_le _, rfl, hid (by rw [List.take_zero]; show PC w2 C (orE b1 0); rw [orE_none]; exact HQ.out.1), hid HQ.out.2⟩
 case round =>
  obtain ⟨k, hk, rfl, PP, TT⟩ := hrel
  by_cases hlt : k < n
  ·have hkl : k < ys.length := by rw [HLN.out]; exact hlt
   have HBW := hid (HB.out.trans (TT.out.below HB.out.size (fun _ hk => hk ▸ HC.out)))
   obtain ⟨lb, lo, cap', cs, hv, _, _, _, hR, hcc⟩ := sliceR_at HL.out (by decide) k hkl
   rw [HLN.out] at hv
   simp only [Value.slice.injEq] at hv
   obtain ⟨rfl, -, rfl⟩ := hv
   have HNK := hid (HNX.out k hkl)
   have HSK := hid (HSP.out k)
   generalize hcur : orE b1 (foldE fSig (ys.take k)) = cur at *
   generalize ys[k] = y at *
   clear hkl hcur
   have HRK := hid hR
   obtain ⟨_, _, rfl, h1, _, _, rfl, h2, rfl⟩ := hR
   obtain ⟨u1, rfl⟩ := sl_one h1
   obtain ⟨a1, k1, rfl, _, _, _⟩ := sl_shape h1
   obtain ⟨u2, rfl⟩ := sl_one h2
   obtain ⟨a2, k2, rfl, _, _, _⟩ := sl_shape h2
   clear h1 h2
   have y0 : wr.cell? ⟨lb, lo + k * 2, none⟩ = some (.slice a1 y.1.length k1) := hcc wr HBW.out 0 (by decide)
   have y1 : wr.cell? ⟨lb, lo + k * 2 + 1, none⟩ = some (.slice a2 y.2.1.length k2) := hcc wr HBW.out 1 (by decide)
   clear hcc
   have c0 := fun o => cell_alloc o (Blk.cell PP.out (i := 0) rfl)
   by_cases hz : cur = 0
   ·subst hz
    go_wp2_with (go_at_call 64; refine (sig_any W _ C 0 _ y (HBW.out.alloc HBW.out.size _) HC.out HRK.out (PP.out.below ((Below.refl _ _).alloc (Nat.le_refl _) _))).mono ?_; rintro r w3 hp; obtain ⟨rfl, hq⟩ := hp; have HQ3 := hid hq; clear hq)
    go_roundw
    case rel => exact ⟨k + 1, by omega, by go_num, hid (by rw [← HNK.out]; exact HQ3.out.1), hid ((TT.out.trans (Touch.of_below ((Below.refl _ _).alloc (Nat.le_refl _) _))).trans HQ3.out.2)⟩
    case measure => simp [RowKit.intOf]; omega
   ·have hz2 : (cur == 0) = false := by simpa using hz
    have HE := hid (HSK.out hz)
    clear hz
    go_wp2_with fail
    go_end0
    rw [HE.out]
    exact ⟨rfl, PP.out.below ((Below.refl _ _).alloc (Nat.le_refl _) _), TT.out.trans (Touch.of_below ((Below.refl _ _).alloc (Nat.le_refl _) _))⟩
  ·obtain rfl : k = n := by omega
   go_wp2_with fail
   go_end0
   rw [← HFL.out]
   exact ⟨rfl, PP.out, TT.out⟩
set_option maxRecDepth 100000 in
set_option maxHeartbeats 4000000 in
theorem eachImport_any (W w : World) (C : Nat) (b : Int) (v : Value) (ys : List D_api_Import) (most : Int) (hb : Below W.heap.size W w) (hC : W.heap.size ≤ C) (hT : UTabs W) (D : Nat) (hD : Blk w D 117 [.pointer (some ⟨C, 0, none⟩)]) (hDC : D ≠ C) (hl : R_s_api_Import W [v] ys) (h : PC w C b) :
  Calls Tryz.prog 65 #[.pointer (some ⟨C, 0, none⟩), v, .int .i64 most, .func (.func 66) #[] #[.pointer (some ⟨D, 0, none⟩)]] w (CPost C (orE b (eachE fImport ys most)) w) := by
 have HN := hid (fun wx h => need_any wx C b 2 (decide ((ys.length : Int) ≤ most)) h)
 have H := hid h
 have HL := hid hl
 have HB := hid hb
 have HC := hid hC
 have HT := hid hT
 have HD := hid hD
 have HDC := hid hDC
 obtain ⟨ao, cap, rfl, hcap, hcm, _⟩ := sl_shape hl
 unfold eachE
 rw [← orE_assoc]
 obtain ⟨bs, hbs⟩ : ∃ bs, decide ((ys.length : Int) ≤ most) = bs := ⟨_, rfl⟩
 rw [hbs] at HN
 rw [hbs]
 obtain ⟨b1, hb1⟩ : ∃ b1, orE b (ndE bs 2) = b1 := ⟨_, rfl⟩
 rw [hb1] at HN
 rw [hb1]
 have HNX := hid (fun k (hk : k < ys.length) => foldE_next fImport ys k hk b1)
 have HSP := hid (fun k (hk : orE b1 (foldE fImport (ys.take k)) ≠ 0) => foldE_stop fImport ys k b1 hk)
 have HFL := hid (foldE_full fImport ys b1)
 obtain ⟨n, hn⟩ : ∃ n, ys.length = n := ⟨_, rfl⟩
 have HLN := hid hn
 rw [hn] at hcap HL hbs HFL
 rw [hn]
 have hn9 : (n : Int) ≤ 9223372036854775807 := by omega
 clear h hl hb hb1 hn hC hT hD hDC
 go_enter Tryz.func65, Tryz.ntmps65
 go_wp2_with (go_at_call 71; refine (HN.out _ H.out).mono ?_; rintro r w2 hp; obtain ⟨rfl, hq⟩ := hp; have HQ := hid hq; clear hq)
 go_loopw [9, 18] (fun _ i wr => ∃ k : Nat, k ≤ n ∧ i = .int .i64 k ∧ Hid (PC wr C (orE b1 (foldE fImport (ys.take k)))) ∧ Hid (Touch (fun k => k = C) w wr)) (fun _ i _ => n - (RowKit.intOf i).toNat)
 case atStart => exact ⟨0, Nat.zero_le _, rfl, hid (by rw [List.take_zero]; show PC w2 C (orE b1 0); rw [orE_none]; exact HQ.out.1), hid HQ.out.2⟩
 case round =>
  obtain ⟨k, hk, rfl, PP, TT⟩ := hrel
  by_cases hlt : k < n
  ·have hkl : k < ys.length := by rw [HLN.out]; exact hlt
   have HBW := hid (HB.out.trans (TT.out.below HB.out.size (fun _ hk => hk ▸ HC.out)))
   obtain ⟨lb, lo, cap', cs, hv, _, _, _, hR, hcc⟩ := sliceR_at HL.out (by decide) k hkl
   rw [HLN.out] at hv
   simp only [Value.slice.injEq] at hv
   obtain ⟨rfl, -, rfl⟩ := hv
   have HNK := hid (HNX.out k hkl)
   have HSK := hid (HSP.out k)
   generalize hcur : orE b1 (foldE fImport (ys.take k)) = cur at *
   generalize ys[k] = y at *
   clear hkl hcur
   have HRK := hid hR
   obtain ⟨_, _, rfl, ⟨rfl, _⟩, _, _, rfl, ⟨rfl, _⟩, rfl⟩ := hR
   have y0 : wr.cell? ⟨lb, lo + k * 2, none⟩ = some (.string y.1) := hcc wr HBW.out 0 (by decide)
   have y1 : wr.cell? ⟨lb, lo + k * 2 + 1, none⟩ = some (.int .i64 y.2.1) := hcc wr HBW.out 1 (by decide)
   clear hcc
   have c0 := fun o => cell_alloc o (Blk.cell PP.out (i := 0) rfl)
   by_cases hz : cur = 0
   ·subst hz
    have XD := hid (HD.out.touch TT.out HDC.out)
    go_wp2_with (go_at_call 66; refine (import_any W _ C 0 _ y (HBW.out.alloc HBW.out.size _) HC.out HT.out D (XD.out.below ((Below.refl _ _).alloc (Nat.le_refl _) _)) HDC.out HRK.out (PP.out.below ((Below.refl _ _).alloc (Nat.le_refl _) _))).mono ?_; rintro r w3 hp; obtain ⟨rfl, hq⟩ := hp; have HQ3 := hid hq; clear hq)
    go_roundw
    case rel => exact ⟨k + 1, by omega, by go_num, hid (by rw [← HNK.out]; exact HQ3.out.1), hid ((TT.out.trans (Touch.of_below ((Below.refl _ _).alloc (Nat.le_refl _) _))).trans HQ3.out.2)⟩
    case measure => simp [RowKit.intOf]; omega
   ·have hz2 : (cur == 0) = false := by simpa using hz
    have HE := hid (HSK.out hz)
    clear hz
    go_wp2_with fail
    go_end0
    rw [HE.out]
    exact ⟨rfl, PP.out.below ((Below.refl _ _).alloc (Nat.le_refl _) _), TT.out.trans (Touch.of_below ((Below.refl _ _).alloc (Nat.le_refl _) _))⟩
  ·obtain rfl : k = n := by omega
   go_wp2_with fail
   go_end0
   rw [← HFL.out]
   exact ⟨rfl, PP.out, TT.out⟩
set_option maxRecDepth 100000 in
set_option maxHeartbeats 4000000 in
theorem eachFunc_any (W w : World) (C : Nat) (b : Int) (v : Value) (ys : List D_api_Func) (most : Int) (hb : Below W.heap.size W w) (hC : W.heap.size ≤ C) (hl : R_s_api_Func W [v] ys) (h : PC w C b) :
  Calls Tryz.prog 69 #[.pointer (some ⟨C, 0, none⟩), v, .int .i64 most, .func (.func 70) #[.pointer (some ⟨C, 0, none⟩)] #[]] w (CPost C (orE b (eachE fFunc ys most)) w) := by
 have HN := hid (fun wx h => need_any wx C b 2 (decide ((ys.length : Int) ≤ most)) h)
 have H := hid h
 have HL := hid hl
 have HB := hid hb
 have HC := hid hC
 obtain ⟨ao, cap, rfl, hcap, hcm, _⟩ := sl_shape hl
 unfold eachE
 rw [← orE_assoc]
 obtain ⟨bs, hbs⟩ : ∃ bs, decide ((ys.length : Int) ≤ most) = bs := ⟨_, rfl⟩
 rw [hbs] at HN
 rw [hbs]
 obtain ⟨b1, hb1⟩ : ∃ b1, orE b (ndE bs 2) = b1 := ⟨_, rfl⟩
 rw [hb1] at HN
 rw [hb1]
 have HNX := hid (fun k (hk : k < ys.length) => foldE_next fFunc ys k hk b1)
 have HSP := hid (fun k (hk : orE b1 (foldE fFunc (ys.take k)) ≠ 0) => foldE_stop fFunc ys k b1 hk)
 have HFL := hid (foldE_full fFunc ys b1)
 obtain ⟨n, hn⟩ : ∃ n, ys.length = n := ⟨_, rfl⟩
 have HLN := hid hn
 rw [hn] at hcap HL hbs HFL
 rw [hn]
 have hn9 : (n : Int) ≤ 9223372036854775807 := by omega
 clear h hl hb hb1 hn hC
 go_enter Tryz.func69, Tryz.ntmps69
 go_wp2_with (go_at_call 71; refine (HN.out _ H.out).mono ?_; rintro r w2 hp; obtain ⟨rfl, hq⟩ := hp; have HQ := hid hq; clear hq)
 go_loopw [9, 18] (fun _ i wr => ∃ k : Nat, k ≤ n ∧ i = .int .i64 k ∧ Hid (PC wr C (orE b1 (foldE fFunc (ys.take k)))) ∧ Hid (Touch (fun k => k = C) w wr)) (fun _ i _ => n - (RowKit.intOf i).toNat)
 case atStart => exact ⟨0, Nat.zero_le _, rfl, hid (by rw [List.take_zero]; show PC w2 C (orE b1 0); rw [orE_none]; exact HQ.out.1), hid HQ.out.2⟩
 case round =>
  obtain ⟨k, hk, rfl, PP, TT⟩ := hrel
  by_cases hlt : k < n
  ·have hkl : k < ys.length := by rw [HLN.out]; exact hlt
   have HBW := hid (HB.out.trans (TT.out.below HB.out.size (fun _ hk => hk ▸ HC.out)))
   obtain ⟨lb, lo, cap', cs, hv, _, _, _, hR, hcc⟩ := sliceR_at HL.out (by decide) k hkl
   rw [HLN.out] at hv
   simp only [Value.slice.injEq] at hv
   obtain ⟨rfl, -, rfl⟩ := hv
   have HNK := hid (HNX.out k hkl)
   have HSK := hid (HSP.out k)
   generalize hcur : orE b1 (foldE fFunc (ys.take k)) = cur at *
   generalize ys[k] = y at *
   clear hkl hcur
   have HRK := hid hR
   obtain ⟨_, _, rfl, ⟨rfl, _⟩, _, _, rfl, h1, _, _, rfl, h2, rfl⟩ := hR
   obtain ⟨u1, rfl⟩ := sl_one h1
   obtain ⟨a1, k1, rfl, _, _, _⟩ := sl_shape h1
   obtain ⟨u2, rfl⟩ := sl_one h2
   obtain ⟨a2, k2, rfl, _, _, _⟩ := sl_shape h2
   clear h1 h2
   have y0 : wr.cell? ⟨lb, lo + k * 3, none⟩ = some (.int .i64 y.1) := hcc wr HBW.out 0 (by decide)
   have y1 : wr.cell? ⟨lb, lo + k * 3 + 1, none⟩ = some (.slice a1 y.2.1.length k1) := hcc wr HBW.out 1 (by decide)
   have y2 : wr.cell? ⟨lb, lo + k * 3 + 2, none⟩ = some (.slice a2 y.2.2.1.length k2) := hcc wr HBW.out 2 (by decide)
   clear hcc
   have c0 := fun o => cell_alloc o (Blk.cell PP.out (i := 0) rfl)
   by_cases hz : cur = 0
   ·subst hz
    go_wp2_with (go_at_call 70; refine (function_any W _ C 0 _ y (HBW.out.alloc HBW.out.size _) HC.out HRK.out (PP.out.below ((Below.refl _ _).alloc (Nat.le_refl _) _))).mono ?_; rintro r w3 hp; obtain ⟨rfl, hq⟩ := hp; have HQ3 := hid hq; clear hq)
    go_roundw
    case rel => exact ⟨k + 1, by omega, by go_num, hid (by rw [← HNK.out]; exact HQ3.out.1), hid ((TT.out.trans (Touch.of_below ((Below.refl _ _).alloc (Nat.le_refl _) _))).trans HQ3.out.2)⟩
    case measure => simp [RowKit.intOf]; omega
   ·have hz2 : (cur == 0) = false := by simpa using hz
    have HE := hid (HSK.out hz)
    clear hz
    go_wp2_with fail
    go_end0
    rw [HE.out]
    exact ⟨rfl, PP.out.below ((Below.refl _ _).alloc (Nat.le_refl _) _), TT.out.trans (Touch.of_below ((Below.refl _ _).alloc (Nat.le_refl _) _))⟩
  ·obtain rfl : k = n := by omega
   go_wp2_with fail
   go_end0
   rw [← HFL.out]
   exact ⟨rfl, PP.out, TT.out⟩
set_option maxRecDepth 100000 in
set_option maxHeartbeats 4000000 in
theorem eachGlobal_any (W w : World) (C : Nat) (b : Int) (v : Value) (ys : List D_api_Global) (most : Int) (hb : Below W.heap.size W w) (hC : W.heap.size ≤ C) (D : Nat) (hD : Blk w D 117 [.pointer (some ⟨C, 0, none⟩)]) (hDC : D ≠ C) (hl : R_s_api_Global W [v] ys) (h : PC w C b) :
  Calls Tryz.prog 72 #[.pointer (some ⟨C, 0, none⟩), v, .int .i64 most, .func (.func 73) #[] #[.pointer (some ⟨D, 0, none⟩)]] w (CPost C (orE b (eachE fGlobal ys most)) w) := by
 have HN := hid (fun wx h => need_any wx C b 2 (decide ((ys.length : Int) ≤ most)) h)
 have H := hid h
 have HL := hid hl
 have HB := hid hb
 have HC := hid hC
 have HD := hid hD
 have HDC := hid hDC
 obtain ⟨ao, cap, rfl, hcap, hcm, _⟩ := sl_shape hl
 unfold eachE
 rw [← orE_assoc]
 obtain ⟨bs, hbs⟩ : ∃ bs, decide ((ys.length : Int) ≤ most) = bs := ⟨_, rfl⟩
 rw [hbs] at HN
 rw [hbs]
 obtain ⟨b1, hb1⟩ : ∃ b1, orE b (ndE bs 2) = b1 := ⟨_, rfl⟩
 rw [hb1] at HN
 rw [hb1]
 have HNX := hid (fun k (hk : k < ys.length) => foldE_next fGlobal ys k hk b1)
 have HSP := hid (fun k (hk : orE b1 (foldE fGlobal (ys.take k)) ≠ 0) => foldE_stop fGlobal ys k b1 hk)
 have HFL := hid (foldE_full fGlobal ys b1)
 obtain ⟨n, hn⟩ : ∃ n, ys.length = n := ⟨_, rfl⟩
 have HLN := hid hn
 rw [hn] at hcap HL hbs HFL
 rw [hn]
 have hn9 : (n : Int) ≤ 9223372036854775807 := by omega
 clear h hl hb hb1 hn hC hD hDC
 go_enter Tryz.func72, Tryz.ntmps72
 go_wp2_with (go_at_call 71; refine (HN.out _ H.out).mono ?_; rintro r w2 hp; obtain ⟨rfl, hq⟩ := hp; have HQ := hid hq; clear hq)
 go_loopw [9, 18] (fun _ i wr => ∃ k : Nat, k ≤ n ∧ i = .int .i64 k ∧ Hid (PC wr C (orE b1 (foldE fGlobal (ys.take k)))) ∧ Hid (Touch (fun k => k = C) w wr)) (fun _ i _ => n - (RowKit.intOf i).toNat)
 case atStart => exact ⟨0, Nat.zero_le _, rfl, hid (by rw [List.take_zero]; show PC w2 C (orE b1 0); rw [orE_none]; exact HQ.out.1), hid HQ.out.2⟩
 case round =>
  obtain ⟨k, hk, rfl, PP, TT⟩ := hrel
  by_cases hlt : k < n
  ·have hkl : k < ys.length := by rw [HLN.out]; exact hlt
   have HBW := hid (HB.out.trans (TT.out.below HB.out.size (fun _ hk => hk ▸ HC.out)))
   obtain ⟨lb, lo, cap', cs, hv, _, _, _, hR, hcc⟩ := sliceR_at HL.out (by decide) k hkl
   rw [HLN.out] at hv
   simp only [Value.slice.injEq] at hv
   obtain ⟨rfl, -, rfl⟩ := hv
   have HNK := hid (HNX.out k hkl)
   have HSK := hid (HSP.out k)
   generalize hcur : orE b1 (foldE fGlobal (ys.take k)) = cur at *
   generalize ys[k] = y at *
   clear hkl hcur
   have HRK := hid hR
   obtain ⟨_, _, rfl, ⟨rfl, _⟩, _, _, rfl, rfl, _, _, rfl, ⟨rfl, _⟩, rfl⟩ := hR
   have y0 : wr.cell? ⟨lb, lo + k * 3, none⟩ = some (.int .u8 y.1) := hcc wr HBW.out 0 (by decide)
   have y1 : wr.cell? ⟨lb, lo + k * 3 + 1, none⟩ = some (.bool y.2.1) := hcc wr HBW.out 1 (by decide)
   have y2 : wr.cell? ⟨lb, lo + k * 3 + 2, none⟩ = some (.int .i64 y.2.2.1) := hcc wr HBW.out 2 (by decide)
   clear hcc
   have c0 := fun o => cell_alloc o (Blk.cell PP.out (i := 0) rfl)
   by_cases hz : cur = 0
   ·subst hz
    have XD := hid (HD.out.touch TT.out HDC.out)
    go_wp2_with (go_at_call 73; refine (global_any W _ C 0 _ y (HBW.out.alloc HBW.out.size _) HC.out D (XD.out.below ((Below.refl _ _).alloc (Nat.le_refl _) _)) HDC.out HRK.out (PP.out.below ((Below.refl _ _).alloc (Nat.le_refl _) _))).mono ?_; rintro r w3 hp; obtain ⟨rfl, hq⟩ := hp; have HQ3 := hid hq; clear hq)
    go_roundw
    case rel => exact ⟨k + 1, by omega, by go_num, hid (by rw [← HNK.out]; exact HQ3.out.1), hid ((TT.out.trans (Touch.of_below ((Below.refl _ _).alloc (Nat.le_refl _) _))).trans HQ3.out.2)⟩
    case measure => simp [RowKit.intOf]; omega
   ·have hz2 : (cur == 0) = false := by simpa using hz
    have HE := hid (HSK.out hz)
    clear hz
    go_wp2_with fail
    go_end0
    rw [HE.out]
    exact ⟨rfl, PP.out.below ((Below.refl _ _).alloc (Nat.le_refl _) _), TT.out.trans (Touch.of_below ((Below.refl _ _).alloc (Nat.le_refl _) _))⟩
  ·obtain rfl : k = n := by omega
   go_wp2_with fail
   go_end0
   rw [← HFL.out]
   exact ⟨rfl, PP.out, TT.out⟩
set_option maxRecDepth 100000 in
set_option maxHeartbeats 4000000 in
theorem eachExport_any (W w : World) (C : Nat) (b : Int) (v : Value) (ys : List D_api_Export) (most : Int) (hb : Below W.heap.size W w) (hC : W.heap.size ≤ C) (hT : UTabs W) (hl : R_s_api_Export W [v] ys) (h : PC w C b) :
  Calls Tryz.prog 75 #[.pointer (some ⟨C, 0, none⟩), v, .int .i64 most, .func (.func 76) #[.pointer (some ⟨C, 0, none⟩)] #[]] w (CPost C (orE b (eachE fExport ys most)) w) := by
 have HN := hid (fun wx h => need_any wx C b 2 (decide ((ys.length : Int) ≤ most)) h)
 have H := hid h
 have HL := hid hl
 have HB := hid hb
 have HC := hid hC
 have HT := hid hT
 obtain ⟨ao, cap, rfl, hcap, hcm, _⟩ := sl_shape hl
 unfold eachE
 rw [← orE_assoc]
 obtain ⟨bs, hbs⟩ : ∃ bs, decide ((ys.length : Int) ≤ most) = bs := ⟨_, rfl⟩
 rw [hbs] at HN
 rw [hbs]
 obtain ⟨b1, hb1⟩ : ∃ b1, orE b (ndE bs 2) = b1 := ⟨_, rfl⟩
 rw [hb1] at HN
 rw [hb1]
 have HNX := hid (fun k (hk : k < ys.length) => foldE_next fExport ys k hk b1)
 have HSP := hid (fun k (hk : orE b1 (foldE fExport (ys.take k)) ≠ 0) => foldE_stop fExport ys k b1 hk)
 have HFL := hid (foldE_full fExport ys b1)
 obtain ⟨n, hn⟩ : ∃ n, ys.length = n := ⟨_, rfl⟩
 have HLN := hid hn
 rw [hn] at hcap HL hbs HFL
 rw [hn]
 have hn9 : (n : Int) ≤ 9223372036854775807 := by omega
 clear h hl hb hb1 hn hC hT
 go_enter Tryz.func75, Tryz.ntmps75
 go_wp2_with (go_at_call 71; refine (HN.out _ H.out).mono ?_; rintro r w2 hp; obtain ⟨rfl, hq⟩ := hp; have HQ := hid hq; clear hq)
 go_loopw [9, 18] (fun _ i wr => ∃ k : Nat, k ≤ n ∧ i = .int .i64 k ∧ Hid (PC wr C (orE b1 (foldE fExport (ys.take k)))) ∧ Hid (Touch (fun k => k = C) w wr)) (fun _ i _ => n - (RowKit.intOf i).toNat)
 case atStart => exact ⟨0, Nat.zero_le _, rfl, hid (by rw [List.take_zero]; show PC w2 C (orE b1 0); rw [orE_none]; exact HQ.out.1), hid HQ.out.2⟩
 case round =>
  obtain ⟨k, hk, rfl, PP, TT⟩ := hrel
  by_cases hlt : k < n
  ·have hkl : k < ys.length := by rw [HLN.out]; exact hlt
   have HBW := hid (HB.out.trans (TT.out.below HB.out.size (fun _ hk => hk ▸ HC.out)))
   obtain ⟨lb, lo, cap', cs, hv, _, _, _, hR, hcc⟩ := sliceR_at HL.out (by decide) k hkl
   rw [HLN.out] at hv
   simp only [Value.slice.injEq] at hv
   obtain ⟨rfl, -, rfl⟩ := hv
   have HNK := hid (HNX.out k hkl)
   have HSK := hid (HSP.out k)
   generalize hcur : orE b1 (foldE fExport (ys.take k)) = cur at *
   generalize ys[k] = y at *
   clear hkl hcur
   have HRK := hid hR
   obtain ⟨_, _, rfl, ⟨rfl, _⟩, _, _, rfl, ⟨rfl, _⟩, rfl⟩ := hR
   have y0 : wr.cell? ⟨lb, lo + k * 2, none⟩ = some (.string y.1) := hcc wr HBW.out 0 (by decide)
   have y1 : wr.cell? ⟨lb, lo + k * 2 + 1, none⟩ = some (.int .i64 y.2.1) := hcc wr HBW.out 1 (by decide)
   clear hcc
   have c0 := fun o => cell_alloc o (Blk.cell PP.out (i := 0) rfl)
   by_cases hz : cur = 0
   ·subst hz
    go_wp2_with (go_at_call 76; refine (shown_any W _ C 0 _ y (HBW.out.alloc HBW.out.size _) HC.out HT.out HRK.out (PP.out.below ((Below.refl _ _).alloc (Nat.le_refl _) _))).mono ?_; rintro r w3 hp; obtain ⟨rfl, hq⟩ := hp; have HQ3 := hid hq; clear hq)
    go_roundw
    case rel => exact ⟨k + 1, by omega, by go_num, hid (by rw [← HNK.out]; exact HQ3.out.1), hid ((TT.out.trans (Touch.of_below ((Below.refl _ _).alloc (Nat.le_refl _) _))).trans HQ3.out.2)⟩
    case measure => simp [RowKit.intOf]; omega
   ·have hz2 : (cur == 0) = false := by simpa using hz
    have HE := hid (HSK.out hz)
    clear hz
    go_wp2_with fail
    go_end0
    rw [HE.out]
    exact ⟨rfl, PP.out.below ((Below.refl _ _).alloc (Nat.le_refl _) _), TT.out.trans (Touch.of_below ((Below.refl _ _).alloc (Nat.le_refl _) _))⟩
  ·obtain rfl : k = n := by omega
   go_wp2_with fail
   go_end0
   rw [← HFL.out]
   exact ⟨rfl, PP.out, TT.out⟩
set_option maxRecDepth 100000 in
set_option maxHeartbeats 4000000 in
theorem eachElem_any (W w : World) (C : Nat) (b : Int) (v : Value) (ys : List D_api_Elem) (most : Int) (hb : Below W.heap.size W w) (hC : W.heap.size ≤ C) (hl : R_s_api_Elem W [v] ys) (h : PC w C b) :
  Calls Tryz.prog 77 #[.pointer (some ⟨C, 0, none⟩), v, .int .i64 most, .func (.func 78) #[.pointer (some ⟨C, 0, none⟩)] #[]] w (CPost C (orE b (eachE fElem ys most)) w) := by
 have HN := hid (fun wx h => need_any wx C b 2 (decide ((ys.length : Int) ≤ most)) h)
 have H := hid h
 have HL := hid hl
 have HB := hid hb
 have HC := hid hC
 obtain ⟨ao, cap, rfl, hcap, hcm, _⟩ := sl_shape hl
 unfold eachE
 rw [← orE_assoc]
 obtain ⟨bs, hbs⟩ : ∃ bs, decide ((ys.length : Int) ≤ most) = bs := ⟨_, rfl⟩
 rw [hbs] at HN
 rw [hbs]
 obtain ⟨b1, hb1⟩ : ∃ b1, orE b (ndE bs 2) = b1 := ⟨_, rfl⟩
 rw [hb1] at HN
 rw [hb1]
 have HNX := hid (fun k (hk : k < ys.length) => foldE_next fElem ys k hk b1)
 have HSP := hid (fun k (hk : orE b1 (foldE fElem (ys.take k)) ≠ 0) => foldE_stop fElem ys k b1 hk)
 have HFL := hid (foldE_full fElem ys b1)
 obtain ⟨n, hn⟩ : ∃ n, ys.length = n := ⟨_, rfl⟩
 have HLN := hid hn
 rw [hn] at hcap HL hbs HFL
 rw [hn]
 have hn9 : (n : Int) ≤ 9223372036854775807 := by omega
 clear h hl hb hb1 hn hC
 go_enter Tryz.func77, Tryz.ntmps77
 go_wp2_with (go_at_call 71; refine (HN.out _ H.out).mono ?_; rintro r w2 hp; obtain ⟨rfl, hq⟩ := hp; have HQ := hid hq; clear hq)
 go_loopw [9, 18] (fun _ i wr => ∃ k : Nat, k ≤ n ∧ i = .int .i64 k ∧ Hid (PC wr C (orE b1 (foldE fElem (ys.take k)))) ∧ Hid (Touch (fun k => k = C) w wr)) (fun _ i _ => n - (RowKit.intOf i).toNat)
 case atStart => exact ⟨0, Nat.zero_le _, rfl, hid (by rw [List.take_zero]; show PC w2 C (orE b1 0); rw [orE_none]; exact HQ.out.1), hid HQ.out.2⟩
 case round =>
  obtain ⟨k, hk, rfl, PP, TT⟩ := hrel
  by_cases hlt : k < n
  ·have hkl : k < ys.length := by rw [HLN.out]; exact hlt
   have HBW := hid (HB.out.trans (TT.out.below HB.out.size (fun _ hk => hk ▸ HC.out)))
   obtain ⟨lb, lo, cap', cs, hv, _, _, _, hR, hcc⟩ := sliceR_at HL.out (by decide) k hkl
   rw [HLN.out] at hv
   simp only [Value.slice.injEq] at hv
   obtain ⟨rfl, -, rfl⟩ := hv
   have HNK := hid (HNX.out k hkl)
   have HSK := hid (HSP.out k)
   generalize hcur : orE b1 (foldE fElem (ys.take k)) = cur at *
   generalize ys[k] = y at *
   clear hkl hcur
   have HRK := hid hR
   obtain ⟨_, _, rfl, ⟨rfl, _⟩, _, _, rfl, h1, rfl⟩ := hR
   obtain ⟨u1, rfl⟩ := sl_one h1
   obtain ⟨a1, k1, rfl, _, _, _⟩ := sl_shape h1
   clear h1
   have y0 : wr.cell? ⟨lb, lo + k * 2, none⟩ = some (.int .i64 y.1) := hcc wr HBW.out 0 (by decide)
   have y1 : wr.cell? ⟨lb, lo + k * 2 + 1, none⟩ = some (.slice a1 y.2.1.length k1) := hcc wr HBW.out 1 (by decide)
   clear hcc
   have c0 := fun o => cell_alloc o (Blk.cell PP.out (i := 0) rfl)
   by_cases hz : cur = 0
   ·subst hz
    go_wp2_with (go_at_call 78; refine (elem_any W _ C 0 _ y (HBW.out.alloc HBW.out.size _) HC.out HRK.out (PP.out.below ((Below.refl _ _).alloc (Nat.le_refl _) _))).mono ?_; rintro r w3 hp; obtain ⟨rfl, hq⟩ := hp; have HQ3 := hid hq; clear hq)
    go_roundw
    case rel => exact ⟨k + 1, by omega, by go_num, hid (by rw [← HNK.out]; exact HQ3.out.1), hid ((TT.out.trans (Touch.of_below ((Below.refl _ _).alloc (Nat.le_refl _) _))).trans HQ3.out.2)⟩
    case measure => simp [RowKit.intOf]; omega
   ·have hz2 : (cur == 0) = false := by simpa using hz
    have HE := hid (HSK.out hz)
    clear hz
    go_wp2_with fail
    go_end0
    rw [HE.out]
    exact ⟨rfl, PP.out.below ((Below.refl _ _).alloc (Nat.le_refl _) _), TT.out.trans (Touch.of_below ((Below.refl _ _).alloc (Nat.le_refl _) _))⟩
  ·obtain rfl : k = n := by omega
   go_wp2_with fail
   go_end0
   rw [← HFL.out]
   exact ⟨rfl, PP.out, TT.out⟩
set_option maxRecDepth 100000 in
set_option maxHeartbeats 4000000 in
theorem eachData_any (W w : World) (C : Nat) (b : Int) (v : Value) (ys : List D_api_Data) (most : Int) (hb : Below W.heap.size W w) (hC : W.heap.size ≤ C) (D : Nat) (hD : Blk w D 117 [.pointer (some ⟨C, 0, none⟩)]) (hDC : D ≠ C) (hl : R_s_api_Data W [v] ys) (h : PC w C b) :
  Calls Tryz.prog 79 #[.pointer (some ⟨C, 0, none⟩), v, .int .i64 most, .func (.func 80) #[] #[.pointer (some ⟨D, 0, none⟩)]] w (CPost C (orE b (eachE fData ys most)) w) := by
 have HN := hid (fun wx h => need_any wx C b 2 (decide ((ys.length : Int) ≤ most)) h)
 have H := hid h
 have HL := hid hl
 have HB := hid hb
 have HC := hid hC
 have HD := hid hD
 have HDC := hid hDC
 obtain ⟨ao, cap, rfl, hcap, hcm, _⟩ := sl_shape hl
 unfold eachE
 rw [← orE_assoc]
 obtain ⟨bs, hbs⟩ : ∃ bs, decide ((ys.length : Int) ≤ most) = bs := ⟨_, rfl⟩
 rw [hbs] at HN
 rw [hbs]
 obtain ⟨b1, hb1⟩ : ∃ b1, orE b (ndE bs 2) = b1 := ⟨_, rfl⟩
 rw [hb1] at HN
 rw [hb1]
 have HNX := hid (fun k (hk : k < ys.length) => foldE_next fData ys k hk b1)
 have HSP := hid (fun k (hk : orE b1 (foldE fData (ys.take k)) ≠ 0) => foldE_stop fData ys k b1 hk)
 have HFL := hid (foldE_full fData ys b1)
 obtain ⟨n, hn⟩ : ∃ n, ys.length = n := ⟨_, rfl⟩
 have HLN := hid hn
 rw [hn] at hcap HL hbs HFL
 rw [hn]
 have hn9 : (n : Int) ≤ 9223372036854775807 := by omega
 clear h hl hb hb1 hn hC hD hDC
 go_enter Tryz.func79, Tryz.ntmps79
 go_wp2_with (go_at_call 71; refine (HN.out _ H.out).mono ?_; rintro r w2 hp; obtain ⟨rfl, hq⟩ := hp; have HQ := hid hq; clear hq)
 go_loopw [9, 18] (fun _ i wr => ∃ k : Nat, k ≤ n ∧ i = .int .i64 k ∧ Hid (PC wr C (orE b1 (foldE fData (ys.take k)))) ∧ Hid (Touch (fun k => k = C) w wr)) (fun _ i _ => n - (RowKit.intOf i).toNat)
 case atStart => exact ⟨0, Nat.zero_le _, rfl, hid (by rw [List.take_zero]; show PC w2 C (orE b1 0); rw [orE_none]; exact HQ.out.1), hid HQ.out.2⟩
 case round =>
  obtain ⟨k, hk, rfl, PP, TT⟩ := hrel
  by_cases hlt : k < n
  ·have hkl : k < ys.length := by rw [HLN.out]; exact hlt
   have HBW := hid (HB.out.trans (TT.out.below HB.out.size (fun _ hk => hk ▸ HC.out)))
   obtain ⟨lb, lo, cap', cs, hv, _, _, _, hR, hcc⟩ := sliceR_at HL.out (by decide) k hkl
   rw [HLN.out] at hv
   simp only [Value.slice.injEq] at hv
   obtain ⟨rfl, -, rfl⟩ := hv
   have HNK := hid (HNX.out k hkl)
   have HSK := hid (HSP.out k)
   generalize hcur : orE b1 (foldE fData (ys.take k)) = cur at *
   generalize ys[k] = y at *
   clear hkl hcur
   have HRK := hid hR
   obtain ⟨_, _, rfl, ⟨rfl, _⟩, _, _, rfl, ⟨rfl, _⟩, rfl⟩ := hR
   have y0 : wr.cell? ⟨lb, lo + k * 2, none⟩ = some (.int .i64 y.1) := hcc wr HBW.out 0 (by decide)
   have y1 : wr.cell? ⟨lb, lo + k * 2 + 1, none⟩ = some (.string y.2.1) := hcc wr HBW.out 1 (by decide)
   clear hcc
   have c0 := fun o => cell_alloc o (Blk.cell PP.out (i := 0) rfl)
   by_cases hz : cur = 0
   ·subst hz
    have XD := hid (HD.out.touch TT.out HDC.out)
    go_wp2_with (go_at_call 80; refine (data_any W _ C 0 _ y (HBW.out.alloc HBW.out.size _) HC.out D (XD.out.below ((Below.refl _ _).alloc (Nat.le_refl _) _)) HDC.out HRK.out (PP.out.below ((Below.refl _ _).alloc (Nat.le_refl _) _))).mono ?_; rintro r w3 hp; obtain ⟨rfl, hq⟩ := hp; have HQ3 := hid hq; clear hq)
    go_roundw
    case rel => exact ⟨k + 1, by omega, by go_num, hid (by rw [← HNK.out]; exact HQ3.out.1), hid ((TT.out.trans (Touch.of_below ((Below.refl _ _).alloc (Nat.le_refl _) _))).trans HQ3.out.2)⟩
    case measure => simp [RowKit.intOf]; omega
   ·have hz2 : (cur == 0) = false := by simpa using hz
    have HE := hid (HSK.out hz)
    clear hz
    go_wp2_with fail
    go_end0
    rw [HE.out]
    exact ⟨rfl, PP.out.below ((Below.refl _ _).alloc (Nat.le_refl _) _), TT.out.trans (Touch.of_below ((Below.refl _ _).alloc (Nat.le_refl _) _))⟩
  ·obtain rfl : k = n := by omega
   go_wp2_with fail
   go_end0
   rw [← HFL.out]
   exact ⟨rfl, PP.out, TT.out⟩
end Go.Proofs.YthoalneknadheaaGreatDoor
