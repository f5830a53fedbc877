/-
  HOST: the walk of Read. Conditions: readings; the memory's size in the form's reach. Printed by a program of mine.
-/
import Derived.Test.YtpapblahnbeccaaHrs
namespace Go.Proofs.Ytpapblahnbeccaa
open Go.RowKit Go.Lib

def fitL (ks vs : List Int) : List Int := List.zipWith fitM ks vs
def arrC (l : List Int) : List Value := [.int .i64 (l.getD 0 0), .int .i64 (l.getD 1 0), .int .i64 (l.getD 2 0), .int .i64 (l.getD 3 0)]
theorem arrC_set (l : List Int) (i : Nat) (hi : i < l.length) (h4 : l.length ≤ 4) : (arrC (l.take i)).set i (.int .i64 l[i]) = arrC (l.take (i + 1)) := by
  match l, h4 with
  | [a], _ => match i, hi with
    | 0, _ => rfl
  | [a, b], _ => match i, hi with
    | 0, _ => rfl
    | 1, _ => rfl
  | [a, b, c], _ => match i, hi with
    | 0, _ => rfl
    | 1, _ => rfl
    | 2, _ => rfl
  | [a, b, c, d], _ => match i, hi with
    | 0, _ => rfl
    | 1, _ => rfl
    | 2, _ => rfl
    | 3, _ => rfl
theorem arrC_zero (l : List Int) (i : Nat) (h : i < 4) : (arrC l)[i]? = some (.int .i64 (l.getD i 0)) := by
  match i, h with
  | 0, _ => rfl
  | 1, _ => rfl
  | 2, _ => rfl
  | 3, _ => rfl
theorem fitL_get (ks vs : List Int) (i : Nat) (h1 : i < ks.length) (h2 : i < vs.length) (h : i < (fitL ks vs).length) : (fitL ks vs)[i] = fitM ks[i] vs[i] := by simp [fitL]
theorem fitL_len (ks vs : List Int) (h : ks.length = vs.length) : (fitL ks vs).length = ks.length := by simp [fitL, h]
theorem fitM_bd {k a : Int} (h : -9223372036854775808 ≤ a ∧ a ≤ 9223372036854775807) : -9223372036854775808 ≤ fitM k a ∧ fitM k a ≤ 9223372036854775807 := by
  unfold fitM
  split
  · have := w32_bd a; omega
  · exact h
theorem fitL_bd (ks vs : List Int) (h : ∀ v ∈ vs, -9223372036854775808 ≤ v ∧ v ≤ 9223372036854775807) (i : Nat) : -9223372036854775808 ≤ (fitL ks vs).getD i 0 ∧ (fitL ks vs).getD i 0 ≤ 9223372036854775807 := by
  by_cases hi : i < (fitL ks vs).length
  · rw [List.getD_eq_getElem?_getD, List.getElem?_eq_getElem hi, Option.getD_some]
    have hi2 := hi
    unfold fitL at hi2
    rw [List.length_zipWith] at hi2
    rw [fitL_get ks vs i (by omega) (by omega)]
    exact fitM_bd (h _ (List.getElem_mem _))
  · rw [List.getD_eq_getElem?_getD, List.getElem?_eq_none (by omega), Option.getD_none]
    omega
theorem below_setc {H b i : Nat} {w w1 : World} (h : Below H w w1) (hb : H ≤ b) (v : Value) : Below H w (w1.setCell ⟨b, i, none⟩ v) := h.setCell hb v
theorem inK_len (k : Int) : (inK k).length ≤ 4 := by
  unfold inK
  repeat' split
  all_goals simp
theorem sendV_form (l0 l1 l2 l3 : Int) (mem : ByteArray) : ∃ r0 r1 r2 r3 r4 r5 r6 er, sendV l0 l1 l2 l3 mem = wshR (wsh r0 r1 r2 r3 r4 r5 r6) er := by
  unfold sendV zeroW
  repeat' split
  all_goals exact ⟨_, _, _, _, _, _, _, _, rfl⟩
theorem takeV_form (l0 l1 l2 : Int) (mem : ByteArray) : ∃ r0 r1 r2 r3 r4 r5 r6 er, takeV l0 l1 l2 mem = wshR (wsh r0 r1 r2 r3 r4 r5 r6) er := by
  unfold takeV zeroW
  repeat' split
  all_goals exact ⟨_, _, _, _, _, _, _, _, rfl⟩
def bodyV (k : Int) (l : List Int) (mem : ByteArray) : Value :=
  if k = 2 then sendV (l.getD 0 0) (l.getD 1 0) (l.getD 2 0) (l.getD 3 0) mem
  else if k = 3 then takeV (l.getD 0 0) (l.getD 1 0) (l.getD 2 0) mem
  else if k = 5 ∨ k = 6 ∨ k = 7 then (if pidB (l.getD 0 0) = true then wshR (wsh k (l.getD 0 0 % 4294967296 / 256) (l.getD 0 0 % 256) 0 0 0 ⟨#[]⟩) 0 else wshR zeroW 1)
  else if k = 4 then wshR (wsh 4 0 0 (l.getD 0 0 % 4294967296) 0 0 ⟨#[]⟩) 0
  else if k = 8 then wshR (wsh 8 0 0 (l.getD 0 0 % 256) 0 0 ⟨#[]⟩) 0
  else if k = 9 then wshR (wsh 9 0 0 (if l.getD 0 0 % 4294967296 = 0 then 0 else 1) 0 0 ⟨#[]⟩) 0
  else if k = 10 then wshR (wsh 10 0 0 (l.getD 0 0) 0 0 ⟨#[]⟩) 0
  else wshR (wsh k 0 0 0 0 0 ⟨#[]⟩) 0
def hrdV (k : Int) (vs : List Int) (mem : ByteArray) : Value := if k = 0 then wshR zeroW 12 else if vs.length ≠ (inK k).length then wshR zeroW 1 else bodyV k (fitL (inK k) vs) mem

set_option maxRecDepth 100000 in
set_option maxHeartbeats 8000000 in
theorem hread_any (s mem : ByteArray) (vv : Value) (vs : List Int) (w : World) (hv : Ints w .i64 vv vs) (hb : ∀ v ∈ vs, -9223372036854775808 ≤ v ∧ v ≤ 9223372036854775807) (hm : mem.size ≤ 140737488351232) :
    Calls Try.prog 75 #[.string s, vv, .string mem] w fun e w' => e = .returned (hrdV (kindN s.toList) vs mem) ∧ Below w.heap.size w w' := by
  have HS := hid (fun w' => sig_any s w')
  have HK := hid (fun w' => kindOf_any s w')
  have hkin := kindN_in s.toList
  unfold SigP at HS
  generalize kindN s.toList = k at *
  obtain ⟨aov, capv, rfl, -⟩ := id hv
  have HVS := hid hv
  have X0 := hid (Blk.new w #[.int .i64 0, .int .i64 0, .int .i64 0, .int .i64 0, .int .i64 0, .int .i64 0, .string ⟨#[]⟩] 142 _ rfl)
  have hik := inK_len k
  clear hv
  by_cases h0 : k = 0
  · subst h0
    have HV := hid (show hrdV 0 vs mem = wshR zeroW 12 from if_pos rfl)
    go_enter Try.func75, Try.ntmps75
    go_wp2_with fail
    refine (HS.out _).mono ?_
    rintro e w1 ⟨vi, vo, rfl, hi, ho, hb1⟩
    obtain ⟨aoi, capi, rfl, -⟩ := id hi
    obtain ⟨aoo, capo, rfl, -⟩ := id ho
    have X1 := X0.out.below hb1
    have B1 := hid (((Below.refl w.heap.size w).alloc (Nat.le_refl _) _).trans (hb1.mono (by simp)))
    have X2 := hid (X1.alloc (.cells #[.slice aoi (inK 0).length capi, .slice aoo (outK 0).length capo] 103))
    have B2 := hid (B1.out.alloc B1.out.size (.cells #[.slice aoi (inK 0).length capi, .slice aoo (outK 0).length capo] 103))
    clear hi ho hb1 X1
    have y0 := X2.out.cell (i := 0) rfl
    have y1 := X2.out.cell (i := 1) rfl
    have y2 := X2.out.cell (i := 2) rfl
    have y3 := X2.out.cell (i := 3) rfl
    have y4 := X2.out.cell (i := 4) rfl
    have y5 := X2.out.cell (i := 5) rfl
    have y6 := X2.out.cell (i := 6) rfl
    have yf := fun i => X2.out.free i
    go_wp2_with fail
    have z := res7 X2.out rfl (.int .i64 0) (.int .i64 0) (.int .i64 0) (.int .i64 0) (.int .i64 0) (.int .i64 0) (.string ⟨#[]⟩)
    have z0 := z.cell (i := 0) rfl
    have z1 := z.cell (i := 1) rfl
    have z2 := z.cell (i := 2) rfl
    have z3 := z.cell (i := 3) rfl
    have z4 := z.cell (i := 4) rfl
    have z5 := z.cell (i := 5) rfl
    have z6 := z.cell (i := 6) rfl
    refine bodyPost_ret (v := wshR zeroW 12) (by simp [results, Try.results75, go_sem, wshR, zeroW, wsh, z0, z1, z2, z3, z4, z5, z6]) rfl ?_
    exact ⟨by rw [HV.out], below7 B2.out (by omega) _ _ _ _ _ _ _⟩
  have hk1 : (k != 0) = true := by simpa using h0
  by_cases hlen : vs.length ≠ (inK k).length
  · have HV := hid (show hrdV k vs mem = wshR zeroW 1 from (if_neg h0).trans (if_pos hlen))
    have hl2 : ((vs.length : Int) != ((inK k).length : Int)) = true := by rw [bne_iff_ne]; omega
    go_enter Try.func75, Try.ntmps75
    go_wp2_with fail
    refine (HS.out _).mono ?_
    rintro e w1 ⟨vi, vo, rfl, hi, ho, hb1⟩
    obtain ⟨aoi, capi, rfl, -⟩ := id hi
    obtain ⟨aoo, capo, rfl, -⟩ := id ho
    have X1 := X0.out.below hb1
    have B1 := hid (((Below.refl w.heap.size w).alloc (Nat.le_refl _) _).trans (hb1.mono (by simp)))
    have X2 := hid (X1.alloc (.cells #[.slice aoi (inK k).length capi, .slice aoo (outK k).length capo] 103))
    have B2 := hid (B1.out.alloc B1.out.size (.cells #[.slice aoi (inK k).length capi, .slice aoo (outK k).length capo] 103))
    clear hi ho hb1 X1
    have y0 := X2.out.cell (i := 0) rfl
    have y1 := X2.out.cell (i := 1) rfl
    have y2 := X2.out.cell (i := 2) rfl
    have y3 := X2.out.cell (i := 3) rfl
    have y4 := X2.out.cell (i := 4) rfl
    have y5 := X2.out.cell (i := 5) rfl
    have y6 := X2.out.cell (i := 6) rfl
    have yf := fun i => X2.out.free i
    go_wp2_with fail
    have z := res7 X2.out rfl (.int .i64 0) (.int .i64 0) (.int .i64 0) (.int .i64 0) (.int .i64 0) (.int .i64 0) (.string ⟨#[]⟩)
    have z0 := z.cell (i := 0) rfl
    have z1 := z.cell (i := 1) rfl
    have z2 := z.cell (i := 2) rfl
    have z3 := z.cell (i := 3) rfl
    have z4 := z.cell (i := 4) rfl
    have z5 := z.cell (i := 5) rfl
    have z6 := z.cell (i := 6) rfl
    refine bodyPost_ret (v := wshR zeroW 1) (by simp [results, Try.results75, go_sem, wshR, zeroW, wsh, z0, z1, z2, z3, z4, z5, z6]) rfl ?_
    exact ⟨by rw [HV.out], below7 B2.out (by omega) _ _ _ _ _ _ _⟩
  have hlen : vs.length = (inK k).length := Classical.byContradiction hlen
  have HV : Hid (hrdV k vs mem = bodyV k (fitL (inK k) vs) mem) := hid ((if_neg h0).trans (if_neg (fun h => h hlen)))
  have HBD := hid (fitL_bd (inK k) vs hb)
  have HLF := hid (fitL_len (inK k) vs hlen.symm)
  have HLE := hid hlen
  have hl2 : ((vs.length : Int) != ((inK k).length : Int)) = false := by rw [bne_eq_false_iff_eq]; omega
  have HFG := hid (fitL_get (inK k) vs)
  clear hlen hb
  go_enter Try.func75, Try.ntmps75
  go_wp2_with fail
  refine (HS.out _).mono ?_
  rintro e w1 ⟨vi, vo, rfl, hi, ho, hb1⟩
  have hi1 := L1.open hi
  obtain ⟨aoi, capi, rfl, -⟩ := id hi
  obtain ⟨aoo, capo, rfl, -⟩ := id ho
  have al2 : Below w1.heap.size w1 ((w1.alloc (.cells #[.slice aoi (inK k).length capi, .slice aoo (outK k).length capo] 103)).alloc (.cells #[.int .i64 0, .int .i64 0, .int .i64 0, .int .i64 0] 234)) := ((Below.refl _ _).alloc (Nat.le_refl _) _).alloc (by simp) _
  have hb0 : Below w.heap.size w w1 := ((Below.refl w.heap.size w).alloc (Nat.le_refl _) _).trans (hb1.mono (by simp))
  have XR := hid ((X0.out.below hb1).below al2)
  have XA := hid (Blk.new (w1.alloc (.cells #[.slice aoi (inK k).length capi, .slice aoo (outK k).length capo] 103)) #[.int .i64 0, .int .i64 0, .int .i64 0, .int .i64 0] 234 (w1.heap.size + 1) (by simp))
  have B1 := hid hb0
  have A2 := hid al2
  have IN := hid hi
  have hlt1 : w.heap.size < w1.heap.size := by have := (X0.out.below hb1).lt; omega
  clear hi ho hb1 hi1 hb0 al2
  go_wp2_with fail
  go_loopw [35] (fun i wr => ∃ j : Nat, j ≤ (inK k).length ∧ i = .int .i64 j ∧ Hid (Blk wr (w1.heap.size + 1) 234 (arrC ((fitL (inK k) vs).take j))) ∧ Hid (Blk wr w.heap.size 142 [.int .i64 0, .int .i64 0, .int .i64 0, .int .i64 0, .int .i64 0, .int .i64 0, .string ⟨#[]⟩]) ∧ Hid (Below w1.heap.size w1 wr)) (fun i _ => (inK k).length - (RowKit.intOf i).toNat)
  case atStart => exact ⟨0, Nat.zero_le _, rfl, XA, XR, A2⟩
  case round =>
    obtain ⟨j, hj, rfl, YA, YR, YB⟩ := hrel
    clear XA XR A2
    by_cases hlt : j < (inK k).length
    · have hj2 : j < vs.length := by have := HLE.out; omega
      have hj4 : j < 4 := by omega
      rcases L1.open (L1.below IN.out YB.out) with ⟨_, _, _, hx, _⟩ | ⟨bi, oi, ci, hvi, _, _, _, hci⟩
      · rw [hx] at hlt; simp at hlt
      rcases L1.open (L1.below HVS.out (B1.out.trans (YB.out.mono B1.out.size))) with ⟨_, _, _, hx, _⟩ | ⟨bv, ov, cv, hvv, _, _, _, hcv⟩
      · rw [hx] at hj2; simp at hj2
      simp only [Value.slice.injEq, true_and] at hvi hvv
      obtain ⟨rfl, rfl⟩ := hvi
      obtain ⟨rfl, rfl⟩ := hvv
      have d1 := hci j hlt
      have d2 := hcv j hj2
      have a1 : wr.cell? ⟨w1.heap.size + 1, j, none⟩ = some (.int .i64 (((fitL (inK k) vs).take j).getD j 0)) := YA.out.cell (arrC_zero _ j hj4)
      have a2 := YA.out.free j
      have FT := hid (fit_any (inK k)[j] vs[j] wr)
      have hjf : j < (fitL (inK k) vs).length := by have := HLF.out; omega
      have hst := arrC_set (fitL (inK k) vs) j hjf (by have := HLF.out; omega)
      rw [HFG.out j hlt hj2 hjf] at hst
      have HST := hid hst
      have YA2 := hid (YA.out.set j (.int .i64 (fitM (inK k)[j] vs[j])))
      rw [HST.out] at YA2
      have YR2 := hid (YR.out.other (a := ⟨w1.heap.size + 1, j, none⟩) (by simp; omega) (.int .i64 (fitM (inK k)[j] vs[j])))
      have YB2 := hid (below_setc (b := w1.heap.size + 1) (i := j) YB.out (Nat.le_succ _) (.int .i64 (fitM (inK k)[j] vs[j])))
      have g1 : (j : Int) < ((inK k).length : Int) := by omega
      have g2 : (j : Int) < (vs.length : Int) := by omega
      clear hst hci hcv YA YR YB hjf
      generalize (inK k)[j] = kk at *
      generalize vs[j] = vj at *
      go_wp2_with fail
      refine FT.out.mono ?_
      rintro e w3 ⟨rfl, rfl⟩
      go_wp2_with fail
      go_roundw
      case rel => exact ⟨j + 1, by omega, by go_num, YA2, YR2, YB2⟩
      case measure => simp [RowKit.intOf]; omega
    · obtain rfl : j = (inK k).length := by omega
      rw [List.take_of_length_le (by rw [HLF.out]; omega)] at YA
      have HBD0 := HBD.out 0
      have HBD2 := HBD.out 2
      have HH := hid (show w.heap.size < wr.heap.size from by have := YB.out.size; omega)
      have BW := hid (B1.out.trans (YB.out.mono B1.out.size))
      clear HFG HLF HLE HBD hik hl2 HS IN HVS YB B1 hj hlt hlen hlt1
      generalize fitL (inK k) vs = l at *
      generalize (inK k).length = lk at *
      go_wp2_with fail
      refine (HK.out _).mono ?_
      rintro e w3 ⟨rfl, rfl⟩
      clear HK
      obtain ⟨l0, e0⟩ : ∃ x, x = l.getD 0 0 := ⟨_, rfl⟩
      obtain ⟨l1, e1⟩ : ∃ x, x = l.getD 1 0 := ⟨_, rfl⟩
      obtain ⟨l2, e2⟩ : ∃ x, x = l.getD 2 0 := ⟨_, rfl⟩
      obtain ⟨l3, e3⟩ : ∃ x, x = l.getD 3 0 := ⟨_, rfl⟩
      unfold arrC at YA
      unfold bodyV at HV
      rw [← e0, ← e1, ← e2, ← e3] at HV YA
      rw [← e0] at HBD0
      rw [← e2] at HBD2
      clear e0 e1 e2 e3
      have XW := hid (Blk.new wr #[.int .i64 k, .int .i64 0, .int .i64 0, .int .i64 0, .int .i64 0, .int .i64 0, .string ⟨#[]⟩] 142 _ rfl)
      have YA := hid (YA.out.alloc (.cells #[.int .i64 k, .int .i64 0, .int .i64 0, .int .i64 0, .int .i64 0, .int .i64 0, .string ⟨#[]⟩] 142))
      have YRA := hid (fun o => YR.out.alloc o)
      have BWA := hid (fun o => BW.out.alloc BW.out.size o)
      rcases hkin with rfl | rfl | rfl | rfl | rfl | rfl | rfl | rfl | rfl | rfl | rfl | rfl
      · exact absurd rfl h0
      · have HW : Hid (hrdV 1 vs mem = wshR (wsh 1 0 0 (0) 0 0 ⟨#[]⟩) 0) := hid HV.out
        clear HV
        have YR := hid (YRA.out (.cells #[.int .i64 (1), .int .i64 (0), .int .i64 (0), .int .i64 (0), .int .i64 (0), .int .i64 (0), .string ⟨#[]⟩] 142))
        have BW := hid (BWA.out (.cells #[.int .i64 (1), .int .i64 (0), .int .i64 (0), .int .i64 (0), .int .i64 (0), .int .i64 (0), .string ⟨#[]⟩] 142))
        have y0 := YR.out.cell (i := 0) rfl
        have y1 := YR.out.cell (i := 1) rfl
        have y2 := YR.out.cell (i := 2) rfl
        have y3 := YR.out.cell (i := 3) rfl
        have y4 := YR.out.cell (i := 4) rfl
        have y5 := YR.out.cell (i := 5) rfl
        have y6 := YR.out.cell (i := 6) rfl
        have yf := fun i => YR.out.free i
        have a0 := YA.out.cell (i := 0) rfl
        go_wp2_with fail
        have z := res7 YR.out rfl (.int .i64 (1)) (.int .i64 (0)) (.int .i64 (0)) (.int .i64 (0)) (.int .i64 (0)) (.int .i64 (0)) (.string ⟨#[]⟩)
        have z0 := z.cell (i := 0) rfl
        have z1 := z.cell (i := 1) rfl
        have z2 := z.cell (i := 2) rfl
        have z3 := z.cell (i := 3) rfl
        have z4 := z.cell (i := 4) rfl
        have z5 := z.cell (i := 5) rfl
        have z6 := z.cell (i := 6) rfl
        refine bodyPost_ret (v := wshR (wsh 1 0 0 (0) 0 0 ⟨#[]⟩) 0) (by simp [results, Try.results75, go_sem, wshR, wsh, z0, z1, z2, z3, z4, z5, z6]) rfl ?_
        exact ⟨by rw [HW.out], below7 BW.out (by omega) _ _ _ _ _ _ _⟩
      · have HW : Hid (hrdV 2 vs mem = sendV l0 l1 l2 l3 mem) := hid HV.out
        have YR := hid (YRA.out (.cells #[.int .i64 2, .int .i64 0, .int .i64 0, .int .i64 0, .int .i64 0, .int .i64 0, .string ⟨#[]⟩] 142))
        have BW := hid (BWA.out (.cells #[.int .i64 2, .int .i64 0, .int .i64 0, .int .i64 0, .int .i64 0, .int .i64 0, .string ⟨#[]⟩] 142))
        have a0 := YA.out.cell (i := 0) rfl
        have a1 := YA.out.cell (i := 1) rfl
        have a2 := YA.out.cell (i := 2) rfl
        have a3 := YA.out.cell (i := 3) rfl
        have HC := hid (fun w' => send_any l0 l1 l2 l3 mem w' hm)
        obtain ⟨r0, r1, r2, r3, r4, r5, r6, er, hsv⟩ := sendV_form l0 l1 l2 l3 mem
        rw [hsv] at HC HW
        unfold wshR wsh at HC
        clear hsv HV
        go_wp2_with fail
        refine (HC.out _).mono ?_
        rintro e w4 ⟨rfl, hb4⟩
        have Y4 := hid (YR.out.below hb4)
        have B4 := hid (BW.out.trans (hb4.mono BW.out.size))
        clear hb4
        have y0 := Y4.out.cell (i := 0) rfl
        have y1 := Y4.out.cell (i := 1) rfl
        have y2 := Y4.out.cell (i := 2) rfl
        have y3 := Y4.out.cell (i := 3) rfl
        have y4 := Y4.out.cell (i := 4) rfl
        have y5 := Y4.out.cell (i := 5) rfl
        have y6 := Y4.out.cell (i := 6) rfl
        have yf := fun i => Y4.out.free i
        go_wp2_with fail
        have z := res7 Y4.out rfl (.int .i64 r0) (.int .i64 r1) (.int .i64 r2) (.int .i64 r3) (.int .i64 r4) (.int .i64 r5) (.string r6)
        have z0 := z.cell (i := 0) rfl
        have z1 := z.cell (i := 1) rfl
        have z2 := z.cell (i := 2) rfl
        have z3 := z.cell (i := 3) rfl
        have z4 := z.cell (i := 4) rfl
        have z5 := z.cell (i := 5) rfl
        have z6 := z.cell (i := 6) rfl
        refine bodyPost_ret (v := wshR (wsh r0 r1 r2 r3 r4 r5 r6) er) (by simp [results, Try.results75, go_sem, wshR, wsh, z0, z1, z2, z3, z4, z5, z6]) rfl ?_
        exact ⟨by rw [HW.out], below7 B4.out (by omega) _ _ _ _ _ _ _⟩
      · have HW : Hid (hrdV 3 vs mem = takeV l0 l1 l2 mem) := hid HV.out
        have YR := hid (YRA.out (.cells #[.int .i64 3, .int .i64 0, .int .i64 0, .int .i64 0, .int .i64 0, .int .i64 0, .string ⟨#[]⟩] 142))
        have BW := hid (BWA.out (.cells #[.int .i64 3, .int .i64 0, .int .i64 0, .int .i64 0, .int .i64 0, .int .i64 0, .string ⟨#[]⟩] 142))
        have a0 := YA.out.cell (i := 0) rfl
        have a1 := YA.out.cell (i := 1) rfl
        have a2 := YA.out.cell (i := 2) rfl
        have a3 := YA.out.cell (i := 3) rfl
        have HC := hid (fun w' => take_any l0 l1 l2 l3 mem w' hm HBD2)
        obtain ⟨r0, r1, r2, r3, r4, r5, r6, er, hsv⟩ := takeV_form l0 l1 l2 mem
        rw [hsv] at HC HW
        unfold wshR wsh at HC
        clear hsv HV
        go_wp2_with fail
        refine (HC.out _).mono ?_
        rintro e w4 ⟨rfl, hb4⟩
        have Y4 := hid (YR.out.below hb4)
        have B4 := hid (BW.out.trans (hb4.mono BW.out.size))
        clear hb4
        have y0 := Y4.out.cell (i := 0) rfl
        have y1 := Y4.out.cell (i := 1) rfl
        have y2 := Y4.out.cell (i := 2) rfl
        have y3 := Y4.out.cell (i := 3) rfl
        have y4 := Y4.out.cell (i := 4) rfl
        have y5 := Y4.out.cell (i := 5) rfl
        have y6 := Y4.out.cell (i := 6) rfl
        have yf := fun i => Y4.out.free i
        go_wp2_with fail
        have z := res7 Y4.out rfl (.int .i64 r0) (.int .i64 r1) (.int .i64 r2) (.int .i64 r3) (.int .i64 r4) (.int .i64 r5) (.string r6)
        have z0 := z.cell (i := 0) rfl
        have z1 := z.cell (i := 1) rfl
        have z2 := z.cell (i := 2) rfl
        have z3 := z.cell (i := 3) rfl
        have z4 := z.cell (i := 4) rfl
        have z5 := z.cell (i := 5) rfl
        have z6 := z.cell (i := 6) rfl
        refine bodyPost_ret (v := wshR (wsh r0 r1 r2 r3 r4 r5 r6) er) (by simp [results, Try.results75, go_sem, wshR, wsh, z0, z1, z2, z3, z4, z5, z6]) rfl ?_
        exact ⟨by rw [HW.out], below7 B4.out (by omega) _ _ _ _ _ _ _⟩
      · have HW : Hid (hrdV 4 vs mem = wshR (wsh 4 0 0 (l0 % 4294967296) 0 0 ⟨#[]⟩) 0) := hid HV.out
        clear HV
        have YR := hid (YRA.out (.cells #[.int .i64 (4), .int .i64 (0), .int .i64 (0), .int .i64 (l0 % 4294967296), .int .i64 (0), .int .i64 (0), .string ⟨#[]⟩] 142))
        have BW := hid (BWA.out (.cells #[.int .i64 (4), .int .i64 (0), .int .i64 (0), .int .i64 (l0 % 4294967296), .int .i64 (0), .int .i64 (0), .string ⟨#[]⟩] 142))
        have y0 := YR.out.cell (i := 0) rfl
        have y1 := YR.out.cell (i := 1) rfl
        have y2 := YR.out.cell (i := 2) rfl
        have y3 := YR.out.cell (i := 3) rfl
        have y4 := YR.out.cell (i := 4) rfl
        have y5 := YR.out.cell (i := 5) rfl
        have y6 := YR.out.cell (i := 6) rfl
        have yf := fun i => YR.out.free i
        have a0 := YA.out.cell (i := 0) rfl
        go_wp2_with fail
        have z := res7 YR.out rfl (.int .i64 (4)) (.int .i64 (0)) (.int .i64 (0)) (.int .i64 (l0 % 4294967296)) (.int .i64 (0)) (.int .i64 (0)) (.string ⟨#[]⟩)
        have z0 := z.cell (i := 0) rfl
        have z1 := z.cell (i := 1) rfl
        have z2 := z.cell (i := 2) rfl
        have z3 := z.cell (i := 3) rfl
        have z4 := z.cell (i := 4) rfl
        have z5 := z.cell (i := 5) rfl
        have z6 := z.cell (i := 6) rfl
        refine bodyPost_ret (v := wshR (wsh 4 0 0 (l0 % 4294967296) 0 0 ⟨#[]⟩) 0) (by simp [results, Try.results75, go_sem, wshR, wsh, z0, z1, z2, z3, z4, z5, z6]) rfl ?_
        exact ⟨by rw [HW.out], below7 BW.out (by omega) _ _ _ _ _ _ _⟩
      · have HW : Hid (hrdV 5 vs mem = if pidB l0 = true then wshR (wsh 5 (l0 % 4294967296 / 256) (l0 % 256) 0 0 0 ⟨#[]⟩) 0 else wshR zeroW 1) := hid HV.out
        clear HV
        have HP := hid (fun w' => pid_any l0 w')
        have a0 := YA.out.cell (i := 0) rfl
        rcases pidB_cases l0 with ⟨hpb, hv⟩ | ⟨hpb, hv⟩
        · rw [hv] at HP
          rw [hpb, if_neg (by decide)] at HW
          clear hv hpb
          have YR := hid (YRA.out (.cells #[.int .i64 5, .int .i64 0, .int .i64 0, .int .i64 0, .int .i64 0, .int .i64 0, .string ⟨#[]⟩] 142))
          have BW := hid (BWA.out (.cells #[.int .i64 5, .int .i64 0, .int .i64 0, .int .i64 0, .int .i64 0, .int .i64 0, .string ⟨#[]⟩] 142))
          have XW := hid (Blk.new wr #[.int .i64 5, .int .i64 0, .int .i64 0, .int .i64 0, .int .i64 0, .int .i64 0, .string ⟨#[]⟩] 142 _ rfl)
          go_wp2_with fail
          refine (HP.out _).mono ?_
          rintro e w4 ⟨rfl, hb4⟩
          have Y4 := hid ((YR.out.below hb4).alloc (.cells #[.int .i64 0, .int .i64 0] 98))
          have X4 := hid ((XW.out.below hb4).alloc (.cells #[.int .i64 0, .int .i64 0] 98))
          have P4 := hid (Blk.new w4 #[.int .i64 0, .int .i64 0] 98 _ rfl)
          have B4 := hid ((BW.out.trans (hb4.mono BW.out.size)).alloc (Nat.le_trans BW.out.size hb4.size) (.cells #[.int .i64 0, .int .i64 0] 98))
          clear hb4
          have y0 := Y4.out.cell (i := 0) rfl
          have y1 := Y4.out.cell (i := 1) rfl
          have y2 := Y4.out.cell (i := 2) rfl
          have y3 := Y4.out.cell (i := 3) rfl
          have y4 := Y4.out.cell (i := 4) rfl
          have y5 := Y4.out.cell (i := 5) rfl
          have y6 := Y4.out.cell (i := 6) rfl
          have yf := fun i => Y4.out.free i
          go_wp2_with fail
          have z := res7 Y4.out rfl (.int .i64 0) (.int .i64 0) (.int .i64 0) (.int .i64 0) (.int .i64 0) (.int .i64 0) (.string ⟨#[]⟩)
          have z0 := z.cell (i := 0) rfl
          have z1 := z.cell (i := 1) rfl
          have z2 := z.cell (i := 2) rfl
          have z3 := z.cell (i := 3) rfl
          have z4 := z.cell (i := 4) rfl
          have z5 := z.cell (i := 5) rfl
          have z6 := z.cell (i := 6) rfl
          refine bodyPost_ret (v := wshR zeroW 1) (by simp [results, Try.results75, go_sem, wshR, zeroW, wsh, z0, z1, z2, z3, z4, z5, z6]) rfl ?_
          exact ⟨by rw [HW.out], below7 B4.out (by omega) _ _ _ _ _ _ _⟩
        · rw [hv] at HP
          rw [hpb, if_pos rfl] at HW
          clear hv hpb
          have YR := hid (YRA.out (.cells #[.int .i64 5, .int .i64 0, .int .i64 0, .int .i64 0, .int .i64 0, .int .i64 0, .string ⟨#[]⟩] 142))
          have BW := hid (BWA.out (.cells #[.int .i64 5, .int .i64 0, .int .i64 0, .int .i64 0, .int .i64 0, .int .i64 0, .string ⟨#[]⟩] 142))
          have XW := hid (Blk.new wr #[.int .i64 5, .int .i64 0, .int .i64 0, .int .i64 0, .int .i64 0, .int .i64 0, .string ⟨#[]⟩] 142 _ rfl)
          go_wp2_with fail
          refine (HP.out _).mono ?_
          rintro e w4 ⟨rfl, hb4⟩
          have Y4 := hid ((YR.out.below hb4).alloc (.cells #[.int .i64 (l0 % 4294967296 / 256), .int .i64 (l0 % 256)] 98))
          have X4 := hid ((XW.out.below hb4).alloc (.cells #[.int .i64 (l0 % 4294967296 / 256), .int .i64 (l0 % 256)] 98))
          have P4 := hid (Blk.new w4 #[.int .i64 (l0 % 4294967296 / 256), .int .i64 (l0 % 256)] 98 _ rfl)
          have B4 := hid ((BW.out.trans (hb4.mono BW.out.size)).alloc (Nat.le_trans BW.out.size hb4.size) (.cells #[.int .i64 (l0 % 4294967296 / 256), .int .i64 (l0 % 256)] 98))
          clear hb4
          have y0 := Y4.out.cell (i := 0) rfl
          have y1 := Y4.out.cell (i := 1) rfl
          have y2 := Y4.out.cell (i := 2) rfl
          have y3 := Y4.out.cell (i := 3) rfl
          have y4 := Y4.out.cell (i := 4) rfl
          have y5 := Y4.out.cell (i := 5) rfl
          have y6 := Y4.out.cell (i := 6) rfl
          have yf := fun i => Y4.out.free i
          have v0 := X4.out.cell (i := 0) rfl
          have v1 := X4.out.cell (i := 1) rfl
          have v2 := X4.out.cell (i := 2) rfl
          have v3 := X4.out.cell (i := 3) rfl
          have v4 := X4.out.cell (i := 4) rfl
          have v5 := X4.out.cell (i := 5) rfl
          have v6 := X4.out.cell (i := 6) rfl
          have vf := fun i => X4.out.free i
          have p0 := P4.out.cell (i := 0) rfl
          have p1 := P4.out.cell (i := 1) rfl
          have hn1 : ¬ (wr.heap.size = w.heap.size) := by have := HH.out; omega
          have hn2 : ¬ (w.heap.size = wr.heap.size) := by have := HH.out; omega
          go_wp2_with fail
          have Y5 := hid ((Y4.out.other (a := ⟨wr.heap.size, 1, none⟩) (by have := HH.out; simp; omega) (.int .i64 (l0 % 4294967296 / 256))).other (a := ⟨wr.heap.size, 2, none⟩) (by have := HH.out; simp; omega) (.int .i64 (l0 % 256)))
          have B5 := hid (below_setc (b := wr.heap.size) (i := 2) (below_setc (b := wr.heap.size) (i := 1) B4.out (Nat.le_of_lt HH.out) (.int .i64 (l0 % 4294967296 / 256))) (Nat.le_of_lt HH.out) (.int .i64 (l0 % 256)))
          have z := res7 Y5.out rfl (.int .i64 5) (.int .i64 (l0 % 4294967296 / 256)) (.int .i64 (l0 % 256)) (.int .i64 0) (.int .i64 0) (.int .i64 0) (.string ⟨#[]⟩)
          have z0 := z.cell (i := 0) rfl
          have z1 := z.cell (i := 1) rfl
          have z2 := z.cell (i := 2) rfl
          have z3 := z.cell (i := 3) rfl
          have z4 := z.cell (i := 4) rfl
          have z5 := z.cell (i := 5) rfl
          have z6 := z.cell (i := 6) rfl
          refine bodyPost_ret (v := wshR (wsh 5 (l0 % 4294967296 / 256) (l0 % 256) 0 0 0 ⟨#[]⟩) 0) (by simp [results, Try.results75, go_sem, wshR, wsh, z0, z1, z2, z3, z4, z5, z6]) rfl ?_
          exact ⟨by rw [HW.out], below7 B5.out (by omega) _ _ _ _ _ _ _⟩
      · have HW : Hid (hrdV 6 vs mem = if pidB l0 = true then wshR (wsh 6 (l0 % 4294967296 / 256) (l0 % 256) 0 0 0 ⟨#[]⟩) 0 else wshR zeroW 1) := hid HV.out
        clear HV
        have HP := hid (fun w' => pid_any l0 w')
        have a0 := YA.out.cell (i := 0) rfl
        rcases pidB_cases l0 with ⟨hpb, hv⟩ | ⟨hpb, hv⟩
        · rw [hv] at HP
          rw [hpb, if_neg (by decide)] at HW
          clear hv hpb
          have YR := hid (YRA.out (.cells #[.int .i64 6, .int .i64 0, .int .i64 0, .int .i64 0, .int .i64 0, .int .i64 0, .string ⟨#[]⟩] 142))
          have BW := hid (BWA.out (.cells #[.int .i64 6, .int .i64 0, .int .i64 0, .int .i64 0, .int .i64 0, .int .i64 0, .string ⟨#[]⟩] 142))
          have XW := hid (Blk.new wr #[.int .i64 6, .int .i64 0, .int .i64 0, .int .i64 0, .int .i64 0, .int .i64 0, .string ⟨#[]⟩] 142 _ rfl)
          go_wp2_with fail
          refine (HP.out _).mono ?_
          rintro e w4 ⟨rfl, hb4⟩
          have Y4 := hid ((YR.out.below hb4).alloc (.cells #[.int .i64 0, .int .i64 0] 98))
          have X4 := hid ((XW.out.below hb4).alloc (.cells #[.int .i64 0, .int .i64 0] 98))
          have P4 := hid (Blk.new w4 #[.int .i64 0, .int .i64 0] 98 _ rfl)
          have B4 := hid ((BW.out.trans (hb4.mono BW.out.size)).alloc (Nat.le_trans BW.out.size hb4.size) (.cells #[.int .i64 0, .int .i64 0] 98))
          clear hb4
          have y0 := Y4.out.cell (i := 0) rfl
          have y1 := Y4.out.cell (i := 1) rfl
          have y2 := Y4.out.cell (i := 2) rfl
          have y3 := Y4.out.cell (i := 3) rfl
          have y4 := Y4.out.cell (i := 4) rfl
          have y5 := Y4.out.cell (i := 5) rfl
          have y6 := Y4.out.cell (i := 6) rfl
          have yf := fun i => Y4.out.free i
          go_wp2_with fail
          have z := res7 Y4.out rfl (.int .i64 0) (.int .i64 0) (.int .i64 0) (.int .i64 0) (.int .i64 0) (.int .i64 0) (.string ⟨#[]⟩)
          have z0 := z.cell (i := 0) rfl
          have z1 := z.cell (i := 1) rfl
          have z2 := z.cell (i := 2) rfl
          have z3 := z.cell (i := 3) rfl
          have z4 := z.cell (i := 4) rfl
          have z5 := z.cell (i := 5) rfl
          have z6 := z.cell (i := 6) rfl
          refine bodyPost_ret (v := wshR zeroW 1) (by simp [results, Try.results75, go_sem, wshR, zeroW, wsh, z0, z1, z2, z3, z4, z5, z6]) rfl ?_
          exact ⟨by rw [HW.out], below7 B4.out (by omega) _ _ _ _ _ _ _⟩
        · rw [hv] at HP
          rw [hpb, if_pos rfl] at HW
          clear hv hpb
          have YR := hid (YRA.out (.cells #[.int .i64 6, .int .i64 0, .int .i64 0, .int .i64 0, .int .i64 0, .int .i64 0, .string ⟨#[]⟩] 142))
          have BW := hid (BWA.out (.cells #[.int .i64 6, .int .i64 0, .int .i64 0, .int .i64 0, .int .i64 0, .int .i64 0, .string ⟨#[]⟩] 142))
          have XW := hid (Blk.new wr #[.int .i64 6, .int .i64 0, .int .i64 0, .int .i64 0, .int .i64 0, .int .i64 0, .string ⟨#[]⟩] 142 _ rfl)
          go_wp2_with fail
          refine (HP.out _).mono ?_
          rintro e w4 ⟨rfl, hb4⟩
          have Y4 := hid ((YR.out.below hb4).alloc (.cells #[.int .i64 (l0 % 4294967296 / 256), .int .i64 (l0 % 256)] 98))
          have X4 := hid ((XW.out.below hb4).alloc (.cells #[.int .i64 (l0 % 4294967296 / 256), .int .i64 (l0 % 256)] 98))
          have P4 := hid (Blk.new w4 #[.int .i64 (l0 % 4294967296 / 256), .int .i64 (l0 % 256)] 98 _ rfl)
          have B4 := hid ((BW.out.trans (hb4.mono BW.out.size)).alloc (Nat.le_trans BW.out.size hb4.size) (.cells #[.int .i64 (l0 % 4294967296 / 256), .int .i64 (l0 % 256)] 98))
          clear hb4
          have y0 := Y4.out.cell (i := 0) rfl
          have y1 := Y4.out.cell (i := 1) rfl
          have y2 := Y4.out.cell (i := 2) rfl
          have y3 := Y4.out.cell (i := 3) rfl
          have y4 := Y4.out.cell (i := 4) rfl
          have y5 := Y4.out.cell (i := 5) rfl
          have y6 := Y4.out.cell (i := 6) rfl
          have yf := fun i => Y4.out.free i
          have v0 := X4.out.cell (i := 0) rfl
          have v1 := X4.out.cell (i := 1) rfl
          have v2 := X4.out.cell (i := 2) rfl
          have v3 := X4.out.cell (i := 3) rfl
          have v4 := X4.out.cell (i := 4) rfl
          have v5 := X4.out.cell (i := 5) rfl
          have v6 := X4.out.cell (i := 6) rfl
          have vf := fun i => X4.out.free i
          have p0 := P4.out.cell (i := 0) rfl
          have p1 := P4.out.cell (i := 1) rfl
          have hn1 : ¬ (wr.heap.size = w.heap.size) := by have := HH.out; omega
          have hn2 : ¬ (w.heap.size = wr.heap.size) := by have := HH.out; omega
          go_wp2_with fail
          have Y5 := hid ((Y4.out.other (a := ⟨wr.heap.size, 1, none⟩) (by have := HH.out; simp; omega) (.int .i64 (l0 % 4294967296 / 256))).other (a := ⟨wr.heap.size, 2, none⟩) (by have := HH.out; simp; omega) (.int .i64 (l0 % 256)))
          have B5 := hid (below_setc (b := wr.heap.size) (i := 2) (below_setc (b := wr.heap.size) (i := 1) B4.out (Nat.le_of_lt HH.out) (.int .i64 (l0 % 4294967296 / 256))) (Nat.le_of_lt HH.out) (.int .i64 (l0 % 256)))
          have z := res7 Y5.out rfl (.int .i64 6) (.int .i64 (l0 % 4294967296 / 256)) (.int .i64 (l0 % 256)) (.int .i64 0) (.int .i64 0) (.int .i64 0) (.string ⟨#[]⟩)
          have z0 := z.cell (i := 0) rfl
          have z1 := z.cell (i := 1) rfl
          have z2 := z.cell (i := 2) rfl
          have z3 := z.cell (i := 3) rfl
          have z4 := z.cell (i := 4) rfl
          have z5 := z.cell (i := 5) rfl
          have z6 := z.cell (i := 6) rfl
          refine bodyPost_ret (v := wshR (wsh 6 (l0 % 4294967296 / 256) (l0 % 256) 0 0 0 ⟨#[]⟩) 0) (by simp [results, Try.results75, go_sem, wshR, wsh, z0, z1, z2, z3, z4, z5, z6]) rfl ?_
          exact ⟨by rw [HW.out], below7 B5.out (by omega) _ _ _ _ _ _ _⟩
      · have HW : Hid (hrdV 7 vs mem = if pidB l0 = true then wshR (wsh 7 (l0 % 4294967296 / 256) (l0 % 256) 0 0 0 ⟨#[]⟩) 0 else wshR zeroW 1) := hid HV.out
        clear HV
        have HP := hid (fun w' => pid_any l0 w')
        have a0 := YA.out.cell (i := 0) rfl
        rcases pidB_cases l0 with ⟨hpb, hv⟩ | ⟨hpb, hv⟩
        · rw [hv] at HP
          rw [hpb, if_neg (by decide)] at HW
          clear hv hpb
          have YR := hid (YRA.out (.cells #[.int .i64 7, .int .i64 0, .int .i64 0, .int .i64 0, .int .i64 0, .int .i64 0, .string ⟨#[]⟩] 142))
          have BW := hid (BWA.out (.cells #[.int .i64 7, .int .i64 0, .int .i64 0, .int .i64 0, .int .i64 0, .int .i64 0, .string ⟨#[]⟩] 142))
          have XW := hid (Blk.new wr #[.int .i64 7, .int .i64 0, .int .i64 0, .int .i64 0, .int .i64 0, .int .i64 0, .string ⟨#[]⟩] 142 _ rfl)
          go_wp2_with fail
          refine (HP.out _).mono ?_
          rintro e w4 ⟨rfl, hb4⟩
          have Y4 := hid ((YR.out.below hb4).alloc (.cells #[.int .i64 0, .int .i64 0] 98))
          have X4 := hid ((XW.out.below hb4).alloc (.cells #[.int .i64 0, .int .i64 0] 98))
          have P4 := hid (Blk.new w4 #[.int .i64 0, .int .i64 0] 98 _ rfl)
          have B4 := hid ((BW.out.trans (hb4.mono BW.out.size)).alloc (Nat.le_trans BW.out.size hb4.size) (.cells #[.int .i64 0, .int .i64 0] 98))
          clear hb4
          have y0 := Y4.out.cell (i := 0) rfl
          have y1 := Y4.out.cell (i := 1) rfl
          have y2 := Y4.out.cell (i := 2) rfl
          have y3 := Y4.out.cell (i := 3) rfl
          have y4 := Y4.out.cell (i := 4) rfl
          have y5 := Y4.out.cell (i := 5) rfl
          have y6 := Y4.out.cell (i := 6) rfl
          have yf := fun i => Y4.out.free i
          go_wp2_with fail
          have z := res7 Y4.out rfl (.int .i64 0) (.int .i64 0) (.int .i64 0) (.int .i64 0) (.int .i64 0) (.int .i64 0) (.string ⟨#[]⟩)
          have z0 := z.cell (i := 0) rfl
          have z1 := z.cell (i := 1) rfl
          have z2 := z.cell (i := 2) rfl
          have z3 := z.cell (i := 3) rfl
          have z4 := z.cell (i := 4) rfl
          have z5 := z.cell (i := 5) rfl
          have z6 := z.cell (i := 6) rfl
          refine bodyPost_ret (v := wshR zeroW 1) (by simp [results, Try.results75, go_sem, wshR, zeroW, wsh, z0, z1, z2, z3, z4, z5, z6]) rfl ?_
          exact ⟨by rw [HW.out], below7 B4.out (by omega) _ _ _ _ _ _ _⟩
        · rw [hv] at HP
          rw [hpb, if_pos rfl] at HW
          clear hv hpb
          have YR := hid (YRA.out (.cells #[.int .i64 7, .int .i64 0, .int .i64 0, .int .i64 0, .int .i64 0, .int .i64 0, .string ⟨#[]⟩] 142))
          have BW := hid (BWA.out (.cells #[.int .i64 7, .int .i64 0, .int .i64 0, .int .i64 0, .int .i64 0, .int .i64 0, .string ⟨#[]⟩] 142))
          have XW := hid (Blk.new wr #[.int .i64 7, .int .i64 0, .int .i64 0, .int .i64 0, .int .i64 0, .int .i64 0, .string ⟨#[]⟩] 142 _ rfl)
          go_wp2_with fail
          refine (HP.out _).mono ?_
          rintro e w4 ⟨rfl, hb4⟩
          have Y4 := hid ((YR.out.below hb4).alloc (.cells #[.int .i64 (l0 % 4294967296 / 256), .int .i64 (l0 % 256)] 98))
          have X4 := hid ((XW.out.below hb4).alloc (.cells #[.int .i64 (l0 % 4294967296 / 256), .int .i64 (l0 % 256)] 98))
          have P4 := hid (Blk.new w4 #[.int .i64 (l0 % 4294967296 / 256), .int .i64 (l0 % 256)] 98 _ rfl)
          have B4 := hid ((BW.out.trans (hb4.mono BW.out.size)).alloc (Nat.le_trans BW.out.size hb4.size) (.cells #[.int .i64 (l0 % 4294967296 / 256), .int .i64 (l0 % 256)] 98))
          clear hb4
          have y0 := Y4.out.cell (i := 0) rfl
          have y1 := Y4.out.cell (i := 1) rfl
          have y2 := Y4.out.cell (i := 2) rfl
          have y3 := Y4.out.cell (i := 3) rfl
          have y4 := Y4.out.cell (i := 4) rfl
          have y5 := Y4.out.cell (i := 5) rfl
          have y6 := Y4.out.cell (i := 6) rfl
          have yf := fun i => Y4.out.free i
          have v0 := X4.out.cell (i := 0) rfl
          have v1 := X4.out.cell (i := 1) rfl
          have v2 := X4.out.cell (i := 2) rfl
          have v3 := X4.out.cell (i := 3) rfl
          have v4 := X4.out.cell (i := 4) rfl
          have v5 := X4.out.cell (i := 5) rfl
          have v6 := X4.out.cell (i := 6) rfl
          have vf := fun i => X4.out.free i
          have p0 := P4.out.cell (i := 0) rfl
          have p1 := P4.out.cell (i := 1) rfl
          have hn1 : ¬ (wr.heap.size = w.heap.size) := by have := HH.out; omega
          have hn2 : ¬ (w.heap.size = wr.heap.size) := by have := HH.out; omega
          go_wp2_with fail
          have Y5 := hid ((Y4.out.other (a := ⟨wr.heap.size, 1, none⟩) (by have := HH.out; simp; omega) (.int .i64 (l0 % 4294967296 / 256))).other (a := ⟨wr.heap.size, 2, none⟩) (by have := HH.out; simp; omega) (.int .i64 (l0 % 256)))
          have B5 := hid (below_setc (b := wr.heap.size) (i := 2) (below_setc (b := wr.heap.size) (i := 1) B4.out (Nat.le_of_lt HH.out) (.int .i64 (l0 % 4294967296 / 256))) (Nat.le_of_lt HH.out) (.int .i64 (l0 % 256)))
          have z := res7 Y5.out rfl (.int .i64 7) (.int .i64 (l0 % 4294967296 / 256)) (.int .i64 (l0 % 256)) (.int .i64 0) (.int .i64 0) (.int .i64 0) (.string ⟨#[]⟩)
          have z0 := z.cell (i := 0) rfl
          have z1 := z.cell (i := 1) rfl
          have z2 := z.cell (i := 2) rfl
          have z3 := z.cell (i := 3) rfl
          have z4 := z.cell (i := 4) rfl
          have z5 := z.cell (i := 5) rfl
          have z6 := z.cell (i := 6) rfl
          refine bodyPost_ret (v := wshR (wsh 7 (l0 % 4294967296 / 256) (l0 % 256) 0 0 0 ⟨#[]⟩) 0) (by simp [results, Try.results75, go_sem, wshR, wsh, z0, z1, z2, z3, z4, z5, z6]) rfl ?_
          exact ⟨by rw [HW.out], below7 B5.out (by omega) _ _ _ _ _ _ _⟩
      · have HW : Hid (hrdV 8 vs mem = wshR (wsh 8 0 0 (l0 % 256) 0 0 ⟨#[]⟩) 0) := hid HV.out
        clear HV
        have m1 := i64_and255 l0
        have YR := hid (YRA.out (.cells #[.int .i64 (8), .int .i64 (0), .int .i64 (0), .int .i64 (l0 % 256), .int .i64 (0), .int .i64 (0), .string ⟨#[]⟩] 142))
        have BW := hid (BWA.out (.cells #[.int .i64 (8), .int .i64 (0), .int .i64 (0), .int .i64 (l0 % 256), .int .i64 (0), .int .i64 (0), .string ⟨#[]⟩] 142))
        have y0 := YR.out.cell (i := 0) rfl
        have y1 := YR.out.cell (i := 1) rfl
        have y2 := YR.out.cell (i := 2) rfl
        have y3 := YR.out.cell (i := 3) rfl
        have y4 := YR.out.cell (i := 4) rfl
        have y5 := YR.out.cell (i := 5) rfl
        have y6 := YR.out.cell (i := 6) rfl
        have yf := fun i => YR.out.free i
        have a0 := YA.out.cell (i := 0) rfl
        go_wp2_with fail
        have z := res7 YR.out rfl (.int .i64 (8)) (.int .i64 (0)) (.int .i64 (0)) (.int .i64 (l0 % 256)) (.int .i64 (0)) (.int .i64 (0)) (.string ⟨#[]⟩)
        have z0 := z.cell (i := 0) rfl
        have z1 := z.cell (i := 1) rfl
        have z2 := z.cell (i := 2) rfl
        have z3 := z.cell (i := 3) rfl
        have z4 := z.cell (i := 4) rfl
        have z5 := z.cell (i := 5) rfl
        have z6 := z.cell (i := 6) rfl
        refine bodyPost_ret (v := wshR (wsh 8 0 0 (l0 % 256) 0 0 ⟨#[]⟩) 0) (by simp [results, Try.results75, go_sem, wshR, wsh, z0, z1, z2, z3, z4, z5, z6]) rfl ?_
        exact ⟨by rw [HW.out], below7 BW.out (by omega) _ _ _ _ _ _ _⟩
      · have hmn : hrdV 9 vs mem = wshR (wsh 9 0 0 (if l0 % 4294967296 = 0 then 0 else 1) 0 0 ⟨#[]⟩) 0 := HV.out
        by_cases hz : l0 % 4294967296 = 0
        · rw [if_pos hz] at hmn
          have hz1 : l0 % 4294967296 < 1 := by omega
          have hz2 : ¬ (1 < l0 % 4294967296) := by omega
          have hz3 : ¬ (1 ≤ l0 % 4294967296) := by omega
          have HW : Hid (hrdV 9 vs mem = wshR (wsh 9 0 0 (0) 0 0 ⟨#[]⟩) 0) := hid hmn
          clear HV
          clear hmn
          have YR := hid (YRA.out (.cells #[.int .i64 (9), .int .i64 (0), .int .i64 (0), .int .i64 (0), .int .i64 (0), .int .i64 (0), .string ⟨#[]⟩] 142))
          have BW := hid (BWA.out (.cells #[.int .i64 (9), .int .i64 (0), .int .i64 (0), .int .i64 (0), .int .i64 (0), .int .i64 (0), .string ⟨#[]⟩] 142))
          have y0 := YR.out.cell (i := 0) rfl
          have y1 := YR.out.cell (i := 1) rfl
          have y2 := YR.out.cell (i := 2) rfl
          have y3 := YR.out.cell (i := 3) rfl
          have y4 := YR.out.cell (i := 4) rfl
          have y5 := YR.out.cell (i := 5) rfl
          have y6 := YR.out.cell (i := 6) rfl
          have yf := fun i => YR.out.free i
          have a0 := YA.out.cell (i := 0) rfl
          go_wp2_with fail
          have z := res7 YR.out rfl (.int .i64 (9)) (.int .i64 (0)) (.int .i64 (0)) (.int .i64 (0)) (.int .i64 (0)) (.int .i64 (0)) (.string ⟨#[]⟩)
          have z0 := z.cell (i := 0) rfl
          have z1 := z.cell (i := 1) rfl
          have z2 := z.cell (i := 2) rfl
          have z3 := z.cell (i := 3) rfl
          have z4 := z.cell (i := 4) rfl
          have z5 := z.cell (i := 5) rfl
          have z6 := z.cell (i := 6) rfl
          refine bodyPost_ret (v := wshR (wsh 9 0 0 (0) 0 0 ⟨#[]⟩) 0) (by simp [results, Try.results75, go_sem, wshR, wsh, z0, z1, z2, z3, z4, z5, z6]) rfl ?_
          exact ⟨by rw [HW.out], below7 BW.out (by omega) _ _ _ _ _ _ _⟩
        · rw [if_neg hz] at hmn
          have hz0 : 0 ≤ l0 % 4294967296 := by omega
          have hz1 : ¬ (l0 % 4294967296 < 1) := by omega
          have hz2 : 1 ≤ l0 % 4294967296 := by omega
          have HW : Hid (hrdV 9 vs mem = wshR (wsh 9 0 0 (1) 0 0 ⟨#[]⟩) 0) := hid hmn
          clear HV
          clear hmn
          have YR := hid (YRA.out (.cells #[.int .i64 (9), .int .i64 (0), .int .i64 (0), .int .i64 (1), .int .i64 (0), .int .i64 (0), .string ⟨#[]⟩] 142))
          have BW := hid (BWA.out (.cells #[.int .i64 (9), .int .i64 (0), .int .i64 (0), .int .i64 (1), .int .i64 (0), .int .i64 (0), .string ⟨#[]⟩] 142))
          have y0 := YR.out.cell (i := 0) rfl
          have y1 := YR.out.cell (i := 1) rfl
          have y2 := YR.out.cell (i := 2) rfl
          have y3 := YR.out.cell (i := 3) rfl
          have y4 := YR.out.cell (i := 4) rfl
          have y5 := YR.out.cell (i := 5) rfl
          have y6 := YR.out.cell (i := 6) rfl
          have yf := fun i => YR.out.free i
          have a0 := YA.out.cell (i := 0) rfl
          go_wp2_with fail
          have z := res7 YR.out rfl (.int .i64 (9)) (.int .i64 (0)) (.int .i64 (0)) (.int .i64 (1)) (.int .i64 (0)) (.int .i64 (0)) (.string ⟨#[]⟩)
          have z0 := z.cell (i := 0) rfl
          have z1 := z.cell (i := 1) rfl
          have z2 := z.cell (i := 2) rfl
          have z3 := z.cell (i := 3) rfl
          have z4 := z.cell (i := 4) rfl
          have z5 := z.cell (i := 5) rfl
          have z6 := z.cell (i := 6) rfl
          refine bodyPost_ret (v := wshR (wsh 9 0 0 (1) 0 0 ⟨#[]⟩) 0) (by simp [results, Try.results75, go_sem, wshR, wsh, z0, z1, z2, z3, z4, z5, z6]) rfl ?_
          exact ⟨by rw [HW.out], below7 BW.out (by omega) _ _ _ _ _ _ _⟩
      · have HW : Hid (hrdV 10 vs mem = wshR (wsh 10 0 0 (l0) 0 0 ⟨#[]⟩) 0) := hid HV.out
        clear HV
        have YR := hid (YRA.out (.cells #[.int .i64 (10), .int .i64 (0), .int .i64 (0), .int .i64 (l0), .int .i64 (0), .int .i64 (0), .string ⟨#[]⟩] 142))
        have BW := hid (BWA.out (.cells #[.int .i64 (10), .int .i64 (0), .int .i64 (0), .int .i64 (l0), .int .i64 (0), .int .i64 (0), .string ⟨#[]⟩] 142))
        have y0 := YR.out.cell (i := 0) rfl
        have y1 := YR.out.cell (i := 1) rfl
        have y2 := YR.out.cell (i := 2) rfl
        have y3 := YR.out.cell (i := 3) rfl
        have y4 := YR.out.cell (i := 4) rfl
        have y5 := YR.out.cell (i := 5) rfl
        have y6 := YR.out.cell (i := 6) rfl
        have yf := fun i => YR.out.free i
        have a0 := YA.out.cell (i := 0) rfl
        go_wp2_with fail
        have z := res7 YR.out rfl (.int .i64 (10)) (.int .i64 (0)) (.int .i64 (0)) (.int .i64 (l0)) (.int .i64 (0)) (.int .i64 (0)) (.string ⟨#[]⟩)
        have z0 := z.cell (i := 0) rfl
        have z1 := z.cell (i := 1) rfl
        have z2 := z.cell (i := 2) rfl
        have z3 := z.cell (i := 3) rfl
        have z4 := z.cell (i := 4) rfl
        have z5 := z.cell (i := 5) rfl
        have z6 := z.cell (i := 6) rfl
        refine bodyPost_ret (v := wshR (wsh 10 0 0 (l0) 0 0 ⟨#[]⟩) 0) (by simp [results, Try.results75, go_sem, wshR, wsh, z0, z1, z2, z3, z4, z5, z6]) rfl ?_
        exact ⟨by rw [HW.out], below7 BW.out (by omega) _ _ _ _ _ _ _⟩
      · have HW : Hid (hrdV 11 vs mem = wshR (wsh 11 0 0 (0) 0 0 ⟨#[]⟩) 0) := hid HV.out
        clear HV
        have YR := hid (YRA.out (.cells #[.int .i64 (11), .int .i64 (0), .int .i64 (0), .int .i64 (0), .int .i64 (0), .int .i64 (0), .string ⟨#[]⟩] 142))
        have BW := hid (BWA.out (.cells #[.int .i64 (11), .int .i64 (0), .int .i64 (0), .int .i64 (0), .int .i64 (0), .int .i64 (0), .string ⟨#[]⟩] 142))
        have y0 := YR.out.cell (i := 0) rfl
        have y1 := YR.out.cell (i := 1) rfl
        have y2 := YR.out.cell (i := 2) rfl
        have y3 := YR.out.cell (i := 3) rfl
        have y4 := YR.out.cell (i := 4) rfl
        have y5 := YR.out.cell (i := 5) rfl
        have y6 := YR.out.cell (i := 6) rfl
        have yf := fun i => YR.out.free i
        have a0 := YA.out.cell (i := 0) rfl
        go_wp2_with fail
        have z := res7 YR.out rfl (.int .i64 (11)) (.int .i64 (0)) (.int .i64 (0)) (.int .i64 (0)) (.int .i64 (0)) (.int .i64 (0)) (.string ⟨#[]⟩)
        have z0 := z.cell (i := 0) rfl
        have z1 := z.cell (i := 1) rfl
        have z2 := z.cell (i := 2) rfl
        have z3 := z.cell (i := 3) rfl
        have z4 := z.cell (i := 4) rfl
        have z5 := z.cell (i := 5) rfl
        have z6 := z.cell (i := 6) rfl
        refine bodyPost_ret (v := wshR (wsh 11 0 0 (0) 0 0 ⟨#[]⟩) 0) (by simp [results, Try.results75, go_sem, wshR, wsh, z0, z1, z2, z3, z4, z5, z6]) rfl ?_
        exact ⟨by rw [HW.out], below7 BW.out (by omega) _ _ _ _ _ _ _⟩
end Go.Proofs.Ytpapblahnbeccaa
