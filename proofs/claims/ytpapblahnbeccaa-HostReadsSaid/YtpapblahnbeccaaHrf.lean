/-
  HOST: the walk of the reference's HostRead. Conditions: readings; the memory's size in the form's reach. Printed by a program of mine.
-/
import Derived.Test.YtpapblahnbeccaaHrd
namespace Go.Proofs.Ytpapblahnbeccaa
open Go.RowKit Go.Lib

theorem elem_i64r : Elem Try.prog 112 2 (.int .i64 0) 1 8 := ⟨Try.underlying112, by kernel_rfl, rfl, by decide⟩
theorem kindN_name (l : List UInt8) : kindN l = 0 ∨ (kindN l = 1 ∧ l = [115, 101, 108, 102]) ∨ (kindN l = 2 ∧ l = [115, 101, 110, 100]) ∨ (kindN l = 3 ∧ l = [116, 97, 107, 101]) ∨ (kindN l = 4 ∧ l = [115, 112, 97, 119, 110]) ∨ (kindN l = 5 ∧ l = [108, 105, 110, 107]) ∨ (kindN l = 6 ∧ l = [117, 110, 108, 105, 110, 107]) ∨ (kindN l = 7 ∧ l = [119, 97, 116, 99, 104]) ∨ (kindN l = 8 ∧ l = [101, 120, 105, 116]) ∨ (kindN l = 9 ∧ l = [116, 114, 97, 112]) ∨ (kindN l = 10 ∧ l = [108, 111, 103]) ∨ (kindN l = 11 ∧ l = [110, 111, 119]) := by
  unfold kindN
  simp only [cond_eq_ite]
  repeat' split
  all_goals first | (left; rfl) | (rename_i h; have h2 := beq_iff_eq.1 h; simp [h2])

def modL (l : List Int) : List Int := l.map (fun a => a % 4294967296)
theorem fit_mod (k a : Int) : fitM k a % 4294967296 = a % 4294967296 := by
  unfold fitM
  split
  · exact w32_mod a
  · rfl
theorem take_one {l : List Int} {j : Nat} (h : j < l.length) : l.take (j + 1) = l.take j ++ [l[j]] := List.take_succ_eq_append_getElem h
theorem mod_one' {l : List Int} {j : Nat} (h : j < l.length) : modL (l.take (j + 1)) = modL (l.take j) ++ [l[j] % 4294967296] := by
  rw [take_one h]; unfold modL; rw [List.map_append]; rfl
theorem modL_len (l : List Int) : (modL l).length = l.length := List.length_map _
theorem row_cells {w : World} {base : Nat} {v : Value} {l : List Int} (h : OwnI w base .i64 2 v l) (h0 : 0 < l.length) : ∃ g cap, v = .slice (some ⟨g, 0, none⟩) l.length cap ∧ base ≤ g ∧ g < w.heap.size ∧ l.length ≤ cap ∧ cap ≤ 9223372036854775807 ∧ ∀ (j : Nat) (_ : j < l.length) (w' : World), Below w.heap.size w w' → w'.cell? ⟨g, j, none⟩ = some (.int .i64 (l.getD j 0)) := by
  obtain ⟨g, cap, rfl, h1, h2, h3, h4⟩ := O1.head h h0
  have hlt := (World.ownsRow.lt h g rfl).2
  refine ⟨g, cap, rfl, h1, hlt, h2, h3, fun j hj w' hb => ?_⟩
  rw [hb.cell (p := ⟨g, j, none⟩) hlt, h4 j hj, List.getD_eq_getElem?_getD, List.getElem?_eq_getElem hj, Option.getD_some]
theorem row_cells' {w : World} {base n : Nat} {v : Value} {l : List Int} (h : OwnI w base .i64 2 v l) (hn : l.length = n) (h0 : 0 < n) : ∃ g cap, v = .slice (some ⟨g, 0, none⟩) n cap ∧ base ≤ g ∧ g < w.heap.size ∧ n ≤ cap ∧ cap ≤ 9223372036854775807 ∧ Hid (∀ (j : Nat) (_ : j < n) (w' : World), Below w.heap.size w w' → w'.cell? ⟨g, j, none⟩ = some (.int .i64 (l.getD j 0))) := by
  subst hn
  exact row_cells h h0
theorem modL_getD (l : List Int) (j : Nat) : (modL l).getD j 0 = l.getD j 0 % 4294967296 := by
  unfold modL
  rw [List.getD_eq_getElem?_getD, List.getD_eq_getElem?_getD, List.getElem?_map]
  cases l[j]? <;> rfl
theorem fit9_bd (vs : List Int) : -2147483648 ≤ (fitL [127] vs).getD 0 0 ∧ (fitL [127] vs).getD 0 0 ≤ 2147483647 := by
  cases vs with
  | nil => exact ⟨by decide, by decide⟩
  | cons a r =>
    have : (fitL [127] (a :: r)).getD 0 0 = w32 a := rfl
    rw [this]
    exact w32_bd a
theorem ext2 (m : ByteArray) (p q : Nat) (h : p + q ≤ m.size) : (m.extract p m.size).extract 0 q = m.extract p (p + q) := by
  rw [ByteArray.extract_extract]
  congr 1
  omega
set_option maxRecDepth 100000 in
theorem rtruth_any (b : Bool) (w : World) : Calls Try.prog 148 #[.bool b] w fun e w' => e = .returned (.int .i64 (if b = true then 1 else 0)) ∧ w = w' := by
  cases b with
  | false =>
    go_enter Try.func148, Try.ntmps148
    go_wp2_with fail
    go_ret
    exact ⟨rfl, rfl⟩
  | true =>
    go_enter Try.func148, Try.ntmps148
    go_wp2_with fail
    go_ret
    exact ⟨rfl, rfl⟩

set_option maxRecDepth 100000 in
set_option maxHeartbeats 8000000 in
theorem rhread_any (s mem : ByteArray) (vv : Value) (vs : List Int) (w : World) (hv : Ints w .i64 vv vs) (hb : ∀ v ∈ vs, -9223372036854775808 ≤ v ∧ v ≤ 9223372036854775807) (hm : mem.size ≤ 140737488351232) :
    Calls Try.prog 76 #[.string s, vv, .string mem] w fun e w' => e = .returned (hrdV (kindN s.toList) vs mem) ∧ Below w.heap.size w w' := by
  have HR := hid (fun w' => hostRow_any s w')
  have hkin := kindN_name s.toList
  have hform := fun h => form_in s.toList h
  generalize kindN s.toList = k at *
  obtain ⟨aov, capv, rfl, -⟩ := id hv
  have HVS := hid hv
  have X0 := hid (Blk.new w #[.int .i64 0, .int .i64 0, .int .i64 0, .int .i64 0, .int .i64 0, .int .i64 0, .string ⟨#[]⟩] 142 _ rfl)
  have B0 := hid ((Below.refl w.heap.size w).alloc (Nat.le_refl _) (.cells #[.int .i64 0, .int .i64 0, .int .i64 0, .int .i64 0, .int .i64 0, .int .i64 0, .string ⟨#[]⟩] 142))
  have hik := inK_len k
  clear hv
  by_cases h0 : k = 0
  · subst h0
    have HV := hid (show hrdV 0 vs mem = wshR zeroW 12 from if_pos rfl)
    clear hform hkin
    have y0 := X0.out.cell (i := 0) rfl
    have y1 := X0.out.cell (i := 1) rfl
    have y2 := X0.out.cell (i := 2) rfl
    have y3 := X0.out.cell (i := 3) rfl
    have y4 := X0.out.cell (i := 4) rfl
    have y5 := X0.out.cell (i := 5) rfl
    have y6 := X0.out.cell (i := 6) rfl
    have yf := fun i => X0.out.free i
    go_enter Try.func76, Try.ntmps76
    go_wp2_with fail
    refine (HR.out _).mono ?_
    rintro e w1 ⟨rfl, rfl⟩
    go_wp2_with fail
    refine bodyPost_ret (v := wshR zeroW 12) (by simp [results, Try.results76, go_sem, wshR, zeroW, wsh]) rfl ?_
    exact ⟨by rw [HV.out], B0.out⟩
  obtain ⟨fa, fb, F⟩ := hform h0
  rw [F.eq] at HR
  have hcut := cut_any fa fb 62 F.no
  have hls := F.len
  have HC := hid (fun w' => hcut w' (by simp; omega) F.some)
  have KA := hid (fun w' => kindsS_any w' fa hls.1 F.lo.1)
  rw [F.ins] at KA
  have hfl : (S fa).size = (inK k).length := by rw [S_size, ← F.ins]; unfold kindsL; rw [List.length_map]
  have HFL := hid hfl
  have h0b : (k == 0) = false := by simpa using h0
  clear hcut hls F hform hfl
  generalize S (fa ++ 62 :: fb) = ff at *
  generalize S fa = sa at *
  generalize S fb = sb at *
  by_cases hlen : vs.length ≠ (inK k).length
  · have HV := hid (show hrdV k vs mem = wshR zeroW 1 from (if_neg h0).trans (if_pos hlen))
    have hl2 : ((vs.length : Int) != (sa.size : Int)) = true := by rw [bne_iff_ne]; have := HFL.out; omega
    go_enter Try.func76, Try.ntmps76
    go_wp2_with fail
    refine (HR.out _).mono ?_
    rintro e w1 ⟨rfl, rfl⟩
    go_wp2_with fail
    refine (HC.out _).mono ?_
    rintro e w2 ⟨rfl, hb2⟩
    have X2 := hid (X0.out.below hb2)
    have B2 := hid (B0.out.trans (hb2.mono (by simp)))
    clear hb2
    have y0 := X2.out.cell (i := 0) rfl
    have y1 := X2.out.cell (i := 1) rfl
    have y2 := X2.out.cell (i := 2) rfl
    have y3 := X2.out.cell (i := 3) rfl
    have y4 := X2.out.cell (i := 4) rfl
    have y5 := X2.out.cell (i := 5) rfl
    have y6 := X2.out.cell (i := 6) rfl
    have yf := fun i => X2.out.free i
    go_wp2_with fail
    have z := res7 X2.out rfl (.int .i64 0) (.int .i64 0) (.int .i64 0) (.int .i64 0) (.int .i64 0) (.int .i64 0) (.string ⟨#[]⟩)
    have z0 := z.cell (i := 0) rfl
    have z1 := z.cell (i := 1) rfl
    have z2 := z.cell (i := 2) rfl
    have z3 := z.cell (i := 3) rfl
    have z4 := z.cell (i := 4) rfl
    have z5 := z.cell (i := 5) rfl
    have z6 := z.cell (i := 6) rfl
    refine bodyPost_ret (v := wshR zeroW 1) (by simp [results, Try.results76, go_sem, wshR, zeroW, wsh, z0, z1, z2, z3, z4, z5, z6]) rfl ?_
    exact ⟨by rw [HV.out], below7 B2.out (by omega) _ _ _ _ _ _ _⟩
  have hlen : vs.length = (inK k).length := Classical.byContradiction hlen
  have HV : Hid (hrdV k vs mem = bodyV k (fitL (inK k) vs) mem) := hid ((if_neg h0).trans (if_neg (fun h => h hlen)))
  have HBD := hid (fitL_bd (inK k) vs hb)
  have H9 := hid (fun (h : inK k = [127]) => by have := fit9_bd vs; rw [← h] at this; exact this)
  have HVB := hid hb
  have HLF := hid (fitL_len (inK k) vs hlen.symm)
  have HLE := hid hlen
  have hl2 : ((vs.length : Int) != (sa.size : Int)) = false := by rw [bne_eq_false_iff_eq]; have := HFL.out; omega
  have HFG := hid (fitL_get (inK k) vs)
  clear hlen hb
  go_enter Try.func76, Try.ntmps76
  go_wp2_with fail
  refine (HR.out _).mono ?_
  rintro e w1 ⟨rfl, rfl⟩
  go_wp2_with fail
  refine (HC.out _).mono ?_
  rintro e w2 ⟨rfl, hb2⟩
  have X2 := hid (X0.out.below hb2)
  have B2 := hid (B0.out.trans (hb2.mono (by simp)))
  clear hb2
  go_wp2_with fail
  refine (KA.out _).mono ?_
  rintro e w3 ⟨vk, rfl, hk3, hb3⟩
  have X3 := hid (X2.out.below hb3)
  have B3 := hid (B2.out.trans (hb3.mono B2.out.size))
  have K3 := hid (OwnI.ints hk3)
  obtain ⟨aok, capk, rfl, -⟩ := own_sl hk3
  clear hb3 hk3 X2 B2 X0 B0 HC KA HR
  go_wp2_with fail
  go_loopw [43, 13, 14] (fun i v1 v2 wr => ∃ (j : Nat) (u1 u2 : Value), j ≤ (inK k).length ∧ i = .int .i64 j ∧ v1 = u1 ∧ v2 = u2 ∧ Hid (OwnI wr w3.heap.size .i64 2 u1 ((fitL (inK k) vs).take j)) ∧ Hid (OwnI wr w3.heap.size .i64 2 u2 (modL ((fitL (inK k) vs).take j))) ∧ Hid (Sep u1 u2) ∧ Hid (Below w3.heap.size w3 wr)) (fun i _ _ _ => (inK k).length - (RowKit.intOf i).toNat)
  case atStart => exact ⟨0, _, _, Nat.zero_le _, rfl, rfl, rfl, hid (OwnI.nil _ _ _ _), hid (OwnI.nil _ _ _ _), hid (Sep.nil_left _), hid (Below.refl _ _)⟩
  case round =>
    obtain ⟨j, u1, u2, hj, rfl, hu1, hu2, O1, O2, SP, YB⟩ := hrel
    have hu1' := hu1.symm
    have hu2' := hu2.symm
    subst hu1' hu2'
    clear hu1 hu2
    by_cases hlt : j < (inK k).length
    · have hj2 : j < vs.length := by have := HLE.out; omega
      rcases L1.open K3.out with ⟨_, _, _, hx, _⟩ | ⟨bi, oi, ci, hvi, _, _, _, hci⟩
      · rw [hx] at hlt; simp at hlt
      rcases L1.open (L1.below HVS.out B3.out) with ⟨_, _, _, hx, _⟩ | ⟨bv, ov, cv, hvv, _, _, _, hcv⟩
      · rw [hx] at hj2; simp at hj2
      simp only [Value.slice.injEq, true_and] at hvi hvv
      obtain ⟨rfl, rfl⟩ := hvi
      obtain ⟨rfl, rfl⟩ := hvv
      have hjf : j < (fitL (inK k) vs).length := by have := HLF.out; omega
      have hst1 := take_one hjf
      have hst2 := mod_one' hjf
      rw [HFG.out j hlt hj2 hjf] at hst1 hst2
      rw [fit_mod] at hst2
      have HST1 := hid hst1
      have HST2 := hid hst2
      have c1 := hci j hlt
      have c2 := hcv j hj2
      have d1 := (YB.out.cell (p := ⟨bi, oi + j, none⟩) (World.block_lt_of_cell? _ _ c1)).trans c1
      have HDD := hid (fun w' (h : Below w3.heap.size w3 w') => (h.cell (p := ⟨bv, ov + j, none⟩) (World.block_lt_of_cell? _ _ c2)).trans c2)
      have d2 := HDD.out wr YB.out
      have hL1 : ((fitL (inK k) vs).take j).length = j := by rw [List.length_take]; omega
      have hL2 : (modL ((fitL (inK k) vs).take j)).length = j := by rw [modL_len, hL1]
      have hvb := HVB.out vs[j] (List.getElem_mem hj2)
      have FT := hid (rfit_any (inK k)[j] vs[j] wr)
      have RT := hid (fun w' => rest_any vs[j] 4294967296 w' hvb.1 hvb.2 (by decide) (by decide))
      have g1 : (j : Int) < ((inK k).length : Int) := by omega
      have g2 : (j : Int) < (vs.length : Int) := by omega
      have hsz := YB.out.size
      clear hst1 hst2 hci hcv hjf c1 c2
      generalize (inK k)[j] = kk at *
      generalize vs[j] = vj at *
      generalize (fitL (inK k) vs).take j = L1' at *
      generalize modL L1' = L2' at *
      go_wp2_with fail
      refine FT.out.mono ?_
      rintro e w4 ⟨rfl, hb4⟩
      have P1 : OwnI w4 w3.heap.size .i64 2 u1 L1' := OwnI.below O1.out hb4
      have P2 := hid (OwnI.below O2.out hb4)
      have YB4 := hid (YB.out.trans (hb4.mono hsz))
      have HB4 := hid hb4
      have hsz4 := YB4.out.size
      clear O1 O2 YB hb4
      have hlj : L1'.length + 1 ≤ 10 := by omega
      have hlj2 : L2'.length + 1 ≤ 10 := by omega
      clear hL1 hL2
      go_wp2_with (first | (go_at_call 88; refine (RT.out _).mono ?_; rintro e w5 ⟨rfl, rfl⟩) | (at_builtin; refine app_int elem_i64r (y := vj % 4294967296) rfl _ _ rfl rfl rfl rfl P3 (by omega) (by omega) hsz6 ?_; intro v2' w7 ho' hb' hg'; have HO2 := hid ho'; have YB7 := hid (YB5.out.trans hb'); have PQ := hg'.other HO.out SP2.out.symm; have P5 := hid PQ.1; have SP3 := hid PQ.2; clear ho' hb' hg' PQ P3) | (at_builtin; refine app_int elem_i64r (y := fitM kk vj) rfl _ _ rfl rfl rfl rfl P1 (by omega) (by omega) hsz4 ?_; intro v' w6 ho' hb' hg'; have HO := hid ho'; have YB5 := hid (YB4.out.trans hb'); have PQ := hg'.other P2.out SP.out.symm; have P3 : OwnI w6 w3.heap.size .i64 2 u2 L2' := PQ.1; have SP2 := hid PQ.2; have dd := HDD.out w6 YB5.out; have hsz6 := YB5.out.size; clear ho' hb' hg' PQ P1))
      go_roundw
      case rel => exact ⟨j + 1, v', v2', by omega, by go_num, rfl, rfl, hid (by rw [HST1.out]; exact P5.out), hid (by rw [HST2.out]; exact HO2.out), SP3, YB7⟩
      case measure => simp [RowKit.intOf]; omega
    · obtain rfl : j = (inK k).length := by omega
      rw [List.take_of_length_le (by rw [HLF.out]; omega)] at O1 O2
      have XR := hid (X3.out.below YB.out)
      have BW := hid (B3.out.trans (YB.out.mono B3.out.size))
      have HH := hid (show w.heap.size < wr.heap.size from by have := X3.out.lt; have := YB.out.size; omega)
      have HHg := hid (show w.heap.size < w3.heap.size from X3.out.lt)
      clear HFG HLE hik hl2 K3 HVS YB B3 hj hlt X3 SP HVB HFL
      unfold bodyV at HV
      generalize hl0 : fitL (inK k) vs = l at *
      clear hl0
      have YRA := hid (fun o => XR.out.alloc o)
      have BWA := hid (fun o => BW.out.alloc BW.out.size o)
      have AL := hid (fun (o : Obj) => (Below.refl wr.heap.size wr).alloc (Nat.le_refl _) o)
      rcases hkin with rfl | ⟨rfl, hs⟩ | ⟨rfl, hs⟩ | ⟨rfl, hs⟩ | ⟨rfl, hs⟩ | ⟨rfl, hs⟩ | ⟨rfl, hs⟩ | ⟨rfl, hs⟩ | ⟨rfl, hs⟩ | ⟨rfl, hs⟩ | ⟨rfl, hs⟩ | ⟨rfl, hs⟩
      · exact absurd rfl h0
      · have HW : Hid (hrdV 1 vs mem = wshR (wsh 1 0 0 (0) 0 0 ⟨#[]⟩) 0) := hid HV.out
        clear HV
        have YR := hid (YRA.out (.cells #[.int .i64 (1), .int .i64 (0), .int .i64 (0), .int .i64 (0), .int .i64 (0), .int .i64 (0), .string ⟨#[]⟩] 142))
        have BW := hid (BWA.out (.cells #[.int .i64 (1), .int .i64 (0), .int .i64 (0), .int .i64 (0), .int .i64 (0), .int .i64 (0), .string ⟨#[]⟩] 142))
        have y0 := YR.out.cell (i := 0) rfl
        have y1 := YR.out.cell (i := 1) rfl
        have y2 := YR.out.cell (i := 2) rfl
        have y3 := YR.out.cell (i := 3) rfl
        have y4 := YR.out.cell (i := 4) rfl
        have y5 := YR.out.cell (i := 5) rfl
        have y6 := YR.out.cell (i := 6) rfl
        have yf := fun i => YR.out.free i
        go_wp2_with fail
        have z := res7 YR.out rfl (.int .i64 (1)) (.int .i64 (0)) (.int .i64 (0)) (.int .i64 (0)) (.int .i64 (0)) (.int .i64 (0)) (.string ⟨#[]⟩)
        have z0 := z.cell (i := 0) rfl
        have z1 := z.cell (i := 1) rfl
        have z2 := z.cell (i := 2) rfl
        have z3 := z.cell (i := 3) rfl
        have z4 := z.cell (i := 4) rfl
        have z5 := z.cell (i := 5) rfl
        have z6 := z.cell (i := 6) rfl
        refine bodyPost_ret (v := wshR (wsh 1 0 0 (0) 0 0 ⟨#[]⟩) 0) (by simp [results, Try.results76, go_sem, wshR, wsh, z0, z1, z2, z3, z4, z5, z6]) rfl ?_
        exact ⟨by rw [HW.out], below7 BW.out (by omega) _ _ _ _ _ _ _⟩
      · have hl : l.length = 4 := HLF.out
        obtain ⟨g1, cap1, rfl, hb1, hx1, hc1, hm1, HC1⟩ := row_cells' O1.out hl (by decide)
        obtain ⟨g2, cap2, rfl, hb2, hx2, hc2, hm2, HC2⟩ := row_cells' O2.out ((modL_len l).trans hl) (by decide)
        have HG1 := hid hx1
        have HG2 := hid hx2
        clear hb1 hx1 hb2 hx2 hl
        have HW : Hid (hrdV 2 vs mem = sendV (l.getD 0 0) (l.getD 1 0) (l.getD 2 0) (l.getD 3 0) mem) := hid HV.out
        clear HV
        have HP := hid (fun w' => hostPid_any (l.getD 0 0) w' (HBD.out 0).1 (HBD.out 0).2)
        have a0 := HC1.out 0 (by decide) (wr.alloc (.cells #[.int .i64 (2), .int .i64 (0), .int .i64 (0), .int .i64 (0), .int .i64 (0), .int .i64 (0), .string ⟨#[]⟩] 142)) (AL.out _)
        have A0 := hid (fun w' h => HC1.out 0 (by decide) w' h)
        have D0 := hid (fun w' h => HC2.out 0 (by decide) w' h)
        rw [modL_getD] at D0
        have A1 := hid (fun w' h => HC1.out 1 (by decide) w' h)
        have D1 := hid (fun w' h => HC2.out 1 (by decide) w' h)
        rw [modL_getD] at D1
        have A2 := hid (fun w' h => HC1.out 2 (by decide) w' h)
        have D2 := hid (fun w' h => HC2.out 2 (by decide) w' h)
        rw [modL_getD] at D2
        have A3 := hid (fun w' h => HC1.out 3 (by decide) w' h)
        have D3 := hid (fun w' h => HC2.out 3 (by decide) w' h)
        rw [modL_getD] at D3
        clear H9 HBD HC1 HC2
        generalize l.getD 0 0 = l0 at *
        generalize l.getD 1 0 = l1 at *
        generalize l.getD 2 0 = l2 at *
        generalize l.getD 3 0 = l3 at *
        have hp0 : 0 ≤ l2 % 4294967296 := by omega
        have hp1 : l2 % 4294967296 < 4294967296 := by omega
        have hq0 : 0 ≤ l3 % 4294967296 := by omega
        have hq1 : l3 % 4294967296 < 4294967296 := by omega
        unfold sendV at HW
        have hn1 : ¬ (wr.heap.size = w.heap.size) := by have := HH.out; omega
        have hn2 : ¬ (w.heap.size = wr.heap.size) := by have := HH.out; omega
        have hn3 : ¬ (wr.heap.size = g1) := by have := HG1.out; omega
        have hn4 : ¬ (g1 = wr.heap.size) := by have := HG1.out; omega
        have hn5 : ¬ (wr.heap.size = g2) := by have := HG2.out; omega
        have hn6 : ¬ (g2 = wr.heap.size) := by have := HG2.out; omega
        have YR := hid (YRA.out (.cells #[.int .i64 (2), .int .i64 (0), .int .i64 (0), .int .i64 (0), .int .i64 (0), .int .i64 (0), .string ⟨#[]⟩] 142))
        have BW := hid (BWA.out (.cells #[.int .i64 (2), .int .i64 (0), .int .i64 (0), .int .i64 (0), .int .i64 (0), .int .i64 (0), .string ⟨#[]⟩] 142))
        have XW := hid (Blk.new wr #[.int .i64 (2), .int .i64 (0), .int .i64 (0), .int .i64 (0), .int .i64 (0), .int .i64 (0), .string ⟨#[]⟩] 142 _ rfl)
        rcases pidB_cases l0 with ⟨hpb, hv⟩ | ⟨hpb, hv⟩
        · rw [hv] at HP
          rw [hpb, if_pos (.inl rfl)] at HW
          clear hv hpb
          go_wp2_with fail
          refine (HP.out _).mono ?_
          rintro e w4 ⟨rfl, hb4⟩
          have Y4 := hid (YR.out.below hb4)
          have X4 := hid (XW.out.below hb4)
          have B4 := hid (BW.out.trans (hb4.mono BW.out.size))
          have hal : Below wr.heap.size wr w4 := (AL.out (.cells #[.int .i64 (2), .int .i64 (0), .int .i64 (0), .int .i64 (0), .int .i64 (0), .int .i64 (0), .string ⟨#[]⟩] 142)).trans (hb4.mono (by simp))
          have a0 := A0.out w4 hal
          have b0 := D0.out w4 hal
          have a1 := A1.out w4 hal
          have b1 := D1.out w4 hal
          have a2 := A2.out w4 hal
          have b2 := D2.out w4 hal
          have a3 := A3.out w4 hal
          have b3 := D3.out w4 hal
          clear hb4 hal
          have y0 := Y4.out.cell (i := 0) rfl
          have y1 := Y4.out.cell (i := 1) rfl
          have y2 := Y4.out.cell (i := 2) rfl
          have y3 := Y4.out.cell (i := 3) rfl
          have y4 := Y4.out.cell (i := 4) rfl
          have y5 := Y4.out.cell (i := 5) rfl
          have y6 := Y4.out.cell (i := 6) rfl
          have yf := fun i => Y4.out.free i
          have v0 := X4.out.cell (i := 0) rfl
          have v1 := X4.out.cell (i := 1) rfl
          have v2 := X4.out.cell (i := 2) rfl
          have v3 := X4.out.cell (i := 3) rfl
          have v4 := X4.out.cell (i := 4) rfl
          have v5 := X4.out.cell (i := 5) rfl
          have v6 := X4.out.cell (i := 6) rfl
          have vf := fun i => X4.out.free i
          go_wp2_with fail
          have Y5 := hid (((Y4.out.other (a := ⟨wr.heap.size, 1, none⟩) (by have := HH.out; simp; omega) (.int .i64 0)).other (a := ⟨wr.heap.size, 2, none⟩) (by have := HH.out; simp; omega) (.int .i64 0)))
          have B5 := hid ((below_setc (b := wr.heap.size) (i := 2) (below_setc (b := wr.heap.size) (i := 1) B4.out (Nat.le_of_lt HH.out) (.int .i64 0)) (Nat.le_of_lt HH.out) (.int .i64 0)))
          have z := res7 Y5.out rfl (.int .i64 0) (.int .i64 0) (.int .i64 0) (.int .i64 0) (.int .i64 0) (.int .i64 0) (.string ⟨#[]⟩)
          have z0 := z.cell (i := 0) rfl
          have z1 := z.cell (i := 1) rfl
          have z2 := z.cell (i := 2) rfl
          have z3 := z.cell (i := 3) rfl
          have z4 := z.cell (i := 4) rfl
          have z5 := z.cell (i := 5) rfl
          have z6 := z.cell (i := 6) rfl
          refine bodyPost_ret (v := wshR zeroW 1) (by simp [results, Try.results76, go_sem, wshR, zeroW, wsh, z0, z1, z2, z3, z4, z5, z6]) rfl ?_
          exact ⟨by rw [HW.out], below7 B5.out (by omega) _ _ _ _ _ _ _⟩
        · rw [hv] at HP
          rw [hpb] at HW
          clear hv hpb
          by_cases c1 : l1 < 0
          · rw [if_pos (.inr (.inl c1))] at HW
            go_wp2_with fail
            refine (HP.out _).mono ?_
            rintro e w4 ⟨rfl, hb4⟩
            have Y4 := hid (YR.out.below hb4)
            have X4 := hid (XW.out.below hb4)
            have B4 := hid (BW.out.trans (hb4.mono BW.out.size))
            have hal : Below wr.heap.size wr w4 := (AL.out (.cells #[.int .i64 (2), .int .i64 (0), .int .i64 (0), .int .i64 (0), .int .i64 (0), .int .i64 (0), .string ⟨#[]⟩] 142)).trans (hb4.mono (by simp))
            have a0 := A0.out w4 hal
            have b0 := D0.out w4 hal
            have a1 := A1.out w4 hal
            have b1 := D1.out w4 hal
            have a2 := A2.out w4 hal
            have b2 := D2.out w4 hal
            have a3 := A3.out w4 hal
            have b3 := D3.out w4 hal
            clear hb4 hal
            have y0 := Y4.out.cell (i := 0) rfl
            have y1 := Y4.out.cell (i := 1) rfl
            have y2 := Y4.out.cell (i := 2) rfl
            have y3 := Y4.out.cell (i := 3) rfl
            have y4 := Y4.out.cell (i := 4) rfl
            have y5 := Y4.out.cell (i := 5) rfl
            have y6 := Y4.out.cell (i := 6) rfl
            have yf := fun i => Y4.out.free i
            have v0 := X4.out.cell (i := 0) rfl
            have v1 := X4.out.cell (i := 1) rfl
            have v2 := X4.out.cell (i := 2) rfl
            have v3 := X4.out.cell (i := 3) rfl
            have v4 := X4.out.cell (i := 4) rfl
            have v5 := X4.out.cell (i := 5) rfl
            have v6 := X4.out.cell (i := 6) rfl
            have vf := fun i => X4.out.free i
            go_wp2_with fail
            have Y5 := hid (((Y4.out.other (a := ⟨wr.heap.size, 1, none⟩) (by have := HH.out; simp; omega) (.int .i64 (l0 % 4294967296 / 256))).other (a := ⟨wr.heap.size, 2, none⟩) (by have := HH.out; simp; omega) (.int .i64 (l0 % 256))))
            have B5 := hid ((below_setc (b := wr.heap.size) (i := 2) (below_setc (b := wr.heap.size) (i := 1) B4.out (Nat.le_of_lt HH.out) (.int .i64 (l0 % 4294967296 / 256))) (Nat.le_of_lt HH.out) (.int .i64 (l0 % 256))))
            have z := res7 Y5.out rfl (.int .i64 0) (.int .i64 0) (.int .i64 0) (.int .i64 0) (.int .i64 0) (.int .i64 0) (.string ⟨#[]⟩)
            have z0 := z.cell (i := 0) rfl
            have z1 := z.cell (i := 1) rfl
            have z2 := z.cell (i := 2) rfl
            have z3 := z.cell (i := 3) rfl
            have z4 := z.cell (i := 4) rfl
            have z5 := z.cell (i := 5) rfl
            have z6 := z.cell (i := 6) rfl
            refine bodyPost_ret (v := wshR zeroW 1) (by simp [results, Try.results76, go_sem, wshR, zeroW, wsh, z0, z1, z2, z3, z4, z5, z6]) rfl ?_
            exact ⟨by rw [HW.out], below7 B5.out (by omega) _ _ _ _ _ _ _⟩
          by_cases c2 : 60 < l1
          · rw [if_pos (.inr (.inr c2))] at HW
            have c3 : 0 ≤ l1 := by omega
            go_wp2_with fail
            refine (HP.out _).mono ?_
            rintro e w4 ⟨rfl, hb4⟩
            have Y4 := hid (YR.out.below hb4)
            have X4 := hid (XW.out.below hb4)
            have B4 := hid (BW.out.trans (hb4.mono BW.out.size))
            have hal : Below wr.heap.size wr w4 := (AL.out (.cells #[.int .i64 (2), .int .i64 (0), .int .i64 (0), .int .i64 (0), .int .i64 (0), .int .i64 (0), .string ⟨#[]⟩] 142)).trans (hb4.mono (by simp))
            have a0 := A0.out w4 hal
            have b0 := D0.out w4 hal
            have a1 := A1.out w4 hal
            have b1 := D1.out w4 hal
            have a2 := A2.out w4 hal
            have b2 := D2.out w4 hal
            have a3 := A3.out w4 hal
            have b3 := D3.out w4 hal
            clear hb4 hal
            have y0 := Y4.out.cell (i := 0) rfl
            have y1 := Y4.out.cell (i := 1) rfl
            have y2 := Y4.out.cell (i := 2) rfl
            have y3 := Y4.out.cell (i := 3) rfl
            have y4 := Y4.out.cell (i := 4) rfl
            have y5 := Y4.out.cell (i := 5) rfl
            have y6 := Y4.out.cell (i := 6) rfl
            have yf := fun i => Y4.out.free i
            have v0 := X4.out.cell (i := 0) rfl
            have v1 := X4.out.cell (i := 1) rfl
            have v2 := X4.out.cell (i := 2) rfl
            have v3 := X4.out.cell (i := 3) rfl
            have v4 := X4.out.cell (i := 4) rfl
            have v5 := X4.out.cell (i := 5) rfl
            have v6 := X4.out.cell (i := 6) rfl
            have vf := fun i => X4.out.free i
            go_wp2_with fail
            have Y5 := hid (((Y4.out.other (a := ⟨wr.heap.size, 1, none⟩) (by have := HH.out; simp; omega) (.int .i64 (l0 % 4294967296 / 256))).other (a := ⟨wr.heap.size, 2, none⟩) (by have := HH.out; simp; omega) (.int .i64 (l0 % 256))))
            have B5 := hid ((below_setc (b := wr.heap.size) (i := 2) (below_setc (b := wr.heap.size) (i := 1) B4.out (Nat.le_of_lt HH.out) (.int .i64 (l0 % 4294967296 / 256))) (Nat.le_of_lt HH.out) (.int .i64 (l0 % 256))))
            have z := res7 Y5.out rfl (.int .i64 0) (.int .i64 0) (.int .i64 0) (.int .i64 0) (.int .i64 0) (.int .i64 0) (.string ⟨#[]⟩)
            have z0 := z.cell (i := 0) rfl
            have z1 := z.cell (i := 1) rfl
            have z2 := z.cell (i := 2) rfl
            have z3 := z.cell (i := 3) rfl
            have z4 := z.cell (i := 4) rfl
            have z5 := z.cell (i := 5) rfl
            have z6 := z.cell (i := 6) rfl
            refine bodyPost_ret (v := wshR zeroW 1) (by simp [results, Try.results76, go_sem, wshR, zeroW, wsh, z0, z1, z2, z3, z4, z5, z6]) rfl ?_
            exact ⟨by rw [HW.out], below7 B5.out (by omega) _ _ _ _ _ _ _⟩
          rw [if_neg (by rintro (h | h | h) <;> first | omega | cases h)] at HW
          have c3 : 0 ≤ l1 := by omega
          have c4 : l1 ≤ 60 := by omega
          by_cases c5 : 32 < l3 % 4294967296
          · rw [if_pos c5] at HW
            go_wp2_with fail
            refine (HP.out _).mono ?_
            rintro e w4 ⟨rfl, hb4⟩
            have Y4 := hid (YR.out.below hb4)
            have X4 := hid (XW.out.below hb4)
            have B4 := hid (BW.out.trans (hb4.mono BW.out.size))
            have hal : Below wr.heap.size wr w4 := (AL.out (.cells #[.int .i64 (2), .int .i64 (0), .int .i64 (0), .int .i64 (0), .int .i64 (0), .int .i64 (0), .string ⟨#[]⟩] 142)).trans (hb4.mono (by simp))
            have a0 := A0.out w4 hal
            have b0 := D0.out w4 hal
            have a1 := A1.out w4 hal
            have b1 := D1.out w4 hal
            have a2 := A2.out w4 hal
            have b2 := D2.out w4 hal
            have a3 := A3.out w4 hal
            have b3 := D3.out w4 hal
            clear hb4 hal
            have y0 := Y4.out.cell (i := 0) rfl
            have y1 := Y4.out.cell (i := 1) rfl
            have y2 := Y4.out.cell (i := 2) rfl
            have y3 := Y4.out.cell (i := 3) rfl
            have y4 := Y4.out.cell (i := 4) rfl
            have y5 := Y4.out.cell (i := 5) rfl
            have y6 := Y4.out.cell (i := 6) rfl
            have yf := fun i => Y4.out.free i
            have v0 := X4.out.cell (i := 0) rfl
            have v1 := X4.out.cell (i := 1) rfl
            have v2 := X4.out.cell (i := 2) rfl
            have v3 := X4.out.cell (i := 3) rfl
            have v4 := X4.out.cell (i := 4) rfl
            have v5 := X4.out.cell (i := 5) rfl
            have v6 := X4.out.cell (i := 6) rfl
            have vf := fun i => X4.out.free i
            go_wp2_with fail
            have Y5 := hid (((Y4.out.other (a := ⟨wr.heap.size, 1, none⟩) (by have := HH.out; simp; omega) (.int .i64 (l0 % 4294967296 / 256))).other (a := ⟨wr.heap.size, 2, none⟩) (by have := HH.out; simp; omega) (.int .i64 (l0 % 256))))
            have B5 := hid ((below_setc (b := wr.heap.size) (i := 2) (below_setc (b := wr.heap.size) (i := 1) B4.out (Nat.le_of_lt HH.out) (.int .i64 (l0 % 4294967296 / 256))) (Nat.le_of_lt HH.out) (.int .i64 (l0 % 256))))
            have z := res7 Y5.out rfl (.int .i64 0) (.int .i64 0) (.int .i64 0) (.int .i64 0) (.int .i64 0) (.int .i64 0) (.string ⟨#[]⟩)
            have z0 := z.cell (i := 0) rfl
            have z1 := z.cell (i := 1) rfl
            have z2 := z.cell (i := 2) rfl
            have z3 := z.cell (i := 3) rfl
            have z4 := z.cell (i := 4) rfl
            have z5 := z.cell (i := 5) rfl
            have z6 := z.cell (i := 6) rfl
            refine bodyPost_ret (v := wshR zeroW 2) (by simp [results, Try.results76, go_sem, wshR, zeroW, wsh, z0, z1, z2, z3, z4, z5, z6]) rfl ?_
            exact ⟨by rw [HW.out], below7 B5.out (by omega) _ _ _ _ _ _ _⟩
          rw [if_neg c5] at HW
          have d5 : l3 % 4294967296 ≤ 32 := by omega
          clear c5
          by_cases c6 : (mem.size : Int) < l2 % 4294967296 + l3 % 4294967296
          · rw [if_pos c6] at HW
            by_cases c7 : (mem.size : Int) < l2 % 4294967296
            · have c8 : decide ((mem.size : Int) < l2 % 4294967296) = true := decide_eq_true c7
              clear c6
              go_wp2_with fail
              refine (HP.out _).mono ?_
              rintro e w4 ⟨rfl, hb4⟩
              have Y4 := hid (YR.out.below hb4)
              have X4 := hid (XW.out.below hb4)
              have B4 := hid (BW.out.trans (hb4.mono BW.out.size))
              have hal : Below wr.heap.size wr w4 := (AL.out (.cells #[.int .i64 (2), .int .i64 (0), .int .i64 (0), .int .i64 (0), .int .i64 (0), .int .i64 (0), .string ⟨#[]⟩] 142)).trans (hb4.mono (by simp))
              have a0 := A0.out w4 hal
              have b0 := D0.out w4 hal
              have a1 := A1.out w4 hal
              have b1 := D1.out w4 hal
              have a2 := A2.out w4 hal
              have b2 := D2.out w4 hal
              have a3 := A3.out w4 hal
              have b3 := D3.out w4 hal
              clear hb4 hal
              have y0 := Y4.out.cell (i := 0) rfl
              have y1 := Y4.out.cell (i := 1) rfl
              have y2 := Y4.out.cell (i := 2) rfl
              have y3 := Y4.out.cell (i := 3) rfl
              have y4 := Y4.out.cell (i := 4) rfl
              have y5 := Y4.out.cell (i := 5) rfl
              have y6 := Y4.out.cell (i := 6) rfl
              have yf := fun i => Y4.out.free i
              have v0 := X4.out.cell (i := 0) rfl
              have v1 := X4.out.cell (i := 1) rfl
              have v2 := X4.out.cell (i := 2) rfl
              have v3 := X4.out.cell (i := 3) rfl
              have v4 := X4.out.cell (i := 4) rfl
              have v5 := X4.out.cell (i := 5) rfl
              have v6 := X4.out.cell (i := 6) rfl
              have vf := fun i => X4.out.free i
              go_wp2_with fail
              go_quiet (fail)
              go_wp2_with fail
              have Y5 := hid (((Y4.out.other (a := ⟨wr.heap.size, 1, none⟩) (by have := HH.out; simp; omega) (.int .i64 (l0 % 4294967296 / 256))).other (a := ⟨wr.heap.size, 2, none⟩) (by have := HH.out; simp; omega) (.int .i64 (l0 % 256))).drew nq)
              have B5 := hid (drew_bel' (n := nq) (below_setc (b := wr.heap.size) (i := 2) (below_setc (b := wr.heap.size) (i := 1) B4.out (Nat.le_of_lt HH.out) (.int .i64 (l0 % 4294967296 / 256))) (Nat.le_of_lt HH.out) (.int .i64 (l0 % 256))))
              have z := res7 Y5.out rfl (.int .i64 0) (.int .i64 0) (.int .i64 0) (.int .i64 0) (.int .i64 0) (.int .i64 0) (.string ⟨#[]⟩)
              have z0 := z.cell (i := 0) rfl
              have z1 := z.cell (i := 1) rfl
              have z2 := z.cell (i := 2) rfl
              have z3 := z.cell (i := 3) rfl
              have z4 := z.cell (i := 4) rfl
              have z5 := z.cell (i := 5) rfl
              have z6 := z.cell (i := 6) rfl
              refine bodyPost_ret (v := wshR zeroW 23) (by simp [results, Try.results76, go_sem, wshR, zeroW, wsh, z0, z1, z2, z3, z4, z5, z6]) rfl ?_
              exact ⟨by rw [HW.out], below7 B5.out (by omega) _ _ _ _ _ _ _⟩
            · have c8 : decide ((mem.size : Int) < l2 % 4294967296) = false := decide_eq_false c7
              have c9 : l2 % 4294967296 ≤ (mem.size : Int) := by omega
              have m1 : IntKind.i64.wrap ((mem.size : Int) - l2 % 4294967296) = (mem.size : Int) - l2 % 4294967296 := by rw [IntKind.wrap_i64]; omega
              have c10 : (mem.size : Int) - l2 % 4294967296 < l3 % 4294967296 := by omega
              clear c6
              go_wp2_with fail
              refine (HP.out _).mono ?_
              rintro e w4 ⟨rfl, hb4⟩
              have Y4 := hid (YR.out.below hb4)
              have X4 := hid (XW.out.below hb4)
              have B4 := hid (BW.out.trans (hb4.mono BW.out.size))
              have hal : Below wr.heap.size wr w4 := (AL.out (.cells #[.int .i64 (2), .int .i64 (0), .int .i64 (0), .int .i64 (0), .int .i64 (0), .int .i64 (0), .string ⟨#[]⟩] 142)).trans (hb4.mono (by simp))
              have a0 := A0.out w4 hal
              have b0 := D0.out w4 hal
              have a1 := A1.out w4 hal
              have b1 := D1.out w4 hal
              have a2 := A2.out w4 hal
              have b2 := D2.out w4 hal
              have a3 := A3.out w4 hal
              have b3 := D3.out w4 hal
              clear hb4 hal
              have y0 := Y4.out.cell (i := 0) rfl
              have y1 := Y4.out.cell (i := 1) rfl
              have y2 := Y4.out.cell (i := 2) rfl
              have y3 := Y4.out.cell (i := 3) rfl
              have y4 := Y4.out.cell (i := 4) rfl
              have y5 := Y4.out.cell (i := 5) rfl
              have y6 := Y4.out.cell (i := 6) rfl
              have yf := fun i => Y4.out.free i
              have v0 := X4.out.cell (i := 0) rfl
              have v1 := X4.out.cell (i := 1) rfl
              have v2 := X4.out.cell (i := 2) rfl
              have v3 := X4.out.cell (i := 3) rfl
              have v4 := X4.out.cell (i := 4) rfl
              have v5 := X4.out.cell (i := 5) rfl
              have v6 := X4.out.cell (i := 6) rfl
              have vf := fun i => X4.out.free i
              go_wp2_with fail
              go_quiet (fail)
              go_wp2_with fail
              have Y5 := hid (((Y4.out.other (a := ⟨wr.heap.size, 1, none⟩) (by have := HH.out; simp; omega) (.int .i64 (l0 % 4294967296 / 256))).other (a := ⟨wr.heap.size, 2, none⟩) (by have := HH.out; simp; omega) (.int .i64 (l0 % 256))).drew nq)
              have B5 := hid (drew_bel' (n := nq) (below_setc (b := wr.heap.size) (i := 2) (below_setc (b := wr.heap.size) (i := 1) B4.out (Nat.le_of_lt HH.out) (.int .i64 (l0 % 4294967296 / 256))) (Nat.le_of_lt HH.out) (.int .i64 (l0 % 256))))
              have z := res7 Y5.out rfl (.int .i64 0) (.int .i64 0) (.int .i64 0) (.int .i64 0) (.int .i64 0) (.int .i64 0) (.string ⟨#[]⟩)
              have z0 := z.cell (i := 0) rfl
              have z1 := z.cell (i := 1) rfl
              have z2 := z.cell (i := 2) rfl
              have z3 := z.cell (i := 3) rfl
              have z4 := z.cell (i := 4) rfl
              have z5 := z.cell (i := 5) rfl
              have z6 := z.cell (i := 6) rfl
              refine bodyPost_ret (v := wshR zeroW 23) (by simp [results, Try.results76, go_sem, wshR, zeroW, wsh, z0, z1, z2, z3, z4, z5, z6]) rfl ?_
              exact ⟨by rw [HW.out], below7 B5.out (by omega) _ _ _ _ _ _ _⟩
          rw [if_neg c6] at HW
          have c9 : l2 % 4294967296 ≤ (mem.size : Int) := by omega
          have c8 : decide ((mem.size : Int) < l2 % 4294967296) = false := decide_eq_false (by omega)
          have m1 : IntKind.i64.wrap ((mem.size : Int) - l2 % 4294967296) = (mem.size : Int) - l2 % 4294967296 := by rw [IntKind.wrap_i64]; omega
          have c10 : l3 % 4294967296 ≤ (mem.size : Int) - l2 % 4294967296 := by omega
          have hsl1 : ∀ w', (Instr.slice 9 (.string mem) (some (.int .i64 (l2 % 4294967296))) none none).run Try.prog w' = .ok (.string (mem.extract (l2 % 4294967296).toNat mem.size)) w' := fun w' => run_slice_string_l w' 9 mem Try.underlying9 .i64 (l2 % 4294967296) hp0 c9
          have hsl2 : ∀ w', (Instr.slice 9 (.string (mem.extract (l2 % 4294967296).toNat mem.size)) none (some (.int .i64 (l3 % 4294967296))) none).run Try.prog w' = .ok (.string (mem.extract (l2 % 4294967296).toNat (l2 % 4294967296 + l3 % 4294967296).toNat)) w' := fun w' => by
            rw [run_slice_string_h w' 9 (mem.extract (l2 % 4294967296).toNat mem.size) Try.underlying9 .i64 (l3 % 4294967296) hq0 (by rw [ByteArray.size_extract]; omega), ext2 _ _ _ (by omega)]
            congr 3
            omega
          clear c6
          go_wp2_with fail
          refine (HP.out _).mono ?_
          rintro e w4 ⟨rfl, hb4⟩
          have Y4 := hid (YR.out.below hb4)
          have X4 := hid (XW.out.below hb4)
          have B4 := hid (BW.out.trans (hb4.mono BW.out.size))
          have hal : Below wr.heap.size wr w4 := (AL.out (.cells #[.int .i64 (2), .int .i64 (0), .int .i64 (0), .int .i64 (0), .int .i64 (0), .int .i64 (0), .string ⟨#[]⟩] 142)).trans (hb4.mono (by simp))
          have a0 := A0.out w4 hal
          have b0 := D0.out w4 hal
          have a1 := A1.out w4 hal
          have b1 := D1.out w4 hal
          have a2 := A2.out w4 hal
          have b2 := D2.out w4 hal
          have a3 := A3.out w4 hal
          have b3 := D3.out w4 hal
          clear hb4 hal
          have y0 := Y4.out.cell (i := 0) rfl
          have y1 := Y4.out.cell (i := 1) rfl
          have y2 := Y4.out.cell (i := 2) rfl
          have y3 := Y4.out.cell (i := 3) rfl
          have y4 := Y4.out.cell (i := 4) rfl
          have y5 := Y4.out.cell (i := 5) rfl
          have y6 := Y4.out.cell (i := 6) rfl
          have yf := fun i => Y4.out.free i
          have v0 := X4.out.cell (i := 0) rfl
          have v1 := X4.out.cell (i := 1) rfl
          have v2 := X4.out.cell (i := 2) rfl
          have v3 := X4.out.cell (i := 3) rfl
          have v4 := X4.out.cell (i := 4) rfl
          have v5 := X4.out.cell (i := 5) rfl
          have v6 := X4.out.cell (i := 6) rfl
          have vf := fun i => X4.out.free i
          go_wp2_with fail
          go_quiet (fail)
          go_wp2_with fail
          go_region_law (fail)
          all_goals
            go_wp2_with fail
            have Y5 := hid (((((Y4.out.other (a := ⟨wr.heap.size, 1, none⟩) (by have := HH.out; simp; omega) (.int .i64 (l0 % 4294967296 / 256))).other (a := ⟨wr.heap.size, 2, none⟩) (by have := HH.out; simp; omega) (.int .i64 (l0 % 256))).drew (nq + 1)).other (a := ⟨wr.heap.size, 3, none⟩) (by have := HH.out; simp; omega) (.int .i64 l1)).other (a := ⟨wr.heap.size, 6, none⟩) (by have := HH.out; simp; omega) (.string (mem.extract (l2 % 4294967296).toNat (l2 % 4294967296 + l3 % 4294967296).toNat)))
            have B5 := hid (below_setc (b := wr.heap.size) (i := 6) (below_setc (b := wr.heap.size) (i := 3) (drew_bel' (n := nq + 1) (below_setc (b := wr.heap.size) (i := 2) (below_setc (b := wr.heap.size) (i := 1) B4.out (Nat.le_of_lt HH.out) (.int .i64 (l0 % 4294967296 / 256))) (Nat.le_of_lt HH.out) (.int .i64 (l0 % 256)))) (Nat.le_of_lt HH.out) (.int .i64 l1)) (Nat.le_of_lt HH.out) (.string (mem.extract (l2 % 4294967296).toNat (l2 % 4294967296 + l3 % 4294967296).toNat)))
            have z := res7 Y5.out rfl (.int .i64 2) (.int .i64 (l0 % 4294967296 / 256)) (.int .i64 (l0 % 256)) (.int .i64 l1) (.int .i64 0) (.int .i64 0) (.string (mem.extract (l2 % 4294967296).toNat (l2 % 4294967296 + l3 % 4294967296).toNat))
            have z0 := z.cell (i := 0) rfl
            have z1 := z.cell (i := 1) rfl
            have z2 := z.cell (i := 2) rfl
            have z3 := z.cell (i := 3) rfl
            have z4 := z.cell (i := 4) rfl
            have z5 := z.cell (i := 5) rfl
            have z6 := z.cell (i := 6) rfl
            refine bodyPost_ret (v := wshR (wsh 2 (l0 % 4294967296 / 256) (l0 % 256) l1 0 0 (mem.extract (l2 % 4294967296).toNat (l2 % 4294967296 + l3 % 4294967296).toNat)) 0) (by simp [results, Try.results76, go_sem, wshR, wsh, z0, z1, z2, z3, z4, z5, z6]) rfl ?_
            exact ⟨by rw [HW.out], below7 B5.out (by omega) _ _ _ _ _ _ _⟩
      · have hl : l.length = 3 := HLF.out
        obtain ⟨g1, cap1, rfl, hb1, hx1, hc1, hm1, HC1⟩ := row_cells' O1.out hl (by decide)
        obtain ⟨g2, cap2, rfl, hb2, hx2, hc2, hm2, HC2⟩ := row_cells' O2.out ((modL_len l).trans hl) (by decide)
        have HG1 := hid hx1
        have HG2 := hid hx2
        clear hb1 hx1 hb2 hx2 hl
        have HW : Hid (hrdV 3 vs mem = takeV (l.getD 0 0) (l.getD 1 0) (l.getD 2 0) mem) := hid HV.out
        clear HV
        have a0 := fun o => HC1.out 0 (by decide) (wr.alloc o) (AL.out o)
        have b0 := fun o => HC2.out 0 (by decide) (wr.alloc o) (AL.out o)
        rw [modL_getD] at b0
        have a1 := fun o => HC1.out 1 (by decide) (wr.alloc o) (AL.out o)
        have b1 := fun o => HC2.out 1 (by decide) (wr.alloc o) (AL.out o)
        rw [modL_getD] at b1
        have a2 := fun o => HC1.out 2 (by decide) (wr.alloc o) (AL.out o)
        have b2 := fun o => HC2.out 2 (by decide) (wr.alloc o) (AL.out o)
        rw [modL_getD] at b2
        have HB2 := HBD.out 2
        clear H9 HBD HC2
        have hp0 : 0 ≤ l.getD 1 0 % 4294967296 := by omega
        have hp1 : l.getD 1 0 % 4294967296 < 4294967296 := by omega
        generalize l.getD 0 0 = l0 at *
        generalize l.getD 1 0 = l1 at *
        generalize l.getD 2 0 = l2 at *
        unfold takeV at HW
        by_cases c : (mem.size : Int) < l1 % 4294967296 + 6 + 32
        · rw [if_pos c] at HW
          by_cases c1 : (mem.size : Int) < l1 % 4294967296
          · clear c HC1
            have YR := hid (YRA.out (.cells #[.int .i64 (3), .int .i64 (0), .int .i64 (0), .int .i64 (0), .int .i64 (0), .int .i64 (0), .string ⟨#[]⟩] 142))
            have BW := hid (BWA.out (.cells #[.int .i64 (3), .int .i64 (0), .int .i64 (0), .int .i64 (0), .int .i64 (0), .int .i64 (0), .string ⟨#[]⟩] 142))
            have y0 := YR.out.cell (i := 0) rfl
            have y1 := YR.out.cell (i := 1) rfl
            have y2 := YR.out.cell (i := 2) rfl
            have y3 := YR.out.cell (i := 3) rfl
            have y4 := YR.out.cell (i := 4) rfl
            have y5 := YR.out.cell (i := 5) rfl
            have y6 := YR.out.cell (i := 6) rfl
            have yf := fun i => YR.out.free i
            go_wp2_with fail
            have z := res7 YR.out rfl (.int .i64 0) (.int .i64 0) (.int .i64 0) (.int .i64 0) (.int .i64 0) (.int .i64 0) (.string ⟨#[]⟩)
            have z0 := z.cell (i := 0) rfl
            have z1 := z.cell (i := 1) rfl
            have z2 := z.cell (i := 2) rfl
            have z3 := z.cell (i := 3) rfl
            have z4 := z.cell (i := 4) rfl
            have z5 := z.cell (i := 5) rfl
            have z6 := z.cell (i := 6) rfl
            refine bodyPost_ret (v := wshR zeroW 23) (by simp [results, Try.results76, go_sem, wshR, zeroW, wsh, z0, z1, z2, z3, z4, z5, z6]) rfl ?_
            exact ⟨by rw [HW.out], below7 BW.out (by omega) _ _ _ _ _ _ _⟩
          · have c2 : l1 % 4294967296 ≤ (mem.size : Int) := by omega
            have c3 : (mem.size : Int) - l1 % 4294967296 < 38 := by omega
            have m1 : IntKind.i64.wrap ((mem.size : Int) - l1 % 4294967296) = (mem.size : Int) - l1 % 4294967296 := by rw [IntKind.wrap_i64]; omega
            clear c HC1
            have YR := hid (YRA.out (.cells #[.int .i64 (3), .int .i64 (0), .int .i64 (0), .int .i64 (0), .int .i64 (0), .int .i64 (0), .string ⟨#[]⟩] 142))
            have BW := hid (BWA.out (.cells #[.int .i64 (3), .int .i64 (0), .int .i64 (0), .int .i64 (0), .int .i64 (0), .int .i64 (0), .string ⟨#[]⟩] 142))
            have y0 := YR.out.cell (i := 0) rfl
            have y1 := YR.out.cell (i := 1) rfl
            have y2 := YR.out.cell (i := 2) rfl
            have y3 := YR.out.cell (i := 3) rfl
            have y4 := YR.out.cell (i := 4) rfl
            have y5 := YR.out.cell (i := 5) rfl
            have y6 := YR.out.cell (i := 6) rfl
            have yf := fun i => YR.out.free i
            go_wp2_with fail
            have z := res7 YR.out rfl (.int .i64 0) (.int .i64 0) (.int .i64 0) (.int .i64 0) (.int .i64 0) (.int .i64 0) (.string ⟨#[]⟩)
            have z0 := z.cell (i := 0) rfl
            have z1 := z.cell (i := 1) rfl
            have z2 := z.cell (i := 2) rfl
            have z3 := z.cell (i := 3) rfl
            have z4 := z.cell (i := 4) rfl
            have z5 := z.cell (i := 5) rfl
            have z6 := z.cell (i := 6) rfl
            refine bodyPost_ret (v := wshR zeroW 23) (by simp [results, Try.results76, go_sem, wshR, zeroW, wsh, z0, z1, z2, z3, z4, z5, z6]) rfl ?_
            exact ⟨by rw [HW.out], below7 BW.out (by omega) _ _ _ _ _ _ _⟩
        · rw [if_neg c] at HW
          have c2 : l1 % 4294967296 ≤ (mem.size : Int) := by omega
          have c3 : 38 ≤ (mem.size : Int) - l1 % 4294967296 := by omega
          have m1 : IntKind.i64.wrap ((mem.size : Int) - l1 % 4294967296) = (mem.size : Int) - l1 % 4294967296 := by rw [IntKind.wrap_i64]; omega
          clear c HC1
          by_cases c4 : l2 < 0
          · rw [if_pos c4] at HW
            have YR := hid (YRA.out (.cells #[.int .i64 (3), .int .i64 (0), .int .i64 (0), .int .i64 (l0), .int .i64 (-1), .int .i64 (l1 % 4294967296), .string ⟨#[]⟩] 142))
            have BW := hid (BWA.out (.cells #[.int .i64 (3), .int .i64 (0), .int .i64 (0), .int .i64 (l0), .int .i64 (-1), .int .i64 (l1 % 4294967296), .string ⟨#[]⟩] 142))
            have YQ := hid (YRA.out (.cells #[.int .i64 (3), .int .i64 (0), .int .i64 (0), .int .i64 (l0), .int .i64 (l2), .int .i64 (l1 % 4294967296), .string ⟨#[]⟩] 142))
            have y0 := YR.out.cell (i := 0) rfl
            have y1 := YR.out.cell (i := 1) rfl
            have y2 := YR.out.cell (i := 2) rfl
            have y3 := YR.out.cell (i := 3) rfl
            have y4 := YR.out.cell (i := 4) rfl
            have y5 := YR.out.cell (i := 5) rfl
            have y6 := YR.out.cell (i := 6) rfl
            have yf := fun i => YR.out.free i
            have q0 := YQ.out.cell (i := 0) rfl
            have q1 := YQ.out.cell (i := 1) rfl
            have q2 := YQ.out.cell (i := 2) rfl
            have q3 := YQ.out.cell (i := 3) rfl
            have q4 := YQ.out.cell (i := 4) rfl
            have q5 := YQ.out.cell (i := 5) rfl
            have q6 := YQ.out.cell (i := 6) rfl
            have qf := fun i => YQ.out.free i
            go_wp2_with fail
            go_region_law (fail)
            all_goals
              go_wp2_with fail
              have z := res7 YR.out rfl (.int .i64 (3)) (.int .i64 (0)) (.int .i64 (0)) (.int .i64 (l0)) (.int .i64 (-1)) (.int .i64 (l1 % 4294967296)) (.string ⟨#[]⟩)
              have z0 := z.cell (i := 0) rfl
              have z1 := z.cell (i := 1) rfl
              have z2 := z.cell (i := 2) rfl
              have z3 := z.cell (i := 3) rfl
              have z4 := z.cell (i := 4) rfl
              have z5 := z.cell (i := 5) rfl
              have z6 := z.cell (i := 6) rfl
              refine bodyPost_ret (v := wshR (wsh 3 0 0 l0 (-1) (l1 % 4294967296) ⟨#[]⟩) 0) (by simp [results, Try.results76, go_sem, wshR, wsh, z0, z1, z2, z3, z4, z5, z6]) rfl ?_
              exact ⟨by rw [HW.out], drew_bel' (n := 1) (below7 BW.out (by omega) _ _ _ _ _ _ _)⟩
          · rw [if_neg c4] at HW
            have c5 : 0 ≤ l2 := by omega
            have YR := hid (YRA.out (.cells #[.int .i64 (3), .int .i64 (0), .int .i64 (0), .int .i64 (l0), .int .i64 (l2), .int .i64 (l1 % 4294967296), .string ⟨#[]⟩] 142))
            have BW := hid (BWA.out (.cells #[.int .i64 (3), .int .i64 (0), .int .i64 (0), .int .i64 (l0), .int .i64 (l2), .int .i64 (l1 % 4294967296), .string ⟨#[]⟩] 142))
            have YQ := hid (YRA.out (.cells #[.int .i64 (3), .int .i64 (0), .int .i64 (0), .int .i64 (l0), .int .i64 (l2), .int .i64 (l1 % 4294967296), .string ⟨#[]⟩] 142))
            have y0 := YR.out.cell (i := 0) rfl
            have y1 := YR.out.cell (i := 1) rfl
            have y2 := YR.out.cell (i := 2) rfl
            have y3 := YR.out.cell (i := 3) rfl
            have y4 := YR.out.cell (i := 4) rfl
            have y5 := YR.out.cell (i := 5) rfl
            have y6 := YR.out.cell (i := 6) rfl
            have yf := fun i => YR.out.free i
            have q0 := YQ.out.cell (i := 0) rfl
            have q1 := YQ.out.cell (i := 1) rfl
            have q2 := YQ.out.cell (i := 2) rfl
            have q3 := YQ.out.cell (i := 3) rfl
            have q4 := YQ.out.cell (i := 4) rfl
            have q5 := YQ.out.cell (i := 5) rfl
            have q6 := YQ.out.cell (i := 6) rfl
            have qf := fun i => YQ.out.free i
            go_wp2_with fail
            go_region_law (fail)
            all_goals
              go_wp2_with fail
              have z := res7 YR.out rfl (.int .i64 (3)) (.int .i64 (0)) (.int .i64 (0)) (.int .i64 (l0)) (.int .i64 (l2)) (.int .i64 (l1 % 4294967296)) (.string ⟨#[]⟩)
              have z0 := z.cell (i := 0) rfl
              have z1 := z.cell (i := 1) rfl
              have z2 := z.cell (i := 2) rfl
              have z3 := z.cell (i := 3) rfl
              have z4 := z.cell (i := 4) rfl
              have z5 := z.cell (i := 5) rfl
              have z6 := z.cell (i := 6) rfl
              refine bodyPost_ret (v := wshR (wsh 3 0 0 l0 (l2) (l1 % 4294967296) ⟨#[]⟩) 0) (by simp [results, Try.results76, go_sem, wshR, wsh, z0, z1, z2, z3, z4, z5, z6]) rfl ?_
              exact ⟨by rw [HW.out], drew_bel' (n := 1) (below7 BW.out (by omega) _ _ _ _ _ _ _)⟩
      · have hl : l.length = 1 := HLF.out
        obtain ⟨g1, cap1, rfl, hb1, hx1, hc1, hm1, HC1⟩ := row_cells' O1.out hl (by decide)
        obtain ⟨g2, cap2, rfl, hb2, hx2, hc2, hm2, HC2⟩ := row_cells' O2.out ((modL_len l).trans hl) (by decide)
        have HG1 := hid hx1
        have HG2 := hid hx2
        clear hb1 hx1 hb2 hx2 hl
        have a0 := HC1.out 0 (by decide) (wr.alloc (.cells #[.int .i64 (4), .int .i64 (0), .int .i64 (0), .int .i64 (0), .int .i64 (0), .int .i64 (0), .string ⟨#[]⟩] 142)) (AL.out _)
        have b0 := HC2.out 0 (by decide) (wr.alloc (.cells #[.int .i64 (4), .int .i64 (0), .int .i64 (0), .int .i64 (0), .int .i64 (0), .int .i64 (0), .string ⟨#[]⟩] 142)) (AL.out _)
        rw [modL_getD] at b0
        have hp0 : 0 ≤ l.getD 0 0 % 4294967296 := by omega
        have HBD0 := HBD.out 0
        have HQ := hid (fun h => H9.out h)
        clear HBD
        have HW : Hid (hrdV 4 vs mem = wshR (wsh 4 0 0 (l.getD 0 0 % 4294967296) 0 0 ⟨#[]⟩) 0) := hid HV.out
        clear HV
        clear H9 HQ
        generalize l.getD 0 0 = l0 at *
        have YR := hid (YRA.out (.cells #[.int .i64 (4), .int .i64 (0), .int .i64 (0), .int .i64 (l0 % 4294967296), .int .i64 (0), .int .i64 (0), .string ⟨#[]⟩] 142))
        have BW := hid (BWA.out (.cells #[.int .i64 (4), .int .i64 (0), .int .i64 (0), .int .i64 (l0 % 4294967296), .int .i64 (0), .int .i64 (0), .string ⟨#[]⟩] 142))
        have y0 := YR.out.cell (i := 0) rfl
        have y1 := YR.out.cell (i := 1) rfl
        have y2 := YR.out.cell (i := 2) rfl
        have y3 := YR.out.cell (i := 3) rfl
        have y4 := YR.out.cell (i := 4) rfl
        have y5 := YR.out.cell (i := 5) rfl
        have y6 := YR.out.cell (i := 6) rfl
        have yf := fun i => YR.out.free i
        go_wp2_with fail
        have z := res7 YR.out rfl (.int .i64 (4)) (.int .i64 (0)) (.int .i64 (0)) (.int .i64 (l0 % 4294967296)) (.int .i64 (0)) (.int .i64 (0)) (.string ⟨#[]⟩)
        have z0 := z.cell (i := 0) rfl
        have z1 := z.cell (i := 1) rfl
        have z2 := z.cell (i := 2) rfl
        have z3 := z.cell (i := 3) rfl
        have z4 := z.cell (i := 4) rfl
        have z5 := z.cell (i := 5) rfl
        have z6 := z.cell (i := 6) rfl
        refine bodyPost_ret (v := wshR (wsh 4 0 0 (l0 % 4294967296) 0 0 ⟨#[]⟩) 0) (by simp [results, Try.results76, go_sem, wshR, wsh, z0, z1, z2, z3, z4, z5, z6]) rfl ?_
        exact ⟨by rw [HW.out], below7 BW.out (by omega) _ _ _ _ _ _ _⟩
      · have hl : l.length = 1 := HLF.out
        obtain ⟨g1, cap1, rfl, hb1, hx1, hc1, hm1, HC1⟩ := row_cells' O1.out hl (by decide)
        obtain ⟨g2, cap2, rfl, hb2, hx2, hc2, hm2, HC2⟩ := row_cells' O2.out ((modL_len l).trans hl) (by decide)
        have HG1 := hid hx1
        have HG2 := hid hx2
        clear hb1 hx1 hb2 hx2 hl
        have HW : Hid (hrdV 5 vs mem = if pidB (l.getD 0 0) = true then wshR (wsh 5 (l.getD 0 0 % 4294967296 / 256) (l.getD 0 0 % 256) 0 0 0 ⟨#[]⟩) 0 else wshR zeroW 1) := hid HV.out
        clear HV
        have HP := hid (fun w' => hostPid_any (l.getD 0 0) w' (HBD.out 0).1 (HBD.out 0).2)
        have a0 := HC1.out 0 (by decide) (wr.alloc (.cells #[.int .i64 (5), .int .i64 (0), .int .i64 (0), .int .i64 (0), .int .i64 (0), .int .i64 (0), .string ⟨#[]⟩] 142)) (AL.out _)
        have b0 := HC2.out 0 (by decide) (wr.alloc (.cells #[.int .i64 (5), .int .i64 (0), .int .i64 (0), .int .i64 (0), .int .i64 (0), .int .i64 (0), .string ⟨#[]⟩] 142)) (AL.out _)
        rw [modL_getD] at b0
        clear H9 HBD
        generalize l.getD 0 0 = l0 at *
        rcases pidB_cases l0 with ⟨hpb, hv⟩ | ⟨hpb, hv⟩
        · rw [hv] at HP
          rw [hpb, if_neg (by decide)] at HW
          clear hv hpb
          have YR := hid (YRA.out (.cells #[.int .i64 (5), .int .i64 (0), .int .i64 (0), .int .i64 (0), .int .i64 (0), .int .i64 (0), .string ⟨#[]⟩] 142))
          have BW := hid (BWA.out (.cells #[.int .i64 (5), .int .i64 (0), .int .i64 (0), .int .i64 (0), .int .i64 (0), .int .i64 (0), .string ⟨#[]⟩] 142))
          have XW := hid (Blk.new wr #[.int .i64 (5), .int .i64 (0), .int .i64 (0), .int .i64 (0), .int .i64 (0), .int .i64 (0), .string ⟨#[]⟩] 142 _ rfl)
          go_wp2_with fail
          refine (HP.out _).mono ?_
          rintro e w4 ⟨rfl, hb4⟩
          have Y4 := hid (YR.out.below hb4)
          have X4 := hid (XW.out.below hb4)
          have B4 := hid (BW.out.trans (hb4.mono BW.out.size))
          clear hb4
          have y0 := Y4.out.cell (i := 0) rfl
          have y1 := Y4.out.cell (i := 1) rfl
          have y2 := Y4.out.cell (i := 2) rfl
          have y3 := Y4.out.cell (i := 3) rfl
          have y4 := Y4.out.cell (i := 4) rfl
          have y5 := Y4.out.cell (i := 5) rfl
          have y6 := Y4.out.cell (i := 6) rfl
          have yf := fun i => Y4.out.free i
          have v0 := X4.out.cell (i := 0) rfl
          have v1 := X4.out.cell (i := 1) rfl
          have v2 := X4.out.cell (i := 2) rfl
          have v3 := X4.out.cell (i := 3) rfl
          have v4 := X4.out.cell (i := 4) rfl
          have v5 := X4.out.cell (i := 5) rfl
          have v6 := X4.out.cell (i := 6) rfl
          have vf := fun i => X4.out.free i
          have hn1 : ¬ (wr.heap.size = w.heap.size) := by have := HH.out; omega
          have hn2 : ¬ (w.heap.size = wr.heap.size) := by have := HH.out; omega
          go_wp2_with fail
          have Y5 := hid ((Y4.out.other (a := ⟨wr.heap.size, 1, none⟩) (by have := HH.out; simp; omega) (.int .i64 0)).other (a := ⟨wr.heap.size, 2, none⟩) (by have := HH.out; simp; omega) (.int .i64 0))
          have B5 := hid (below_setc (b := wr.heap.size) (i := 2) (below_setc (b := wr.heap.size) (i := 1) B4.out (Nat.le_of_lt HH.out) (.int .i64 0)) (Nat.le_of_lt HH.out) (.int .i64 0))
          have z := res7 Y5.out rfl (.int .i64 0) (.int .i64 0) (.int .i64 0) (.int .i64 0) (.int .i64 0) (.int .i64 0) (.string ⟨#[]⟩)
          have z0 := z.cell (i := 0) rfl
          have z1 := z.cell (i := 1) rfl
          have z2 := z.cell (i := 2) rfl
          have z3 := z.cell (i := 3) rfl
          have z4 := z.cell (i := 4) rfl
          have z5 := z.cell (i := 5) rfl
          have z6 := z.cell (i := 6) rfl
          refine bodyPost_ret (v := wshR zeroW 1) (by simp [results, Try.results76, go_sem, wshR, zeroW, wsh, z0, z1, z2, z3, z4, z5, z6]) rfl ?_
          exact ⟨by rw [HW.out], below7 B5.out (by omega) _ _ _ _ _ _ _⟩
        · rw [hv] at HP
          rw [hpb, if_pos rfl] at HW
          clear hv hpb
          have YR := hid (YRA.out (.cells #[.int .i64 (5), .int .i64 (0), .int .i64 (0), .int .i64 (0), .int .i64 (0), .int .i64 (0), .string ⟨#[]⟩] 142))
          have BW := hid (BWA.out (.cells #[.int .i64 (5), .int .i64 (0), .int .i64 (0), .int .i64 (0), .int .i64 (0), .int .i64 (0), .string ⟨#[]⟩] 142))
          have XW := hid (Blk.new wr #[.int .i64 (5), .int .i64 (0), .int .i64 (0), .int .i64 (0), .int .i64 (0), .int .i64 (0), .string ⟨#[]⟩] 142 _ rfl)
          go_wp2_with fail
          refine (HP.out _).mono ?_
          rintro e w4 ⟨rfl, hb4⟩
          have Y4 := hid (YR.out.below hb4)
          have X4 := hid (XW.out.below hb4)
          have B4 := hid (BW.out.trans (hb4.mono BW.out.size))
          clear hb4
          have y0 := Y4.out.cell (i := 0) rfl
          have y1 := Y4.out.cell (i := 1) rfl
          have y2 := Y4.out.cell (i := 2) rfl
          have y3 := Y4.out.cell (i := 3) rfl
          have y4 := Y4.out.cell (i := 4) rfl
          have y5 := Y4.out.cell (i := 5) rfl
          have y6 := Y4.out.cell (i := 6) rfl
          have yf := fun i => Y4.out.free i
          have v0 := X4.out.cell (i := 0) rfl
          have v1 := X4.out.cell (i := 1) rfl
          have v2 := X4.out.cell (i := 2) rfl
          have v3 := X4.out.cell (i := 3) rfl
          have v4 := X4.out.cell (i := 4) rfl
          have v5 := X4.out.cell (i := 5) rfl
          have v6 := X4.out.cell (i := 6) rfl
          have vf := fun i => X4.out.free i
          have hn1 : ¬ (wr.heap.size = w.heap.size) := by have := HH.out; omega
          have hn2 : ¬ (w.heap.size = wr.heap.size) := by have := HH.out; omega
          go_wp2_with fail
          have Y5 := hid ((Y4.out.other (a := ⟨wr.heap.size, 1, none⟩) (by have := HH.out; simp; omega) (.int .i64 (l0 % 4294967296 / 256))).other (a := ⟨wr.heap.size, 2, none⟩) (by have := HH.out; simp; omega) (.int .i64 (l0 % 256)))
          have B5 := hid (below_setc (b := wr.heap.size) (i := 2) (below_setc (b := wr.heap.size) (i := 1) B4.out (Nat.le_of_lt HH.out) (.int .i64 (l0 % 4294967296 / 256))) (Nat.le_of_lt HH.out) (.int .i64 (l0 % 256)))
          have z := res7 Y5.out rfl (.int .i64 (5)) (.int .i64 (l0 % 4294967296 / 256)) (.int .i64 (l0 % 256)) (.int .i64 0) (.int .i64 0) (.int .i64 0) (.string ⟨#[]⟩)
          have z0 := z.cell (i := 0) rfl
          have z1 := z.cell (i := 1) rfl
          have z2 := z.cell (i := 2) rfl
          have z3 := z.cell (i := 3) rfl
          have z4 := z.cell (i := 4) rfl
          have z5 := z.cell (i := 5) rfl
          have z6 := z.cell (i := 6) rfl
          refine bodyPost_ret (v := wshR (wsh 5 (l0 % 4294967296 / 256) (l0 % 256) 0 0 0 ⟨#[]⟩) 0) (by simp [results, Try.results76, go_sem, wshR, wsh, z0, z1, z2, z3, z4, z5, z6]) rfl ?_
          exact ⟨by rw [HW.out], below7 B5.out (by omega) _ _ _ _ _ _ _⟩
      · have hl : l.length = 1 := HLF.out
        obtain ⟨g1, cap1, rfl, hb1, hx1, hc1, hm1, HC1⟩ := row_cells' O1.out hl (by decide)
        obtain ⟨g2, cap2, rfl, hb2, hx2, hc2, hm2, HC2⟩ := row_cells' O2.out ((modL_len l).trans hl) (by decide)
        have HG1 := hid hx1
        have HG2 := hid hx2
        clear hb1 hx1 hb2 hx2 hl
        have HW : Hid (hrdV 6 vs mem = if pidB (l.getD 0 0) = true then wshR (wsh 6 (l.getD 0 0 % 4294967296 / 256) (l.getD 0 0 % 256) 0 0 0 ⟨#[]⟩) 0 else wshR zeroW 1) := hid HV.out
        clear HV
        have HP := hid (fun w' => hostPid_any (l.getD 0 0) w' (HBD.out 0).1 (HBD.out 0).2)
        have a0 := HC1.out 0 (by decide) (wr.alloc (.cells #[.int .i64 (6), .int .i64 (0), .int .i64 (0), .int .i64 (0), .int .i64 (0), .int .i64 (0), .string ⟨#[]⟩] 142)) (AL.out _)
        have b0 := HC2.out 0 (by decide) (wr.alloc (.cells #[.int .i64 (6), .int .i64 (0), .int .i64 (0), .int .i64 (0), .int .i64 (0), .int .i64 (0), .string ⟨#[]⟩] 142)) (AL.out _)
        rw [modL_getD] at b0
        clear H9 HBD
        generalize l.getD 0 0 = l0 at *
        rcases pidB_cases l0 with ⟨hpb, hv⟩ | ⟨hpb, hv⟩
        · rw [hv] at HP
          rw [hpb, if_neg (by decide)] at HW
          clear hv hpb
          have YR := hid (YRA.out (.cells #[.int .i64 (6), .int .i64 (0), .int .i64 (0), .int .i64 (0), .int .i64 (0), .int .i64 (0), .string ⟨#[]⟩] 142))
          have BW := hid (BWA.out (.cells #[.int .i64 (6), .int .i64 (0), .int .i64 (0), .int .i64 (0), .int .i64 (0), .int .i64 (0), .string ⟨#[]⟩] 142))
          have XW := hid (Blk.new wr #[.int .i64 (6), .int .i64 (0), .int .i64 (0), .int .i64 (0), .int .i64 (0), .int .i64 (0), .string ⟨#[]⟩] 142 _ rfl)
          go_wp2_with fail
          refine (HP.out _).mono ?_
          rintro e w4 ⟨rfl, hb4⟩
          have Y4 := hid (YR.out.below hb4)
          have X4 := hid (XW.out.below hb4)
          have B4 := hid (BW.out.trans (hb4.mono BW.out.size))
          clear hb4
          have y0 := Y4.out.cell (i := 0) rfl
          have y1 := Y4.out.cell (i := 1) rfl
          have y2 := Y4.out.cell (i := 2) rfl
          have y3 := Y4.out.cell (i := 3) rfl
          have y4 := Y4.out.cell (i := 4) rfl
          have y5 := Y4.out.cell (i := 5) rfl
          have y6 := Y4.out.cell (i := 6) rfl
          have yf := fun i => Y4.out.free i
          have v0 := X4.out.cell (i := 0) rfl
          have v1 := X4.out.cell (i := 1) rfl
          have v2 := X4.out.cell (i := 2) rfl
          have v3 := X4.out.cell (i := 3) rfl
          have v4 := X4.out.cell (i := 4) rfl
          have v5 := X4.out.cell (i := 5) rfl
          have v6 := X4.out.cell (i := 6) rfl
          have vf := fun i => X4.out.free i
          have hn1 : ¬ (wr.heap.size = w.heap.size) := by have := HH.out; omega
          have hn2 : ¬ (w.heap.size = wr.heap.size) := by have := HH.out; omega
          go_wp2_with fail
          have Y5 := hid ((Y4.out.other (a := ⟨wr.heap.size, 1, none⟩) (by have := HH.out; simp; omega) (.int .i64 0)).other (a := ⟨wr.heap.size, 2, none⟩) (by have := HH.out; simp; omega) (.int .i64 0))
          have B5 := hid (below_setc (b := wr.heap.size) (i := 2) (below_setc (b := wr.heap.size) (i := 1) B4.out (Nat.le_of_lt HH.out) (.int .i64 0)) (Nat.le_of_lt HH.out) (.int .i64 0))
          have z := res7 Y5.out rfl (.int .i64 0) (.int .i64 0) (.int .i64 0) (.int .i64 0) (.int .i64 0) (.int .i64 0) (.string ⟨#[]⟩)
          have z0 := z.cell (i := 0) rfl
          have z1 := z.cell (i := 1) rfl
          have z2 := z.cell (i := 2) rfl
          have z3 := z.cell (i := 3) rfl
          have z4 := z.cell (i := 4) rfl
          have z5 := z.cell (i := 5) rfl
          have z6 := z.cell (i := 6) rfl
          refine bodyPost_ret (v := wshR zeroW 1) (by simp [results, Try.results76, go_sem, wshR, zeroW, wsh, z0, z1, z2, z3, z4, z5, z6]) rfl ?_
          exact ⟨by rw [HW.out], below7 B5.out (by omega) _ _ _ _ _ _ _⟩
        · rw [hv] at HP
          rw [hpb, if_pos rfl] at HW
          clear hv hpb
          have YR := hid (YRA.out (.cells #[.int .i64 (6), .int .i64 (0), .int .i64 (0), .int .i64 (0), .int .i64 (0), .int .i64 (0), .string ⟨#[]⟩] 142))
          have BW := hid (BWA.out (.cells #[.int .i64 (6), .int .i64 (0), .int .i64 (0), .int .i64 (0), .int .i64 (0), .int .i64 (0), .string ⟨#[]⟩] 142))
          have XW := hid (Blk.new wr #[.int .i64 (6), .int .i64 (0), .int .i64 (0), .int .i64 (0), .int .i64 (0), .int .i64 (0), .string ⟨#[]⟩] 142 _ rfl)
          go_wp2_with fail
          refine (HP.out _).mono ?_
          rintro e w4 ⟨rfl, hb4⟩
          have Y4 := hid (YR.out.below hb4)
          have X4 := hid (XW.out.below hb4)
          have B4 := hid (BW.out.trans (hb4.mono BW.out.size))
          clear hb4
          have y0 := Y4.out.cell (i := 0) rfl
          have y1 := Y4.out.cell (i := 1) rfl
          have y2 := Y4.out.cell (i := 2) rfl
          have y3 := Y4.out.cell (i := 3) rfl
          have y4 := Y4.out.cell (i := 4) rfl
          have y5 := Y4.out.cell (i := 5) rfl
          have y6 := Y4.out.cell (i := 6) rfl
          have yf := fun i => Y4.out.free i
          have v0 := X4.out.cell (i := 0) rfl
          have v1 := X4.out.cell (i := 1) rfl
          have v2 := X4.out.cell (i := 2) rfl
          have v3 := X4.out.cell (i := 3) rfl
          have v4 := X4.out.cell (i := 4) rfl
          have v5 := X4.out.cell (i := 5) rfl
          have v6 := X4.out.cell (i := 6) rfl
          have vf := fun i => X4.out.free i
          have hn1 : ¬ (wr.heap.size = w.heap.size) := by have := HH.out; omega
          have hn2 : ¬ (w.heap.size = wr.heap.size) := by have := HH.out; omega
          go_wp2_with fail
          have Y5 := hid ((Y4.out.other (a := ⟨wr.heap.size, 1, none⟩) (by have := HH.out; simp; omega) (.int .i64 (l0 % 4294967296 / 256))).other (a := ⟨wr.heap.size, 2, none⟩) (by have := HH.out; simp; omega) (.int .i64 (l0 % 256)))
          have B5 := hid (below_setc (b := wr.heap.size) (i := 2) (below_setc (b := wr.heap.size) (i := 1) B4.out (Nat.le_of_lt HH.out) (.int .i64 (l0 % 4294967296 / 256))) (Nat.le_of_lt HH.out) (.int .i64 (l0 % 256)))
          have z := res7 Y5.out rfl (.int .i64 (6)) (.int .i64 (l0 % 4294967296 / 256)) (.int .i64 (l0 % 256)) (.int .i64 0) (.int .i64 0) (.int .i64 0) (.string ⟨#[]⟩)
          have z0 := z.cell (i := 0) rfl
          have z1 := z.cell (i := 1) rfl
          have z2 := z.cell (i := 2) rfl
          have z3 := z.cell (i := 3) rfl
          have z4 := z.cell (i := 4) rfl
          have z5 := z.cell (i := 5) rfl
          have z6 := z.cell (i := 6) rfl
          refine bodyPost_ret (v := wshR (wsh 6 (l0 % 4294967296 / 256) (l0 % 256) 0 0 0 ⟨#[]⟩) 0) (by simp [results, Try.results76, go_sem, wshR, wsh, z0, z1, z2, z3, z4, z5, z6]) rfl ?_
          exact ⟨by rw [HW.out], below7 B5.out (by omega) _ _ _ _ _ _ _⟩
      · have hl : l.length = 1 := HLF.out
        obtain ⟨g1, cap1, rfl, hb1, hx1, hc1, hm1, HC1⟩ := row_cells' O1.out hl (by decide)
        obtain ⟨g2, cap2, rfl, hb2, hx2, hc2, hm2, HC2⟩ := row_cells' O2.out ((modL_len l).trans hl) (by decide)
        have HG1 := hid hx1
        have HG2 := hid hx2
        clear hb1 hx1 hb2 hx2 hl
        have HW : Hid (hrdV 7 vs mem = if pidB (l.getD 0 0) = true then wshR (wsh 7 (l.getD 0 0 % 4294967296 / 256) (l.getD 0 0 % 256) 0 0 0 ⟨#[]⟩) 0 else wshR zeroW 1) := hid HV.out
        clear HV
        have HP := hid (fun w' => hostPid_any (l.getD 0 0) w' (HBD.out 0).1 (HBD.out 0).2)
        have a0 := HC1.out 0 (by decide) (wr.alloc (.cells #[.int .i64 (7), .int .i64 (0), .int .i64 (0), .int .i64 (0), .int .i64 (0), .int .i64 (0), .string ⟨#[]⟩] 142)) (AL.out _)
        have b0 := HC2.out 0 (by decide) (wr.alloc (.cells #[.int .i64 (7), .int .i64 (0), .int .i64 (0), .int .i64 (0), .int .i64 (0), .int .i64 (0), .string ⟨#[]⟩] 142)) (AL.out _)
        rw [modL_getD] at b0
        clear H9 HBD
        generalize l.getD 0 0 = l0 at *
        rcases pidB_cases l0 with ⟨hpb, hv⟩ | ⟨hpb, hv⟩
        · rw [hv] at HP
          rw [hpb, if_neg (by decide)] at HW
          clear hv hpb
          have YR := hid (YRA.out (.cells #[.int .i64 (7), .int .i64 (0), .int .i64 (0), .int .i64 (0), .int .i64 (0), .int .i64 (0), .string ⟨#[]⟩] 142))
          have BW := hid (BWA.out (.cells #[.int .i64 (7), .int .i64 (0), .int .i64 (0), .int .i64 (0), .int .i64 (0), .int .i64 (0), .string ⟨#[]⟩] 142))
          have XW := hid (Blk.new wr #[.int .i64 (7), .int .i64 (0), .int .i64 (0), .int .i64 (0), .int .i64 (0), .int .i64 (0), .string ⟨#[]⟩] 142 _ rfl)
          go_wp2_with fail
          refine (HP.out _).mono ?_
          rintro e w4 ⟨rfl, hb4⟩
          have Y4 := hid (YR.out.below hb4)
          have X4 := hid (XW.out.below hb4)
          have B4 := hid (BW.out.trans (hb4.mono BW.out.size))
          clear hb4
          have y0 := Y4.out.cell (i := 0) rfl
          have y1 := Y4.out.cell (i := 1) rfl
          have y2 := Y4.out.cell (i := 2) rfl
          have y3 := Y4.out.cell (i := 3) rfl
          have y4 := Y4.out.cell (i := 4) rfl
          have y5 := Y4.out.cell (i := 5) rfl
          have y6 := Y4.out.cell (i := 6) rfl
          have yf := fun i => Y4.out.free i
          have v0 := X4.out.cell (i := 0) rfl
          have v1 := X4.out.cell (i := 1) rfl
          have v2 := X4.out.cell (i := 2) rfl
          have v3 := X4.out.cell (i := 3) rfl
          have v4 := X4.out.cell (i := 4) rfl
          have v5 := X4.out.cell (i := 5) rfl
          have v6 := X4.out.cell (i := 6) rfl
          have vf := fun i => X4.out.free i
          have hn1 : ¬ (wr.heap.size = w.heap.size) := by have := HH.out; omega
          have hn2 : ¬ (w.heap.size = wr.heap.size) := by have := HH.out; omega
          go_wp2_with fail
          have Y5 := hid ((Y4.out.other (a := ⟨wr.heap.size, 1, none⟩) (by have := HH.out; simp; omega) (.int .i64 0)).other (a := ⟨wr.heap.size, 2, none⟩) (by have := HH.out; simp; omega) (.int .i64 0))
          have B5 := hid (below_setc (b := wr.heap.size) (i := 2) (below_setc (b := wr.heap.size) (i := 1) B4.out (Nat.le_of_lt HH.out) (.int .i64 0)) (Nat.le_of_lt HH.out) (.int .i64 0))
          have z := res7 Y5.out rfl (.int .i64 0) (.int .i64 0) (.int .i64 0) (.int .i64 0) (.int .i64 0) (.int .i64 0) (.string ⟨#[]⟩)
          have z0 := z.cell (i := 0) rfl
          have z1 := z.cell (i := 1) rfl
          have z2 := z.cell (i := 2) rfl
          have z3 := z.cell (i := 3) rfl
          have z4 := z.cell (i := 4) rfl
          have z5 := z.cell (i := 5) rfl
          have z6 := z.cell (i := 6) rfl
          refine bodyPost_ret (v := wshR zeroW 1) (by simp [results, Try.results76, go_sem, wshR, zeroW, wsh, z0, z1, z2, z3, z4, z5, z6]) rfl ?_
          exact ⟨by rw [HW.out], below7 B5.out (by omega) _ _ _ _ _ _ _⟩
        · rw [hv] at HP
          rw [hpb, if_pos rfl] at HW
          clear hv hpb
          have YR := hid (YRA.out (.cells #[.int .i64 (7), .int .i64 (0), .int .i64 (0), .int .i64 (0), .int .i64 (0), .int .i64 (0), .string ⟨#[]⟩] 142))
          have BW := hid (BWA.out (.cells #[.int .i64 (7), .int .i64 (0), .int .i64 (0), .int .i64 (0), .int .i64 (0), .int .i64 (0), .string ⟨#[]⟩] 142))
          have XW := hid (Blk.new wr #[.int .i64 (7), .int .i64 (0), .int .i64 (0), .int .i64 (0), .int .i64 (0), .int .i64 (0), .string ⟨#[]⟩] 142 _ rfl)
          go_wp2_with fail
          refine (HP.out _).mono ?_
          rintro e w4 ⟨rfl, hb4⟩
          have Y4 := hid (YR.out.below hb4)
          have X4 := hid (XW.out.below hb4)
          have B4 := hid (BW.out.trans (hb4.mono BW.out.size))
          clear hb4
          have y0 := Y4.out.cell (i := 0) rfl
          have y1 := Y4.out.cell (i := 1) rfl
          have y2 := Y4.out.cell (i := 2) rfl
          have y3 := Y4.out.cell (i := 3) rfl
          have y4 := Y4.out.cell (i := 4) rfl
          have y5 := Y4.out.cell (i := 5) rfl
          have y6 := Y4.out.cell (i := 6) rfl
          have yf := fun i => Y4.out.free i
          have v0 := X4.out.cell (i := 0) rfl
          have v1 := X4.out.cell (i := 1) rfl
          have v2 := X4.out.cell (i := 2) rfl
          have v3 := X4.out.cell (i := 3) rfl
          have v4 := X4.out.cell (i := 4) rfl
          have v5 := X4.out.cell (i := 5) rfl
          have v6 := X4.out.cell (i := 6) rfl
          have vf := fun i => X4.out.free i
          have hn1 : ¬ (wr.heap.size = w.heap.size) := by have := HH.out; omega
          have hn2 : ¬ (w.heap.size = wr.heap.size) := by have := HH.out; omega
          go_wp2_with fail
          have Y5 := hid ((Y4.out.other (a := ⟨wr.heap.size, 1, none⟩) (by have := HH.out; simp; omega) (.int .i64 (l0 % 4294967296 / 256))).other (a := ⟨wr.heap.size, 2, none⟩) (by have := HH.out; simp; omega) (.int .i64 (l0 % 256)))
          have B5 := hid (below_setc (b := wr.heap.size) (i := 2) (below_setc (b := wr.heap.size) (i := 1) B4.out (Nat.le_of_lt HH.out) (.int .i64 (l0 % 4294967296 / 256))) (Nat.le_of_lt HH.out) (.int .i64 (l0 % 256)))
          have z := res7 Y5.out rfl (.int .i64 (7)) (.int .i64 (l0 % 4294967296 / 256)) (.int .i64 (l0 % 256)) (.int .i64 0) (.int .i64 0) (.int .i64 0) (.string ⟨#[]⟩)
          have z0 := z.cell (i := 0) rfl
          have z1 := z.cell (i := 1) rfl
          have z2 := z.cell (i := 2) rfl
          have z3 := z.cell (i := 3) rfl
          have z4 := z.cell (i := 4) rfl
          have z5 := z.cell (i := 5) rfl
          have z6 := z.cell (i := 6) rfl
          refine bodyPost_ret (v := wshR (wsh 7 (l0 % 4294967296 / 256) (l0 % 256) 0 0 0 ⟨#[]⟩) 0) (by simp [results, Try.results76, go_sem, wshR, wsh, z0, z1, z2, z3, z4, z5, z6]) rfl ?_
          exact ⟨by rw [HW.out], below7 B5.out (by omega) _ _ _ _ _ _ _⟩
      · have hl : l.length = 1 := HLF.out
        obtain ⟨g1, cap1, rfl, hb1, hx1, hc1, hm1, HC1⟩ := row_cells' O1.out hl (by decide)
        obtain ⟨g2, cap2, rfl, hb2, hx2, hc2, hm2, HC2⟩ := row_cells' O2.out ((modL_len l).trans hl) (by decide)
        have HG1 := hid hx1
        have HG2 := hid hx2
        clear hb1 hx1 hb2 hx2 hl
        have a0 := HC1.out 0 (by decide) (wr.alloc (.cells #[.int .i64 (8), .int .i64 (0), .int .i64 (0), .int .i64 (0), .int .i64 (0), .int .i64 (0), .string ⟨#[]⟩] 142)) (AL.out _)
        have b0 := HC2.out 0 (by decide) (wr.alloc (.cells #[.int .i64 (8), .int .i64 (0), .int .i64 (0), .int .i64 (0), .int .i64 (0), .int .i64 (0), .string ⟨#[]⟩] 142)) (AL.out _)
        rw [modL_getD] at b0
        have hp0 : 0 ≤ l.getD 0 0 % 4294967296 := by omega
        have HBD0 := HBD.out 0
        have HQ := hid (fun h => H9.out h)
        clear HBD
        have HW : Hid (hrdV 8 vs mem = wshR (wsh 8 0 0 (l.getD 0 0 % 256) 0 0 ⟨#[]⟩) 0) := hid HV.out
        clear HV
        have m1 : l.getD 0 0 % 4294967296 % 256 = l.getD 0 0 % 256 := by omega
        clear H9 HQ
        generalize l.getD 0 0 = l0 at *
        have YR := hid (YRA.out (.cells #[.int .i64 (8), .int .i64 (0), .int .i64 (0), .int .i64 (l0 % 256), .int .i64 (0), .int .i64 (0), .string ⟨#[]⟩] 142))
        have BW := hid (BWA.out (.cells #[.int .i64 (8), .int .i64 (0), .int .i64 (0), .int .i64 (l0 % 256), .int .i64 (0), .int .i64 (0), .string ⟨#[]⟩] 142))
        have y0 := YR.out.cell (i := 0) rfl
        have y1 := YR.out.cell (i := 1) rfl
        have y2 := YR.out.cell (i := 2) rfl
        have y3 := YR.out.cell (i := 3) rfl
        have y4 := YR.out.cell (i := 4) rfl
        have y5 := YR.out.cell (i := 5) rfl
        have y6 := YR.out.cell (i := 6) rfl
        have yf := fun i => YR.out.free i
        go_wp2_with fail
        have z := res7 YR.out rfl (.int .i64 (8)) (.int .i64 (0)) (.int .i64 (0)) (.int .i64 (l0 % 256)) (.int .i64 (0)) (.int .i64 (0)) (.string ⟨#[]⟩)
        have z0 := z.cell (i := 0) rfl
        have z1 := z.cell (i := 1) rfl
        have z2 := z.cell (i := 2) rfl
        have z3 := z.cell (i := 3) rfl
        have z4 := z.cell (i := 4) rfl
        have z5 := z.cell (i := 5) rfl
        have z6 := z.cell (i := 6) rfl
        refine bodyPost_ret (v := wshR (wsh 8 0 0 (l0 % 256) 0 0 ⟨#[]⟩) 0) (by simp [results, Try.results76, go_sem, wshR, wsh, z0, z1, z2, z3, z4, z5, z6]) rfl ?_
        exact ⟨by rw [HW.out], below7 BW.out (by omega) _ _ _ _ _ _ _⟩
      · have hl : l.length = 1 := HLF.out
        obtain ⟨g1, cap1, rfl, hb1, hx1, hc1, hm1, HC1⟩ := row_cells' O1.out hl (by decide)
        obtain ⟨g2, cap2, rfl, hb2, hx2, hc2, hm2, HC2⟩ := row_cells' O2.out ((modL_len l).trans hl) (by decide)
        have HG1 := hid hx1
        have HG2 := hid hx2
        clear hb1 hx1 hb2 hx2 hl
        have a0 := HC1.out 0 (by decide) (wr.alloc (.cells #[.int .i64 (9), .int .i64 (0), .int .i64 (0), .int .i64 (0), .int .i64 (0), .int .i64 (0), .string ⟨#[]⟩] 142)) (AL.out _)
        have b0 := HC2.out 0 (by decide) (wr.alloc (.cells #[.int .i64 (9), .int .i64 (0), .int .i64 (0), .int .i64 (0), .int .i64 (0), .int .i64 (0), .string ⟨#[]⟩] 142)) (AL.out _)
        rw [modL_getD] at b0
        have hp0 : 0 ≤ l.getD 0 0 % 4294967296 := by omega
        have HBD0 := HBD.out 0
        have HQ := hid (fun h => H9.out h)
        clear HBD
        have h9 := H9.out rfl
        by_cases hz : l.getD 0 0 = 0
        · have hz2 : (l.getD 0 0 != 0) = false := by rw [hz]; rfl
          have hv9 : hrdV 9 vs mem = wshR (wsh 9 0 0 (if l.getD 0 0 % 4294967296 = 0 then 0 else 1) 0 0 ⟨#[]⟩) 0 := HV.out
          rw [if_pos (by rw [hz]; rfl)] at hv9
          have HW : Hid (hrdV 9 vs mem = wshR (wsh 9 0 0 (0) 0 0 ⟨#[]⟩) 0) := hid hv9
          clear HV
          clear hv9 hz h9
          have HT := hid (fun b w' => rtruth_any b w')
          clear H9 HQ
          generalize l.getD 0 0 = l0 at *
          have YR := hid (YRA.out (.cells #[.int .i64 (9), .int .i64 (0), .int .i64 (0), .int .i64 (0), .int .i64 (0), .int .i64 (0), .string ⟨#[]⟩] 142))
          have BW := hid (BWA.out (.cells #[.int .i64 (9), .int .i64 (0), .int .i64 (0), .int .i64 (0), .int .i64 (0), .int .i64 (0), .string ⟨#[]⟩] 142))
          have y0 := YR.out.cell (i := 0) rfl
          have y1 := YR.out.cell (i := 1) rfl
          have y2 := YR.out.cell (i := 2) rfl
          have y3 := YR.out.cell (i := 3) rfl
          have y4 := YR.out.cell (i := 4) rfl
          have y5 := YR.out.cell (i := 5) rfl
          have y6 := YR.out.cell (i := 6) rfl
          have yf := fun i => YR.out.free i
          go_wp2_with (go_at_call 148; refine (HT.out _ _).mono ?_; rintro e w9 ⟨rfl, rfl⟩)
          have z := res7 YR.out rfl (.int .i64 (9)) (.int .i64 (0)) (.int .i64 (0)) (.int .i64 (0)) (.int .i64 (0)) (.int .i64 (0)) (.string ⟨#[]⟩)
          have z0 := z.cell (i := 0) rfl
          have z1 := z.cell (i := 1) rfl
          have z2 := z.cell (i := 2) rfl
          have z3 := z.cell (i := 3) rfl
          have z4 := z.cell (i := 4) rfl
          have z5 := z.cell (i := 5) rfl
          have z6 := z.cell (i := 6) rfl
          refine bodyPost_ret (v := wshR (wsh 9 0 0 (0) 0 0 ⟨#[]⟩) 0) (by simp [results, Try.results76, go_sem, wshR, wsh, z0, z1, z2, z3, z4, z5, z6]) rfl ?_
          exact ⟨by rw [HW.out], below7 BW.out (by omega) _ _ _ _ _ _ _⟩
        · have hz2 : (l.getD 0 0 != 0) = true := by rw [bne_iff_ne]; exact hz
          have hv9 : hrdV 9 vs mem = wshR (wsh 9 0 0 (if l.getD 0 0 % 4294967296 = 0 then 0 else 1) 0 0 ⟨#[]⟩) 0 := HV.out
          rw [if_neg (by omega)] at hv9
          have HW : Hid (hrdV 9 vs mem = wshR (wsh 9 0 0 (1) 0 0 ⟨#[]⟩) 0) := hid hv9
          clear HV
          clear hv9 hz h9
          have HT := hid (fun b w' => rtruth_any b w')
          clear H9 HQ
          generalize l.getD 0 0 = l0 at *
          have YR := hid (YRA.out (.cells #[.int .i64 (9), .int .i64 (0), .int .i64 (0), .int .i64 (1), .int .i64 (0), .int .i64 (0), .string ⟨#[]⟩] 142))
          have BW := hid (BWA.out (.cells #[.int .i64 (9), .int .i64 (0), .int .i64 (0), .int .i64 (1), .int .i64 (0), .int .i64 (0), .string ⟨#[]⟩] 142))
          have y0 := YR.out.cell (i := 0) rfl
          have y1 := YR.out.cell (i := 1) rfl
          have y2 := YR.out.cell (i := 2) rfl
          have y3 := YR.out.cell (i := 3) rfl
          have y4 := YR.out.cell (i := 4) rfl
          have y5 := YR.out.cell (i := 5) rfl
          have y6 := YR.out.cell (i := 6) rfl
          have yf := fun i => YR.out.free i
          go_wp2_with (go_at_call 148; refine (HT.out _ _).mono ?_; rintro e w9 ⟨rfl, rfl⟩)
          have z := res7 YR.out rfl (.int .i64 (9)) (.int .i64 (0)) (.int .i64 (0)) (.int .i64 (1)) (.int .i64 (0)) (.int .i64 (0)) (.string ⟨#[]⟩)
          have z0 := z.cell (i := 0) rfl
          have z1 := z.cell (i := 1) rfl
          have z2 := z.cell (i := 2) rfl
          have z3 := z.cell (i := 3) rfl
          have z4 := z.cell (i := 4) rfl
          have z5 := z.cell (i := 5) rfl
          have z6 := z.cell (i := 6) rfl
          refine bodyPost_ret (v := wshR (wsh 9 0 0 (1) 0 0 ⟨#[]⟩) 0) (by simp [results, Try.results76, go_sem, wshR, wsh, z0, z1, z2, z3, z4, z5, z6]) rfl ?_
          exact ⟨by rw [HW.out], below7 BW.out (by omega) _ _ _ _ _ _ _⟩
      · have hl : l.length = 1 := HLF.out
        obtain ⟨g1, cap1, rfl, hb1, hx1, hc1, hm1, HC1⟩ := row_cells' O1.out hl (by decide)
        obtain ⟨g2, cap2, rfl, hb2, hx2, hc2, hm2, HC2⟩ := row_cells' O2.out ((modL_len l).trans hl) (by decide)
        have HG1 := hid hx1
        have HG2 := hid hx2
        clear hb1 hx1 hb2 hx2 hl
        have a0 := HC1.out 0 (by decide) (wr.alloc (.cells #[.int .i64 (10), .int .i64 (0), .int .i64 (0), .int .i64 (0), .int .i64 (0), .int .i64 (0), .string ⟨#[]⟩] 142)) (AL.out _)
        have b0 := HC2.out 0 (by decide) (wr.alloc (.cells #[.int .i64 (10), .int .i64 (0), .int .i64 (0), .int .i64 (0), .int .i64 (0), .int .i64 (0), .string ⟨#[]⟩] 142)) (AL.out _)
        rw [modL_getD] at b0
        have hp0 : 0 ≤ l.getD 0 0 % 4294967296 := by omega
        have HBD0 := HBD.out 0
        have HQ := hid (fun h => H9.out h)
        clear HBD
        have HW : Hid (hrdV 10 vs mem = wshR (wsh 10 0 0 (l.getD 0 0) 0 0 ⟨#[]⟩) 0) := hid HV.out
        clear HV
        clear H9 HQ
        generalize l.getD 0 0 = l0 at *
        have YR := hid (YRA.out (.cells #[.int .i64 (10), .int .i64 (0), .int .i64 (0), .int .i64 (l0), .int .i64 (0), .int .i64 (0), .string ⟨#[]⟩] 142))
        have BW := hid (BWA.out (.cells #[.int .i64 (10), .int .i64 (0), .int .i64 (0), .int .i64 (l0), .int .i64 (0), .int .i64 (0), .string ⟨#[]⟩] 142))
        have y0 := YR.out.cell (i := 0) rfl
        have y1 := YR.out.cell (i := 1) rfl
        have y2 := YR.out.cell (i := 2) rfl
        have y3 := YR.out.cell (i := 3) rfl
        have y4 := YR.out.cell (i := 4) rfl
        have y5 := YR.out.cell (i := 5) rfl
        have y6 := YR.out.cell (i := 6) rfl
        have yf := fun i => YR.out.free i
        go_wp2_with fail
        have z := res7 YR.out rfl (.int .i64 (10)) (.int .i64 (0)) (.int .i64 (0)) (.int .i64 (l0)) (.int .i64 (0)) (.int .i64 (0)) (.string ⟨#[]⟩)
        have z0 := z.cell (i := 0) rfl
        have z1 := z.cell (i := 1) rfl
        have z2 := z.cell (i := 2) rfl
        have z3 := z.cell (i := 3) rfl
        have z4 := z.cell (i := 4) rfl
        have z5 := z.cell (i := 5) rfl
        have z6 := z.cell (i := 6) rfl
        refine bodyPost_ret (v := wshR (wsh 10 0 0 (l0) 0 0 ⟨#[]⟩) 0) (by simp [results, Try.results76, go_sem, wshR, wsh, z0, z1, z2, z3, z4, z5, z6]) rfl ?_
        exact ⟨by rw [HW.out], below7 BW.out (by omega) _ _ _ _ _ _ _⟩
      · have HW : Hid (hrdV 11 vs mem = wshR (wsh 11 0 0 (0) 0 0 ⟨#[]⟩) 0) := hid HV.out
        clear HV
        have YR := hid (YRA.out (.cells #[.int .i64 (11), .int .i64 (0), .int .i64 (0), .int .i64 (0), .int .i64 (0), .int .i64 (0), .string ⟨#[]⟩] 142))
        have BW := hid (BWA.out (.cells #[.int .i64 (11), .int .i64 (0), .int .i64 (0), .int .i64 (0), .int .i64 (0), .int .i64 (0), .string ⟨#[]⟩] 142))
        have y0 := YR.out.cell (i := 0) rfl
        have y1 := YR.out.cell (i := 1) rfl
        have y2 := YR.out.cell (i := 2) rfl
        have y3 := YR.out.cell (i := 3) rfl
        have y4 := YR.out.cell (i := 4) rfl
        have y5 := YR.out.cell (i := 5) rfl
        have y6 := YR.out.cell (i := 6) rfl
        have yf := fun i => YR.out.free i
        go_wp2_with fail
        have z := res7 YR.out rfl (.int .i64 (11)) (.int .i64 (0)) (.int .i64 (0)) (.int .i64 (0)) (.int .i64 (0)) (.int .i64 (0)) (.string ⟨#[]⟩)
        have z0 := z.cell (i := 0) rfl
        have z1 := z.cell (i := 1) rfl
        have z2 := z.cell (i := 2) rfl
        have z3 := z.cell (i := 3) rfl
        have z4 := z.cell (i := 4) rfl
        have z5 := z.cell (i := 5) rfl
        have z6 := z.cell (i := 6) rfl
        refine bodyPost_ret (v := wshR (wsh 11 0 0 (0) 0 0 ⟨#[]⟩) 0) (by simp [results, Try.results76, go_sem, wshR, wsh, z0, z1, z2, z3, z4, z5, z6]) rfl ?_
        exact ⟨by rw [HW.out], below7 BW.out (by omega) _ _ _ _ _ _ _⟩
end Go.Proofs.Ytpapblahnbeccaa
