/-
  MODULES AS BYTES, the program's lists of parts. Conditions: at most 16 parts, each of which passes the check; unicode/utf8's two tables hold what the row lists.
-/
import Derived.Test.YthoalneknadheaaGreatDoorGBinWrites40
import Derived.Test.YthoalneknadheaaGreatDoorGBinWrites41
namespace Go.Proofs.YthoalneknadheaaGreatDoor
open Go.RowKit Go.Lib

theorem catB_size2 {α : Type} (f : α → ByteArray) (c : Nat) (l : List α) (k : Nat) (h : ∀ x ∈ l, (f x).size ≤ c) (hk : l.length ≤ 16) : (catB f (l.take k)).size ≤ c * 16 := by
 refine Nat.le_trans (catB_size f c (l.take k) (fun x hx => h x (List.mem_of_mem_take hx))) (Nat.mul_le_mul_left c ?_)
 rw [List.length_take]; omega
set_option maxRecDepth 100000 in
set_option maxHeartbeats 4000000 in
theorem lSig_any (W w : World) (v : Value) (ys : List D_api_Sig) (hb : Below W.heap.size W w) (hl : R_s_api_Sig W [v] ys) (hlen : ys.length ≤ 16) (hf : ∀ x ∈ ys, fSig x = 0) :
  Calls Tryz.prog 13 #[v, .func (.func 14) #[] #[]] w fun e w' => e = .returned (.string (listB wSig ys)) ∧ Below w.heap.size w w' := by
 have HN := hid (fun wx => num_any ys.length (by omega) wx)
 have HL := hid hl
 have HB := hid hb
 have HF := hid hf
 obtain ⟨ao, cap, rfl, hcap, hcm, _⟩ := sl_shape hl
 have HNX := hid (fun (b : ByteArray) k (hk : k < ys.length) => catB_more wSig ys k hk b)
 have HSZ := hid (numB_size ys.length)
 have HCS := hid (fun k => catB_size2 wSig 100 ys k (fun x HM => wSig_size (HF.out _ HM)) hlen)
 have HSX := hid (fun x (HM : x ∈ ys) => (show (wSig x).size ≤ 100 from wSig_size (HF.out _ HM)))
 obtain ⟨n, hn⟩ : ∃ n, ys.length = n := ⟨_, rfl⟩
 have HLN := hid hn
 have HL0 := hid (show n = 0 → listB wSig ys = ⟨#[]⟩ from fun h => by unfold listB; rw [if_pos (by omega)])
 have HL1 := hid (show n ≠ 0 → listB wSig ys = numB n ++ catB wSig (ys.take n) from fun h => by unfold listB; rw [if_neg (by omega), hn, ← hn, List.take_length])
 rw [hn] at hcap HL HN HSZ hlen
 rw [hn]
 have hn9 : (n : Int) ≤ 16 := by omega
 clear hl hb hn hlen hf
 by_cases hz : n = 0
 ·have HE := hid (HL0.out hz)
  have hz1 : ((n : Int) == 0) = true := by rw [hz]; rfl
  clear hz
  go_enter Tryz.func13, Tryz.ntmps13
  go_wp2_with fail
  go_ret
  exact ⟨congrArg (fun x => Ending.returned (.string x)) HE.out.symm, Below.refl _ _⟩
 have HE := hid (HL1.out hz)
 have hz1 : ((n : Int) == 0) = false := by rw [beq_eq_false_iff_ne]; omega
 clear hz
 go_enter Tryz.func13, Tryz.ntmps13
 go_wp2_with fail
 refine (HN.out _).mono ?_
 rintro r w1 ⟨rfl, hb1⟩
 have B1 := hid hb1
 clear hb1 hz1
 go_wp2_with fail
 go_loopw [5, 7, 16] (fun o _ i wr => ∃ (k : Nat) (b : ByteArray), k ≤ n ∧ i = .int .i64 k ∧ o = .string b ∧ Hid (b = numB n ++ catB wSig (ys.take k)) ∧ Hid (Below w.heap.size w wr)) (fun _ _ i _ => n - (RowKit.intOf i).toNat)
 case atStart => exact ⟨0, _, Nat.zero_le _, rfl, rfl, hid (ba_nil _).symm, B1⟩
 case round =>
  obtain ⟨k, b, hk, rfl, rfl, HBK, BW⟩ := hrel
  by_cases hlt : k < n
  ·have hkl : k < ys.length := by rw [HLN.out]; exact hlt
   have HBW := hid (HB.out.trans (BW.out.mono HB.out.size))
   obtain ⟨lb, lo, cap', cs, hv, _, _, _, hR, hcc⟩ := sliceR_at HL.out (by decide) k hkl
   rw [HLN.out] at hv
   simp only [Value.slice.injEq] at hv
   obtain ⟨rfl, -, rfl⟩ := hv
   have HNK := hid (HNX.out (numB n) k hkl)
   have HFY := hid (HF.out _ (List.getElem_mem hkl))
   have hsy := HSX.out _ (List.getElem_mem hkl)
   have hbs : b.size ≤ 10 + 100 * 16 := by
    rw [HBK.out, ba_size]
    have h1 := HSZ.out
    have h2 := HCS.out k
    omega
   generalize ys[k] = y at *
   clear hkl
   have HRK := hid hR
   obtain ⟨_, _, rfl, h1, _, _, rfl, h2, rfl⟩ := hR
   obtain ⟨u1, rfl⟩ := sl_one h1
   obtain ⟨a1, k1, rfl, _, _, _⟩ := sl_shape h1
   obtain ⟨u2, rfl⟩ := sl_one h2
   obtain ⟨a2, k2, rfl, _, _, _⟩ := sl_shape h2
   clear h1 h2
   have y0 : wr.cell? ⟨lb, lo + k * 2, none⟩ = some (.slice a1 y.1.length k1) := hcc wr HBW.out 0 (by decide)
   have y1 : wr.cell? ⟨lb, lo + k * 2 + 1, none⟩ = some (.slice a2 y.2.1.length k2) := hcc wr HBW.out 1 (by decide)
   clear hcc
   obtain ⟨A, hA⟩ : ∃ A, wSig y = A := ⟨_, rfl⟩
   have hF := fun wx (hx : Below W.heap.size W wx) => wSig_any W wx _ y hx HFY.out HRK.out
   have HO := hid hF
   rw [hA] at HO hsy HNK
   have hcat : ¬ 9223372036854775807 < b.size + A.size := by omega
   clear hF hA hbs hsy
   go_wp2_with fail
   refine (HO.out _ (HBW.out.alloc HBW.out.size _)).mono ?_
   rintro r w3 ⟨rfl, hb3⟩
   have B3 := hid ((BW.out.alloc BW.out.size (.cells #[.slice a1 y.1.length k1, .slice a2 y.2.1.length k2] 47)).trans (hb3.mono (BW.out.alloc BW.out.size _).size))
   clear hb3
   go_wp2_with fail
   go_roundw
   case rel => exact ⟨k + 1, _, by omega, by go_num, rfl, hid (by rw [HBK.out, ← HNK.out]), B3⟩
   case measure => simp [RowKit.intOf]; omega
  ·obtain rfl : k = n := by omega
   go_wp2_with fail
   go_ret
   exact ⟨congrArg (fun x => Ending.returned (.string x)) (show b = _ from by rw [HBK.out, HE.out]), BW.out⟩
set_option maxRecDepth 100000 in
set_option maxHeartbeats 4000000 in
theorem lImport_any (W w : World) (v : Value) (ys : List D_api_Import) (hb : Below W.heap.size W w) (hT : UTabs W) (hl : R_s_api_Import W [v] ys) (hlen : ys.length ≤ 16) (hf : ∀ x ∈ ys, fImport x = 0) :
  Calls Tryz.prog 16 #[v, .func (.func 17) #[] #[]] w fun e w' => e = .returned (.string (listB wImport ys)) ∧ Below w.heap.size w w' := by
 have HN := hid (fun wx => num_any ys.length (by omega) wx)
 have HL := hid hl
 have HB := hid hb
 have HF := hid hf
 have HT := hid hT
 obtain ⟨ao, cap, rfl, hcap, hcm, _⟩ := sl_shape hl
 have HNX := hid (fun (b : ByteArray) k (hk : k < ys.length) => catB_more wImport ys k hk b)
 have HSZ := hid (numB_size ys.length)
 have HCS := hid (fun k => catB_size2 wImport 100 ys k (fun x HM => wImport_size _) hlen)
 have HSX := hid (fun x (HM : x ∈ ys) => (show (wImport x).size ≤ 100 from wImport_size _))
 obtain ⟨n, hn⟩ : ∃ n, ys.length = n := ⟨_, rfl⟩
 have HLN := hid hn
 have HL0 := hid (show n = 0 → listB wImport ys = ⟨#[]⟩ from fun h => by unfold listB; rw [if_pos (by omega)])
 have HL1 := hid (show n ≠ 0 → listB wImport ys = numB n ++ catB wImport (ys.take n) from fun h => by unfold listB; rw [if_neg (by omega), hn, ← hn, List.take_length])
 rw [hn] at hcap HL HN HSZ hlen
 rw [hn]
 have hn9 : (n : Int) ≤ 16 := by omega
 clear hl hb hn hlen hf hT
 by_cases hz : n = 0
 ·have HE := hid (HL0.out hz)
  have hz1 : ((n : Int) == 0) = true := by rw [hz]; rfl
  clear hz
  go_enter Tryz.func16, Tryz.ntmps16
  go_wp2_with fail
  go_ret
  exact ⟨congrArg (fun x => Ending.returned (.string x)) HE.out.symm, Below.refl _ _⟩
 have HE := hid (HL1.out hz)
 have hz1 : ((n : Int) == 0) = false := by rw [beq_eq_false_iff_ne]; omega
 clear hz
 go_enter Tryz.func16, Tryz.ntmps16
 go_wp2_with fail
 refine (HN.out _).mono ?_
 rintro r w1 ⟨rfl, hb1⟩
 have B1 := hid hb1
 clear hb1 hz1
 go_wp2_with fail
 go_loopw [5, 7, 16] (fun o _ i wr => ∃ (k : Nat) (b : ByteArray), k ≤ n ∧ i = .int .i64 k ∧ o = .string b ∧ Hid (b = numB n ++ catB wImport (ys.take k)) ∧ Hid (Below w.heap.size w wr)) (fun _ _ i _ => n - (RowKit.intOf i).toNat)
 case atStart => exact ⟨0, _, Nat.zero_le _, rfl, rfl, hid (ba_nil _).symm, B1⟩
 case round =>
  obtain ⟨k, b, hk, rfl, rfl, HBK, BW⟩ := hrel
  by_cases hlt : k < n
  ·have hkl : k < ys.length := by rw [HLN.out]; exact hlt
   have HBW := hid (HB.out.trans (BW.out.mono HB.out.size))
   obtain ⟨lb, lo, cap', cs, hv, _, _, _, hR, hcc⟩ := sliceR_at HL.out (by decide) k hkl
   rw [HLN.out] at hv
   simp only [Value.slice.injEq] at hv
   obtain ⟨rfl, -, rfl⟩ := hv
   have HNK := hid (HNX.out (numB n) k hkl)
   have HFY := hid (HF.out _ (List.getElem_mem hkl))
   have hsy := HSX.out _ (List.getElem_mem hkl)
   have hbs : b.size ≤ 10 + 100 * 16 := by
    rw [HBK.out, ba_size]
    have h1 := HSZ.out
    have h2 := HCS.out k
    omega
   generalize ys[k] = y at *
   clear hkl
   have HRK := hid hR
   obtain ⟨_, _, rfl, ⟨rfl, _⟩, _, _, rfl, ⟨rfl, _⟩, rfl⟩ := hR
   have y0 : wr.cell? ⟨lb, lo + k * 2, none⟩ = some (.string y.1) := hcc wr HBW.out 0 (by decide)
   have y1 : wr.cell? ⟨lb, lo + k * 2 + 1, none⟩ = some (.int .i64 y.2.1) := hcc wr HBW.out 1 (by decide)
   clear hcc
   obtain ⟨A, hA⟩ : ∃ A, wImport y = A := ⟨_, rfl⟩
   have hF := fun wx (hx : Below W.heap.size W wx) => wImport_any W wx _ y hx HT.out HFY.out HRK.out
   have HO := hid hF
   rw [hA] at HO hsy HNK
   have hcat : ¬ 9223372036854775807 < b.size + A.size := by omega
   clear hF hA hbs hsy
   go_wp2_with fail
   refine (HO.out _ (HBW.out.alloc HBW.out.size _)).mono ?_
   rintro r w3 ⟨rfl, hb3⟩
   have B3 := hid ((BW.out.alloc BW.out.size (.cells #[.string y.1, .int .i64 y.2.1] 52)).trans (hb3.mono (BW.out.alloc BW.out.size _).size))
   clear hb3
   go_wp2_with fail
   go_roundw
   case rel => exact ⟨k + 1, _, by omega, by go_num, rfl, hid (by rw [HBK.out, ← HNK.out]), B3⟩
   case measure => simp [RowKit.intOf]; omega
  ·obtain rfl : k = n := by omega
   go_wp2_with fail
   go_ret
   exact ⟨congrArg (fun x => Ending.returned (.string x)) (show b = _ from by rw [HBK.out, HE.out]), BW.out⟩
set_option maxRecDepth 100000 in
set_option maxHeartbeats 4000000 in
theorem lFunc_any (W w : World) (v : Value) (ys : List D_api_Func) (hb : Below W.heap.size W w) (hl : R_s_api_Func W [v] ys) (hlen : ys.length ≤ 16) (hf : ∀ x ∈ ys, fFunc x = 0) :
  Calls Tryz.prog 20 #[v, .func (.func 21) #[] #[]] w fun e w' => e = .returned (.string (listB wFunc ys)) ∧ Below w.heap.size w w' := by
 have HN := hid (fun wx => num_any ys.length (by omega) wx)
 have HL := hid hl
 have HB := hid hb
 have HF := hid hf
 obtain ⟨ao, cap, rfl, hcap, hcm, _⟩ := sl_shape hl
 have HNX := hid (fun (b : ByteArray) k (hk : k < ys.length) => catB_more wFunc ys k hk b)
 have HSZ := hid (numB_size ys.length)
 have HCS := hid (fun k => catB_size2 wFunc 100 ys k (fun x HM => wFunc_size _) hlen)
 have HSX := hid (fun x (HM : x ∈ ys) => (show (wFunc x).size ≤ 100 from wFunc_size _))
 obtain ⟨n, hn⟩ : ∃ n, ys.length = n := ⟨_, rfl⟩
 have HLN := hid hn
 have HL0 := hid (show n = 0 → listB wFunc ys = ⟨#[]⟩ from fun h => by unfold listB; rw [if_pos (by omega)])
 have HL1 := hid (show n ≠ 0 → listB wFunc ys = numB n ++ catB wFunc (ys.take n) from fun h => by unfold listB; rw [if_neg (by omega), hn, ← hn, List.take_length])
 rw [hn] at hcap HL HN HSZ hlen
 rw [hn]
 have hn9 : (n : Int) ≤ 16 := by omega
 clear hl hb hn hlen hf
 by_cases hz : n = 0
 ·have HE := hid (HL0.out hz)
  have hz1 : ((n : Int) == 0) = true := by rw [hz]; rfl
  clear hz
  go_enter Tryz.func20, Tryz.ntmps20
  go_wp2_with fail
  go_ret
  exact ⟨congrArg (fun x => Ending.returned (.string x)) HE.out.symm, Below.refl _ _⟩
 have HE := hid (HL1.out hz)
 have hz1 : ((n : Int) == 0) = false := by rw [beq_eq_false_iff_ne]; omega
 clear hz
 go_enter Tryz.func20, Tryz.ntmps20
 go_wp2_with fail
 refine (HN.out _).mono ?_
 rintro r w1 ⟨rfl, hb1⟩
 have B1 := hid hb1
 clear hb1 hz1
 go_wp2_with fail
 go_loopw [5, 7, 16] (fun o _ i wr => ∃ (k : Nat) (b : ByteArray), k ≤ n ∧ i = .int .i64 k ∧ o = .string b ∧ Hid (b = numB n ++ catB wFunc (ys.take k)) ∧ Hid (Below w.heap.size w wr)) (fun _ _ i _ => n - (RowKit.intOf i).toNat)
 case atStart => exact ⟨0, _, Nat.zero_le _, rfl, rfl, hid (ba_nil _).symm, B1⟩
 case round =>
  obtain ⟨k, b, hk, rfl, rfl, HBK, BW⟩ := hrel
  by_cases hlt : k < n
  ·have hkl : k < ys.length := by rw [HLN.out]; exact hlt
   have HBW := hid (HB.out.trans (BW.out.mono HB.out.size))
   obtain ⟨lb, lo, cap', cs, hv, _, _, _, hR, hcc⟩ := sliceR_at HL.out (by decide) k hkl
   rw [HLN.out] at hv
   simp only [Value.slice.injEq] at hv
   obtain ⟨rfl, -, rfl⟩ := hv
   have HNK := hid (HNX.out (numB n) k hkl)
   have HFY := hid (HF.out _ (List.getElem_mem hkl))
   have hsy := HSX.out _ (List.getElem_mem hkl)
   have hbs : b.size ≤ 10 + 100 * 16 := by
    rw [HBK.out, ba_size]
    have h1 := HSZ.out
    have h2 := HCS.out k
    omega
   generalize ys[k] = y at *
   clear hkl
   have HRK := hid hR
   obtain ⟨_, _, rfl, ⟨rfl, _⟩, _, _, rfl, h1, _, _, rfl, h2, rfl⟩ := hR
   obtain ⟨u1, rfl⟩ := sl_one h1
   obtain ⟨a1, k1, rfl, _, _, _⟩ := sl_shape h1
   obtain ⟨u2, rfl⟩ := sl_one h2
   obtain ⟨a2, k2, rfl, _, _, _⟩ := sl_shape h2
   clear h1 h2
   have y0 : wr.cell? ⟨lb, lo + k * 3, none⟩ = some (.int .i64 y.1) := hcc wr HBW.out 0 (by decide)
   have y1 : wr.cell? ⟨lb, lo + k * 3 + 1, none⟩ = some (.slice a1 y.2.1.length k1) := hcc wr HBW.out 1 (by decide)
   have y2 : wr.cell? ⟨lb, lo + k * 3 + 2, none⟩ = some (.slice a2 y.2.2.1.length k2) := hcc wr HBW.out 2 (by decide)
   clear hcc
   obtain ⟨A, hA⟩ : ∃ A, wFunc y = A := ⟨_, rfl⟩
   have hF := fun wx (hx : Below W.heap.size W wx) => wFunc_any W wx _ y hx HFY.out HRK.out
   have HO := hid hF
   rw [hA] at HO hsy HNK
   have hcat : ¬ 9223372036854775807 < b.size + A.size := by omega
   clear hF hA hbs hsy
   go_wp2_with fail
   refine (HO.out _ (HBW.out.alloc HBW.out.size _)).mono ?_
   rintro r w3 ⟨rfl, hb3⟩
   have B3 := hid ((BW.out.alloc BW.out.size (.cells #[.int .i64 y.1, .slice a1 y.2.1.length k1, .slice a2 y.2.2.1.length k2] 59)).trans (hb3.mono (BW.out.alloc BW.out.size _).size))
   clear hb3
   go_wp2_with fail
   go_roundw
   case rel => exact ⟨k + 1, _, by omega, by go_num, rfl, hid (by rw [HBK.out, ← HNK.out]), B3⟩
   case measure => simp [RowKit.intOf]; omega
  ·obtain rfl : k = n := by omega
   go_wp2_with fail
   go_ret
   exact ⟨congrArg (fun x => Ending.returned (.string x)) (show b = _ from by rw [HBK.out, HE.out]), BW.out⟩
set_option maxRecDepth 100000 in
set_option maxHeartbeats 4000000 in
theorem lGlobal_any (W w : World) (v : Value) (ys : List D_api_Global) (hb : Below W.heap.size W w) (hl : R_s_api_Global W [v] ys) (hlen : ys.length ≤ 16) (hf : ∀ x ∈ ys, fGlobal x = 0) :
  Calls Tryz.prog 22 #[v, .func (.func 23) #[] #[]] w fun e w' => e = .returned (.string (listB wGlobal ys)) ∧ Below w.heap.size w w' := by
 have HN := hid (fun wx => num_any ys.length (by omega) wx)
 have HL := hid hl
 have HB := hid hb
 have HF := hid hf
 obtain ⟨ao, cap, rfl, hcap, hcm, _⟩ := sl_shape hl
 have HNX := hid (fun (b : ByteArray) k (hk : k < ys.length) => catB_more wGlobal ys k hk b)
 have HSZ := hid (numB_size ys.length)
 have HCS := hid (fun k => catB_size2 wGlobal 100 ys k (fun x HM => wGlobal_size _) hlen)
 have HSX := hid (fun x (HM : x ∈ ys) => (show (wGlobal x).size ≤ 100 from wGlobal_size _))
 obtain ⟨n, hn⟩ : ∃ n, ys.length = n := ⟨_, rfl⟩
 have HLN := hid hn
 have HL0 := hid (show n = 0 → listB wGlobal ys = ⟨#[]⟩ from fun h => by unfold listB; rw [if_pos (by omega)])
 have HL1 := hid (show n ≠ 0 → listB wGlobal ys = numB n ++ catB wGlobal (ys.take n) from fun h => by unfold listB; rw [if_neg (by omega), hn, ← hn, List.take_length])
 rw [hn] at hcap HL HN HSZ hlen
 rw [hn]
 have hn9 : (n : Int) ≤ 16 := by omega
 clear hl hb hn hlen hf
 by_cases hz : n = 0
 ·have HE := hid (HL0.out hz)
  have hz1 : ((n : Int) == 0) = true := by rw [hz]; rfl
  clear hz
  go_enter Tryz.func22, Tryz.ntmps22
  go_wp2_with fail
  go_ret
  exact ⟨congrArg (fun x => Ending.returned (.string x)) HE.out.symm, Below.refl _ _⟩
 have HE := hid (HL1.out hz)
 have hz1 : ((n : Int) == 0) = false := by rw [beq_eq_false_iff_ne]; omega
 clear hz
 go_enter Tryz.func22, Tryz.ntmps22
 go_wp2_with fail
 refine (HN.out _).mono ?_
 rintro r w1 ⟨rfl, hb1⟩
 have B1 := hid hb1
 clear hb1 hz1
 go_wp2_with fail
 go_loopw [5, 7, 16] (fun o _ i wr => ∃ (k : Nat) (b : ByteArray), k ≤ n ∧ i = .int .i64 k ∧ o = .string b ∧ Hid (b = numB n ++ catB wGlobal (ys.take k)) ∧ Hid (Below w.heap.size w wr)) (fun _ _ i _ => n - (RowKit.intOf i).toNat)
 case atStart => exact ⟨0, _, Nat.zero_le _, rfl, rfl, hid (ba_nil _).symm, B1⟩
 case round =>
  obtain ⟨k, b, hk, rfl, rfl, HBK, BW⟩ := hrel
  by_cases hlt : k < n
  ·have hkl : k < ys.length := by rw [HLN.out]; exact hlt
   have HBW := hid (HB.out.trans (BW.out.mono HB.out.size))
   obtain ⟨lb, lo, cap', cs, hv, _, _, _, hR, hcc⟩ := sliceR_at HL.out (by decide) k hkl
   rw [HLN.out] at hv
   simp only [Value.slice.injEq] at hv
   obtain ⟨rfl, -, rfl⟩ := hv
   have HNK := hid (HNX.out (numB n) k hkl)
   have HFY := hid (HF.out _ (List.getElem_mem hkl))
   have hsy := HSX.out _ (List.getElem_mem hkl)
   have hbs : b.size ≤ 10 + 100 * 16 := by
    rw [HBK.out, ba_size]
    have h1 := HSZ.out
    have h2 := HCS.out k
    omega
   generalize ys[k] = y at *
   clear hkl
   have HRK := hid hR
   obtain ⟨_, _, rfl, ⟨rfl, _⟩, _, _, rfl, ⟨rfl, _⟩, _, _, rfl, ⟨rfl, _⟩, rfl⟩ := hR
   have y0 : wr.cell? ⟨lb, lo + k * 3, none⟩ = some (.int .u8 y.1) := hcc wr HBW.out 0 (by decide)
   have y1 : wr.cell? ⟨lb, lo + k * 3 + 1, none⟩ = some (.bool y.2.1) := hcc wr HBW.out 1 (by decide)
   have y2 : wr.cell? ⟨lb, lo + k * 3 + 2, none⟩ = some (.int .i64 y.2.2.1) := hcc wr HBW.out 2 (by decide)
   clear hcc
   obtain ⟨A, hA⟩ : ∃ A, wGlobal y = A := ⟨_, rfl⟩
   have hF := fun wx (hx : Below W.heap.size W wx) => wGlobal_any W wx _ y hx HFY.out HRK.out
   have HO := hid hF
   rw [hA] at HO hsy HNK
   have hcat : ¬ 9223372036854775807 < b.size + A.size := by omega
   clear hF hA hbs hsy
   go_wp2_with fail
   refine (HO.out _ (HBW.out.alloc HBW.out.size _)).mono ?_
   rintro r w3 ⟨rfl, hb3⟩
   have B3 := hid ((BW.out.alloc BW.out.size (.cells #[.int .u8 y.1, .bool y.2.1, .int .i64 y.2.2.1] 64)).trans (hb3.mono (BW.out.alloc BW.out.size _).size))
   clear hb3
   go_wp2_with fail
   go_roundw
   case rel => exact ⟨k + 1, _, by omega, by go_num, rfl, hid (by rw [HBK.out, ← HNK.out]), B3⟩
   case measure => simp [RowKit.intOf]; omega
  ·obtain rfl : k = n := by omega
   go_wp2_with fail
   go_ret
   exact ⟨congrArg (fun x => Ending.returned (.string x)) (show b = _ from by rw [HBK.out, HE.out]), BW.out⟩
set_option maxRecDepth 100000 in
set_option maxHeartbeats 4000000 in
theorem lExport_any (W w : World) (v : Value) (ys : List D_api_Export) (hb : Below W.heap.size W w) (hT : UTabs W) (hl : R_s_api_Export W [v] ys) (hlen : ys.length ≤ 16) (hf : ∀ x ∈ ys, fExport x = 0) :
  Calls Tryz.prog 24 #[v, .func (.func 25) #[] #[]] w fun e w' => e = .returned (.string (listB wExport ys)) ∧ Below w.heap.size w w' := by
 have HN := hid (fun wx => num_any ys.length (by omega) wx)
 have HL := hid hl
 have HB := hid hb
 have HF := hid hf
 have HT := hid hT
 obtain ⟨ao, cap, rfl, hcap, hcm, _⟩ := sl_shape hl
 have HNX := hid (fun (b : ByteArray) k (hk : k < ys.length) => catB_more wExport ys k hk b)
 have HSZ := hid (numB_size ys.length)
 have HCS := hid (fun k => catB_size2 wExport 100 ys k (fun x HM => wExport_size _) hlen)
 have HSX := hid (fun x (HM : x ∈ ys) => (show (wExport x).size ≤ 100 from wExport_size _))
 obtain ⟨n, hn⟩ : ∃ n, ys.length = n := ⟨_, rfl⟩
 have HLN := hid hn
 have HL0 := hid (show n = 0 → listB wExport ys = ⟨#[]⟩ from fun h => by unfold listB; rw [if_pos (by omega)])
 have HL1 := hid (show n ≠ 0 → listB wExport ys = numB n ++ catB wExport (ys.take n) from fun h => by unfold listB; rw [if_neg (by omega), hn, ← hn, List.take_length])
 rw [hn] at hcap HL HN HSZ hlen
 rw [hn]
 have hn9 : (n : Int) ≤ 16 := by omega
 clear hl hb hn hlen hf hT
 by_cases hz : n = 0
 ·have HE := hid (HL0.out hz)
  have hz1 : ((n : Int) == 0) = true := by rw [hz]; rfl
  clear hz
  go_enter Tryz.func24, Tryz.ntmps24
  go_wp2_with fail
  go_ret
  exact ⟨congrArg (fun x => Ending.returned (.string x)) HE.out.symm, Below.refl _ _⟩
 have HE := hid (HL1.out hz)
 have hz1 : ((n : Int) == 0) = false := by rw [beq_eq_false_iff_ne]; omega
 clear hz
 go_enter Tryz.func24, Tryz.ntmps24
 go_wp2_with fail
 refine (HN.out _).mono ?_
 rintro r w1 ⟨rfl, hb1⟩
 have B1 := hid hb1
 clear hb1 hz1
 go_wp2_with fail
 go_loopw [5, 7, 16] (fun o _ i wr => ∃ (k : Nat) (b : ByteArray), k ≤ n ∧ i = .int .i64 k ∧ o = .string b ∧ Hid (b = numB n ++ catB wExport (ys.take k)) ∧ Hid (Below w.heap.size w wr)) (fun _ _ i _ => n - (RowKit.intOf i).toNat)
 case atStart => exact ⟨0, _, Nat.zero_le _, rfl, rfl, hid (ba_nil _).symm, B1⟩
 case round =>
  obtain ⟨k, b, hk, rfl, rfl, HBK, BW⟩ := hrel
  by_cases hlt : k < n
  ·have hkl : k < ys.length := by rw [HLN.out]; exact hlt
   have HBW := hid (HB.out.trans (BW.out.mono HB.out.size))
   obtain ⟨lb, lo, cap', cs, hv, _, _, _, hR, hcc⟩ := sliceR_at HL.out (by decide) k hkl
   rw [HLN.out] at hv
   simp only [Value.slice.injEq] at hv
   obtain ⟨rfl, -, rfl⟩ := hv
   have HNK := hid (HNX.out (numB n) k hkl)
   have HFY := hid (HF.out _ (List.getElem_mem hkl))
   have hsy := HSX.out _ (List.getElem_mem hkl)
   have hbs : b.size ≤ 10 + 100 * 16 := by
    rw [HBK.out, ba_size]
    have h1 := HSZ.out
    have h2 := HCS.out k
    omega
   generalize ys[k] = y at *
   clear hkl
   have HRK := hid hR
   obtain ⟨_, _, rfl, ⟨rfl, _⟩, _, _, rfl, ⟨rfl, _⟩, rfl⟩ := hR
   have y0 : wr.cell? ⟨lb, lo + k * 2, none⟩ = some (.string y.1) := hcc wr HBW.out 0 (by decide)
   have y1 : wr.cell? ⟨lb, lo + k * 2 + 1, none⟩ = some (.int .i64 y.2.1) := hcc wr HBW.out 1 (by decide)
   clear hcc
   obtain ⟨A, hA⟩ : ∃ A, wExport y = A := ⟨_, rfl⟩
   have hF := fun wx (hx : Below W.heap.size W wx) => wExport_any W wx _ y hx HT.out HFY.out HRK.out
   have HO := hid hF
   rw [hA] at HO hsy HNK
   have hcat : ¬ 9223372036854775807 < b.size + A.size := by omega
   clear hF hA hbs hsy
   go_wp2_with fail
   refine (HO.out _ (HBW.out.alloc HBW.out.size _)).mono ?_
   rintro r w3 ⟨rfl, hb3⟩
   have B3 := hid ((BW.out.alloc BW.out.size (.cells #[.string y.1, .int .i64 y.2.1] 68)).trans (hb3.mono (BW.out.alloc BW.out.size _).size))
   clear hb3
   go_wp2_with fail
   go_roundw
   case rel => exact ⟨k + 1, _, by omega, by go_num, rfl, hid (by rw [HBK.out, ← HNK.out]), B3⟩
   case measure => simp [RowKit.intOf]; omega
  ·obtain rfl : k = n := by omega
   go_wp2_with fail
   go_ret
   exact ⟨congrArg (fun x => Ending.returned (.string x)) (show b = _ from by rw [HBK.out, HE.out]), BW.out⟩
set_option maxRecDepth 100000 in
set_option maxHeartbeats 4000000 in
theorem lElem_any (W w : World) (v : Value) (ys : List D_api_Elem) (hb : Below W.heap.size W w) (hl : R_s_api_Elem W [v] ys) (hlen : ys.length ≤ 16) (hf : ∀ x ∈ ys, fElem x = 0) :
  Calls Tryz.prog 26 #[v, .func (.func 27) #[] #[]] w fun e w' => e = .returned (.string (listB wElem ys)) ∧ Below w.heap.size w w' := by
 have HN := hid (fun wx => num_any ys.length (by omega) wx)
 have HL := hid hl
 have HB := hid hb
 have HF := hid hf
 obtain ⟨ao, cap, rfl, hcap, hcm, _⟩ := sl_shape hl
 have HNX := hid (fun (b : ByteArray) k (hk : k < ys.length) => catB_more wElem ys k hk b)
 have HSZ := hid (numB_size ys.length)
 have HCS := hid (fun k => catB_size2 wElem 200 ys k (fun x HM => wElem_size (HF.out _ HM)) hlen)
 have HSX := hid (fun x (HM : x ∈ ys) => (show (wElem x).size ≤ 200 from wElem_size (HF.out _ HM)))
 obtain ⟨n, hn⟩ : ∃ n, ys.length = n := ⟨_, rfl⟩
 have HLN := hid hn
 have HL0 := hid (show n = 0 → listB wElem ys = ⟨#[]⟩ from fun h => by unfold listB; rw [if_pos (by omega)])
 have HL1 := hid (show n ≠ 0 → listB wElem ys = numB n ++ catB wElem (ys.take n) from fun h => by unfold listB; rw [if_neg (by omega), hn, ← hn, List.take_length])
 rw [hn] at hcap HL HN HSZ hlen
 rw [hn]
 have hn9 : (n : Int) ≤ 16 := by omega
 clear hl hb hn hlen hf
 by_cases hz : n = 0
 ·have HE := hid (HL0.out hz)
  have hz1 : ((n : Int) == 0) = true := by rw [hz]; rfl
  clear hz
  go_enter Tryz.func26, Tryz.ntmps26
  go_wp2_with fail
  go_ret
  exact ⟨congrArg (fun x => Ending.returned (.string x)) HE.out.symm, Below.refl _ _⟩
 have HE := hid (HL1.out hz)
 have hz1 : ((n : Int) == 0) = false := by rw [beq_eq_false_iff_ne]; omega
 clear hz
 go_enter Tryz.func26, Tryz.ntmps26
 go_wp2_with fail
 refine (HN.out _).mono ?_
 rintro r w1 ⟨rfl, hb1⟩
 have B1 := hid hb1
 clear hb1 hz1
 go_wp2_with fail
 go_loopw [5, 7, 16] (fun o _ i wr => ∃ (k : Nat) (b : ByteArray), k ≤ n ∧ i = .int .i64 k ∧ o = .string b ∧ Hid (b = numB n ++ catB wElem (ys.take k)) ∧ Hid (Below w.heap.size w wr)) (fun _ _ i _ => n - (RowKit.intOf i).toNat)
 case atStart => exact ⟨0, _, Nat.zero_le _, rfl, rfl, hid (ba_nil _).symm, B1⟩
 case round =>
  obtain ⟨k, b, hk, rfl, rfl, HBK, BW⟩ := hrel
  by_cases hlt : k < n
  ·have hkl : k < ys.length := by rw [HLN.out]; exact hlt
   have HBW := hid (HB.out.trans (BW.out.mono HB.out.size))
   obtain ⟨lb, lo, cap', cs, hv, _, _, _, hR, hcc⟩ := sliceR_at HL.out (by decide) k hkl
   rw [HLN.out] at hv
   simp only [Value.slice.injEq] at hv
   obtain ⟨rfl, -, rfl⟩ := hv
   have HNK := hid (HNX.out (numB n) k hkl)
   have HFY := hid (HF.out _ (List.getElem_mem hkl))
   have hsy := HSX.out _ (List.getElem_mem hkl)
   have hbs : b.size ≤ 10 + 200 * 16 := by
    rw [HBK.out, ba_size]
    have h1 := HSZ.out
    have h2 := HCS.out k
    omega
   generalize ys[k] = y at *
   clear hkl
   have HRK := hid hR
   obtain ⟨_, _, rfl, ⟨rfl, _⟩, _, _, rfl, h1, rfl⟩ := hR
   obtain ⟨u1, rfl⟩ := sl_one h1
   obtain ⟨a1, k1, rfl, _, _, _⟩ := sl_shape h1
   clear h1
   have y0 : wr.cell? ⟨lb, lo + k * 2, none⟩ = some (.int .i64 y.1) := hcc wr HBW.out 0 (by decide)
   have y1 : wr.cell? ⟨lb, lo + k * 2 + 1, none⟩ = some (.slice a1 y.2.1.length k1) := hcc wr HBW.out 1 (by decide)
   clear hcc
   obtain ⟨A, hA⟩ : ∃ A, wElem y = A := ⟨_, rfl⟩
   have hF := fun wx (hx : Below W.heap.size W wx) => wElem_any W wx _ y hx HFY.out HRK.out
   have HO := hid hF
   rw [hA] at HO hsy HNK
   have hcat : ¬ 9223372036854775807 < b.size + A.size := by omega
   clear hF hA hbs hsy
   go_wp2_with fail
   refine (HO.out _ (HBW.out.alloc HBW.out.size _)).mono ?_
   rintro r w3 ⟨rfl, hb3⟩
   have B3 := hid ((BW.out.alloc BW.out.size (.cells #[.int .i64 y.1, .slice a1 y.2.1.length k1] 73)).trans (hb3.mono (BW.out.alloc BW.out.size _).size))
   clear hb3
   go_wp2_with fail
   go_roundw
   case rel => exact ⟨k + 1, _, by omega, by go_num, rfl, hid (by rw [HBK.out, ← HNK.out]), B3⟩
   case measure => simp [RowKit.intOf]; omega
  ·obtain rfl : k = n := by omega
   go_wp2_with fail
   go_ret
   exact ⟨congrArg (fun x => Ending.returned (.string x)) (show b = _ from by rw [HBK.out, HE.out]), BW.out⟩
set_option maxRecDepth 100000 in
set_option maxHeartbeats 4000000 in
theorem lCode_any (W w : World) (v : Value) (ys : List D_api_Func) (hb : Below W.heap.size W w) (hl : R_s_api_Func W [v] ys) (hlen : ys.length ≤ 16) (hf : ∀ x ∈ ys, fFunc x = 0) :
  Calls Tryz.prog 20 #[v, .func (.func 29) #[] #[]] w fun e w' => e = .returned (.string (listB wCode ys)) ∧ Below w.heap.size w w' := by
 have HN := hid (fun wx => num_any ys.length (by omega) wx)
 have HL := hid hl
 have HB := hid hb
 have HF := hid hf
 obtain ⟨ao, cap, rfl, hcap, hcm, _⟩ := sl_shape hl
 have HNX := hid (fun (b : ByteArray) k (hk : k < ys.length) => catB_more wCode ys k hk b)
 have HSZ := hid (numB_size ys.length)
 have HCS := hid (fun k => catB_size2 wCode 2000000 ys k (fun x HM => wCode_size (HF.out _ HM)) hlen)
 have HSX := hid (fun x (HM : x ∈ ys) => (show (wCode x).size ≤ 2000000 from wCode_size (HF.out _ HM)))
 obtain ⟨n, hn⟩ : ∃ n, ys.length = n := ⟨_, rfl⟩
 have HLN := hid hn
 have HL0 := hid (show n = 0 → listB wCode ys = ⟨#[]⟩ from fun h => by unfold listB; rw [if_pos (by omega)])
 have HL1 := hid (show n ≠ 0 → listB wCode ys = numB n ++ catB wCode (ys.take n) from fun h => by unfold listB; rw [if_neg (by omega), hn, ← hn, List.take_length])
 rw [hn] at hcap HL HN HSZ hlen
 rw [hn]
 have hn9 : (n : Int) ≤ 16 := by omega
 clear hl hb hn hlen hf
 by_cases hz : n = 0
 ·have HE := hid (HL0.out hz)
  have hz1 : ((n : Int) == 0) = true := by rw [hz]; rfl
  clear hz
  go_enter Tryz.func20, Tryz.ntmps20
  go_wp2_with fail
  go_ret
  exact ⟨congrArg (fun x => Ending.returned (.string x)) HE.out.symm, Below.refl _ _⟩
 have HE := hid (HL1.out hz)
 have hz1 : ((n : Int) == 0) = false := by rw [beq_eq_false_iff_ne]; omega
 clear hz
 go_enter Tryz.func20, Tryz.ntmps20
 go_wp2_with fail
 refine (HN.out _).mono ?_
 rintro r w1 ⟨rfl, hb1⟩
 have B1 := hid hb1
 clear hb1 hz1
 go_wp2_with fail
 go_loopw [5, 7, 16] (fun o _ i wr => ∃ (k : Nat) (b : ByteArray), k ≤ n ∧ i = .int .i64 k ∧ o = .string b ∧ Hid (b = numB n ++ catB wCode (ys.take k)) ∧ Hid (Below w.heap.size w wr)) (fun _ _ i _ => n - (RowKit.intOf i).toNat)
 case atStart => exact ⟨0, _, Nat.zero_le _, rfl, rfl, hid (ba_nil _).symm, B1⟩
 case round =>
  obtain ⟨k, b, hk, rfl, rfl, HBK, BW⟩ := hrel
  by_cases hlt : k < n
  ·have hkl : k < ys.length := by rw [HLN.out]; exact hlt
   have HBW := hid (HB.out.trans (BW.out.mono HB.out.size))
   obtain ⟨lb, lo, cap', cs, hv, _, _, _, hR, hcc⟩ := sliceR_at HL.out (by decide) k hkl
   rw [HLN.out] at hv
   simp only [Value.slice.injEq] at hv
   obtain ⟨rfl, -, rfl⟩ := hv
   have HNK := hid (HNX.out (numB n) k hkl)
   have HFY := hid (HF.out _ (List.getElem_mem hkl))
   have hsy := HSX.out _ (List.getElem_mem hkl)
   have hbs : b.size ≤ 10 + 2000000 * 16 := by
    rw [HBK.out, ba_size]
    have h1 := HSZ.out
    have h2 := HCS.out k
    omega
   generalize ys[k] = y at *
   clear hkl
   have HRK := hid hR
   obtain ⟨_, _, rfl, ⟨rfl, _⟩, _, _, rfl, h1, _, _, rfl, h2, rfl⟩ := hR
   obtain ⟨u1, rfl⟩ := sl_one h1
   obtain ⟨a1, k1, rfl, _, _, _⟩ := sl_shape h1
   obtain ⟨u2, rfl⟩ := sl_one h2
   obtain ⟨a2, k2, rfl, _, _, _⟩ := sl_shape h2
   clear h1 h2
   have y0 : wr.cell? ⟨lb, lo + k * 3, none⟩ = some (.int .i64 y.1) := hcc wr HBW.out 0 (by decide)
   have y1 : wr.cell? ⟨lb, lo + k * 3 + 1, none⟩ = some (.slice a1 y.2.1.length k1) := hcc wr HBW.out 1 (by decide)
   have y2 : wr.cell? ⟨lb, lo + k * 3 + 2, none⟩ = some (.slice a2 y.2.2.1.length k2) := hcc wr HBW.out 2 (by decide)
   clear hcc
   obtain ⟨A, hA⟩ : ∃ A, wCode y = A := ⟨_, rfl⟩
   have hF := fun wx (hx : Below W.heap.size W wx) => wCode_any W wx _ y hx HFY.out HRK.out
   have HO := hid hF
   rw [hA] at HO hsy HNK
   have hcat : ¬ 9223372036854775807 < b.size + A.size := by omega
   clear hF hA hbs hsy
   go_wp2_with fail
   refine (HO.out _ (HBW.out.alloc HBW.out.size _)).mono ?_
   rintro r w3 ⟨rfl, hb3⟩
   have B3 := hid ((BW.out.alloc BW.out.size (.cells #[.int .i64 y.1, .slice a1 y.2.1.length k1, .slice a2 y.2.2.1.length k2] 59)).trans (hb3.mono (BW.out.alloc BW.out.size _).size))
   clear hb3
   go_wp2_with fail
   go_roundw
   case rel => exact ⟨k + 1, _, by omega, by go_num, rfl, hid (by rw [HBK.out, ← HNK.out]), B3⟩
   case measure => simp [RowKit.intOf]; omega
  ·obtain rfl : k = n := by omega
   go_wp2_with fail
   go_ret
   exact ⟨congrArg (fun x => Ending.returned (.string x)) (show b = _ from by rw [HBK.out, HE.out]), BW.out⟩
set_option maxRecDepth 100000 in
set_option maxHeartbeats 4000000 in
theorem lData_any (W w : World) (v : Value) (ys : List D_api_Data) (hb : Below W.heap.size W w) (hl : R_s_api_Data W [v] ys) (hlen : ys.length ≤ 16) (hf : ∀ x ∈ ys, fData x = 0) :
  Calls Tryz.prog 30 #[v, .func (.func 31) #[] #[]] w fun e w' => e = .returned (.string (listB wData ys)) ∧ Below w.heap.size w w' := by
 have HN := hid (fun wx => num_any ys.length (by omega) wx)
 have HL := hid hl
 have HB := hid hb
 have HF := hid hf
 obtain ⟨ao, cap, rfl, hcap, hcm, _⟩ := sl_shape hl
 have HNX := hid (fun (b : ByteArray) k (hk : k < ys.length) => catB_more wData ys k hk b)
 have HSZ := hid (numB_size ys.length)
 have HCS := hid (fun k => catB_size2 wData 100 ys k (fun x HM => wData_size (HF.out _ HM)) hlen)
 have HSX := hid (fun x (HM : x ∈ ys) => (show (wData x).size ≤ 100 from wData_size (HF.out _ HM)))
 obtain ⟨n, hn⟩ : ∃ n, ys.length = n := ⟨_, rfl⟩
 have HLN := hid hn
 have HL0 := hid (show n = 0 → listB wData ys = ⟨#[]⟩ from fun h => by unfold listB; rw [if_pos (by omega)])
 have HL1 := hid (show n ≠ 0 → listB wData ys = numB n ++ catB wData (ys.take n) from fun h => by unfold listB; rw [if_neg (by omega), hn, ← hn, List.take_length])
 rw [hn] at hcap HL HN HSZ hlen
 rw [hn]
 have hn9 : (n : Int) ≤ 16 := by omega
 clear hl hb hn hlen hf
 by_cases hz : n = 0
 ·have HE := hid (HL0.out hz)
  have hz1 : ((n : Int) == 0) = true := by rw [hz]; rfl
  clear hz
  go_enter Tryz.func30, Tryz.ntmps30
  go_wp2_with fail
  go_ret
  exact ⟨congrArg (fun x => Ending.returned (.string x)) HE.out.symm, Below.refl _ _⟩
 have HE := hid (HL1.out hz)
 have hz1 : ((n : Int) == 0) = false := by rw [beq_eq_false_iff_ne]; omega
 clear hz
 go_enter Tryz.func30, Tryz.ntmps30
 go_wp2_with fail
 refine (HN.out _).mono ?_
 rintro r w1 ⟨rfl, hb1⟩
 have B1 := hid hb1
 clear hb1 hz1
 go_wp2_with fail
 go_loopw [5, 7, 16] (fun o _ i wr => ∃ (k : Nat) (b : ByteArray), k ≤ n ∧ i = .int .i64 k ∧ o = .string b ∧ Hid (b = numB n ++ catB wData (ys.take k)) ∧ Hid (Below w.heap.size w wr)) (fun _ _ i _ => n - (RowKit.intOf i).toNat)
 case atStart => exact ⟨0, _, Nat.zero_le _, rfl, rfl, hid (ba_nil _).symm, B1⟩
 case round =>
  obtain ⟨k, b, hk, rfl, rfl, HBK, BW⟩ := hrel
  by_cases hlt : k < n
  ·have hkl : k < ys.length := by rw [HLN.out]; exact hlt
   have HBW := hid (HB.out.trans (BW.out.mono HB.out.size))
   obtain ⟨lb, lo, cap', cs, hv, _, _, _, hR, hcc⟩ := sliceR_at HL.out (by decide) k hkl
   rw [HLN.out] at hv
   simp only [Value.slice.injEq] at hv
   obtain ⟨rfl, -, rfl⟩ := hv
   have HNK := hid (HNX.out (numB n) k hkl)
   have HFY := hid (HF.out _ (List.getElem_mem hkl))
   have hsy := HSX.out _ (List.getElem_mem hkl)
   have hbs : b.size ≤ 10 + 100 * 16 := by
    rw [HBK.out, ba_size]
    have h1 := HSZ.out
    have h2 := HCS.out k
    omega
   generalize ys[k] = y at *
   clear hkl
   have HRK := hid hR
   obtain ⟨_, _, rfl, ⟨rfl, _⟩, _, _, rfl, ⟨rfl, _⟩, rfl⟩ := hR
   have y0 : wr.cell? ⟨lb, lo + k * 2, none⟩ = some (.int .i64 y.1) := hcc wr HBW.out 0 (by decide)
   have y1 : wr.cell? ⟨lb, lo + k * 2 + 1, none⟩ = some (.string y.2.1) := hcc wr HBW.out 1 (by decide)
   clear hcc
   obtain ⟨A, hA⟩ : ∃ A, wData y = A := ⟨_, rfl⟩
   have hF := fun wx (hx : Below W.heap.size W wx) => wData_any W wx _ y hx HFY.out HRK.out
   have HO := hid hF
   rw [hA] at HO hsy HNK
   have hcat : ¬ 9223372036854775807 < b.size + A.size := by omega
   clear hF hA hbs hsy
   go_wp2_with fail
   refine (HO.out _ (HBW.out.alloc HBW.out.size _)).mono ?_
   rintro r w3 ⟨rfl, hb3⟩
   have B3 := hid ((BW.out.alloc BW.out.size (.cells #[.int .i64 y.1, .string y.2.1] 78)).trans (hb3.mono (BW.out.alloc BW.out.size _).size))
   clear hb3
   go_wp2_with fail
   go_roundw
   case rel => exact ⟨k + 1, _, by omega, by go_num, rfl, hid (by rw [HBK.out, ← HNK.out]), B3⟩
   case measure => simp [RowKit.intOf]; omega
  ·obtain rfl : k = n := by omega
   go_wp2_with fail
   go_ret
   exact ⟨congrArg (fun x => Ending.returned (.string x)) (show b = _ from by rw [HBK.out, HE.out]), BW.out⟩
end Go.Proofs.YthoalneknadheaaGreatDoor
