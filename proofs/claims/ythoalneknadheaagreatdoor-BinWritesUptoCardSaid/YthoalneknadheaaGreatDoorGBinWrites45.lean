/-
  MODULES AS BYTES, the program's Write. Condition: unicode/utf8's two tables hold what the row lists.
-/
import Derived.Test.YthoalneknadheaaGreatDoorGBinWrites30
import Derived.Test.YthoalneknadheaaGreatDoorGBinWrites38
import Derived.Test.YthoalneknadheaaGreatDoorGBinWrites42
import Derived.Test.YthoalneknadheaaGreatDoorGBinWrites44
namespace Go.Proofs.YthoalneknadheaaGreatDoor
open Go.RowKit Go.Lib

theorem secB_size (n : Int) (c : ByteArray) : (secB n c).size ≤ 11 + c.size := by
  unfold secB
  by_cases h : c.size = 0
  · rw [if_pos h]; exact Nat.zero_le _
  · rw [if_neg h, ba_size, ba_size, oneB_size]; have := numB_size c.size; omega
theorem secB_none (n : Int) : secB n ⟨#[]⟩ = ⟨#[]⟩ := if_pos rfl
structure WB (W w : World) (O M : Nat) (s : ByteArray) (cs : List Value) : Prop where
  o : Blk w O 9 [.string s]
  m : Blk w M 30 cs
  ne : M ≠ O
  bel : Below W.heap.size W w
  le : W.heap.size ≤ O
theorem WB.sec {W w w' : World} {O M : Nat} {s t : ByteArray} {cs : List Value} {e : Ending} (h : WB W w O M s cs) (hp : SPost O t w e w') : WB W w' O M t cs :=
  ⟨hp.2.1, h.m.touch hp.2.2 h.ne, h.ne, h.bel.trans (hp.2.2.below h.bel.size (fun _ hk => hk ▸ h.le)), h.le⟩
theorem WB.below {W w w' : World} {O M : Nat} {s : ByteArray} {cs : List Value} (h : WB W w O M s cs) (hb : Below w.heap.size w w') : WB W w' O M s cs :=
  ⟨h.o.below hb, h.m.below hb, h.ne, h.bel.trans (hb.mono h.bel.size), h.le⟩
theorem tabB_size (y : D_api_Module) : (tabB y).size ≤ 1000 := by
  unfold tabB
  by_cases h : 0 < y.2.2.2.1
  · rw [if_pos h, ba_size]; have := numB_size y.2.2.2.1; have h1 : (S [1, 112, 0]).size = 3 := S_size _; omega
  · rw [if_neg h]; exact Nat.zero_le _
theorem memB_size (y : D_api_Module) : (memB y).size ≤ 1000 := by
  unfold memB
  by_cases h : 0 < y.2.2.2.2.2.1
  · rw [if_pos h, ba_size, ba_size]; have := numB_size y.2.2.2.2.1; have := numB_size y.2.2.2.2.2.1; have h1 : (S [1, 1]).size = 2 := S_size _; omega
  · rw [if_neg h]; exact Nat.zero_le _
theorem begB_size (y : D_api_Module) : (begB y).size ≤ 1000 := by
  unfold begB
  by_cases h : 0 < y.2.2.2.2.2.2.2.2.1
  · rw [if_pos h]; have := numB_size (y.2.2.2.2.2.2.2.2.1 - 1); omega
  · rw [if_neg h]; exact Nat.zero_le _
theorem allB_eq (y : D_api_Module) : allB y = S [0, 97, 115, 109, 1, 0, 0, 0] ++ secB 1 (listB wSig y.1) ++ secB 2 (listB wImport y.2.1) ++ secB 3 (listB wFunc y.2.2.1) ++ secB 4 (tabB y) ++ secB 5 (memB y) ++ secB 6 (listB wGlobal y.2.2.2.2.2.2.1) ++ secB 7 (listB wExport y.2.2.2.2.2.2.2.1) ++ secB 8 (begB y) ++ secB 9 (listB wElem y.2.2.2.2.2.2.2.2.2.1) ++ secB 10 (listB wCode y.2.2.1) ++ secB 11 (listB wData y.2.2.2.2.2.2.2.2.2.2.1) := by
  unfold allB secs
  simp only [catB, ba_assoc, ba_nil]
set_option maxRecDepth 100000 in
set_option maxHeartbeats 8000000 in
theorem pwrite_any (W : World) (cs : List Value) (y : D_api_Module) (hT : UTabs W) (hR : R_api_Module W cs y) :
    Calls Tryz.prog 5 #[.agg cs.toArray] W fun e w' => e = .returned (.tuple #[.string (wModX y), .int .i64 (wModE y)]) ∧ Below W.heap.size W w' := by
  have HCK := hid (fun wx (hx : Below W.heap.size W wx) => binCheck_any wx cs y (hT.below hx) (module_bel hR hx))
  have HT := hid hT
  obtain ⟨_, _, rfl, h1, _, _, rfl, h2, _, _, rfl, h3, _, _, rfl, ⟨rfl, _⟩, _, _, rfl, ⟨rfl, _⟩, _, _, rfl, ⟨rfl, _⟩, _, _, rfl, h4, _, _, rfl, h5, _, _, rfl, ⟨rfl, _⟩, _, _, rfl, h6, _, _, rfl, h7, rfl⟩ := hR
  obtain ⟨u1, rfl⟩ := sl_one h1
  have K1 := hid h1
  obtain ⟨u2, rfl⟩ := sl_one h2
  have K2 := hid h2
  obtain ⟨u3, rfl⟩ := sl_one h3
  have K3 := hid h3
  obtain ⟨u4, rfl⟩ := sl_one h4
  have K4 := hid h4
  obtain ⟨u5, rfl⟩ := sl_one h5
  have K5 := hid h5
  obtain ⟨u6, rfl⟩ := sl_one h6
  have K6 := hid h6
  obtain ⟨u7, rfl⟩ := sl_one h7
  have K7 := hid h7
  obtain ⟨a1, k1, rfl, _, _, _⟩ := sl_shape h1
  obtain ⟨a2, k2, rfl, _, _, _⟩ := sl_shape h2
  obtain ⟨a3, k3, rfl, _, _, _⟩ := sl_shape h3
  obtain ⟨a4, k4, rfl, _, _, _⟩ := sl_shape h4
  obtain ⟨a5, k5, rfl, _, _, _⟩ := sl_shape h5
  obtain ⟨a6, k6, rfl, _, _, _⟩ := sl_shape h6
  obtain ⟨a7, k7, rfl, _, _, _⟩ := sl_shape h7
  clear h1 h2 h3 h4 h5 h6 h7
  have BM := hid (Blk.new W #[.slice a1 y.1.length k1, .slice a2 y.2.1.length k2, .slice a3 y.2.2.1.length k3, .int .i64 y.2.2.2.1, .int .i64 y.2.2.2.2.1, .int .i64 y.2.2.2.2.2.1, .slice a4 y.2.2.2.2.2.2.1.length k4, .slice a5 y.2.2.2.2.2.2.2.1.length k5, .int .i64 y.2.2.2.2.2.2.2.2.1, .slice a6 y.2.2.2.2.2.2.2.2.2.1.length k6, .slice a7 y.2.2.2.2.2.2.2.2.2.2.1.length k7] 30 _ rfl)
  have bm := (Below.refl W.heap.size W).alloc (Nat.le_refl _) (.cells #[.slice a1 y.1.length k1, .slice a2 y.2.1.length k2, .slice a3 y.2.2.1.length k3, .int .i64 y.2.2.2.1, .int .i64 y.2.2.2.2.1, .int .i64 y.2.2.2.2.2.1, .slice a4 y.2.2.2.2.2.2.1.length k4, .slice a5 y.2.2.2.2.2.2.2.1.length k5, .int .i64 y.2.2.2.2.2.2.2.2.1, .slice a6 y.2.2.2.2.2.2.2.2.2.1.length k6, .slice a7 y.2.2.2.2.2.2.2.2.2.2.1.length k7] 30)
  have BX := hid bm
  clear bm hT
  by_cases hz : fModule y = 0
  case neg =>
    have HWX := hid (show wModX y = ⟨#[]⟩ from if_neg (fun h => hz h.1))
    have HWE := hid (show wModE y = fModule y from if_neg hz)
    have hz1 : (fModule y == 0) = false := by rw [beq_eq_false_iff_ne]; exact hz
    have hz2 : (fModule y != 0) = true := by rw [bne, hz1]; rfl
    generalize fModule y = F at *
    clear hz
    go_enter Tryz.func5, Tryz.ntmps5
    go_wp2_with fail
    refine (HCK.out _ BX.out).mono ?_
    rintro r w1 ⟨rfl, hb1⟩
    have B1 := hid (BX.out.trans (hb1.mono BX.out.size))
    clear hb1
    go_wp2_with fail
    go_ret2
    exact ⟨by rw [HWX.out, HWE.out]; rfl, B1.out⟩
  have GW := hid (goodW hz)
  have HWX := hid (show wModX y = if (allB y).size ≤ 4096 then allB y else ⟨#[]⟩ from by unfold wModX; by_cases h : (allB y).size ≤ 4096; rw [if_pos ⟨hz, h⟩, if_pos h]; rw [if_neg (fun g => h g.2), if_neg h])
  have HWE := hid (show wModE y = if (allB y).size ≤ 4096 then 0 else 2 from if_pos hz)
  have HAE := hid (allB_eq y)
  rw [hz] at HCK
  clear hz
  obtain ⟨X, hX⟩ : ∃ X, wModX y = X := ⟨_, rfl⟩
  obtain ⟨E, hE⟩ : ∃ E, wModE y = E := ⟨_, rfl⟩
  rw [hX, hE]
  rw [hX] at HWX
  rw [hE] at HWE
  clear hX hE
  go_enter Tryz.func5, Tryz.ntmps5
  go_wp2_with fail
  refine (HCK.out _ BX.out).mono ?_
  rintro r w1 ⟨rfl, hb1⟩
  obtain ⟨O, hO⟩ : ∃ O, w1.heap.size = O := ⟨_, rfl⟩
  have N0 : WB W (w1.alloc (.cells #[.string (S [0, 97, 115, 109, 1, 0, 0, 0])] 9)) O W.heap.size (S [0, 97, 115, 109, 1, 0, 0, 0]) [.slice a1 y.1.length k1, .slice a2 y.2.1.length k2, .slice a3 y.2.2.1.length k3, .int .i64 y.2.2.2.1, .int .i64 y.2.2.2.2.1, .int .i64 y.2.2.2.2.2.1, .slice a4 y.2.2.2.2.2.2.1.length k4, .slice a5 y.2.2.2.2.2.2.2.1.length k5, .int .i64 y.2.2.2.2.2.2.2.2.1, .slice a6 y.2.2.2.2.2.2.2.2.2.1.length k6, .slice a7 y.2.2.2.2.2.2.2.2.2.2.1.length k7] := by
    have hb2 := hb1.size
    simp only [World.size_alloc] at hb2
    have hlt : W.heap.size < O := by rw [← hO]; have := hb1.size; simp at this; omega
    refine ⟨Blk.new w1 #[.string (S [0, 97, 115, 109, 1, 0, 0, 0])] 9 O hO.symm, (BM.out.below hb1).below ((Below.refl _ _).alloc (Nat.le_refl _) _), by omega, (BX.out.trans (hb1.mono BX.out.size)).alloc (by omega) _, by omega⟩
  have M0 := hid N0
  have m1 := fun o => cell_alloc o (Blk.cell (BM.out.below hb1) (i := 0) rfl)
  clear N0 hb1
  obtain ⟨t0, ht0⟩ : ∃ t, S [0, 97, 115, 109, 1, 0, 0, 0] = t := ⟨_, rfl⟩
  have z0 : t0.size ≤ 8 := by rw [← ht0]; exact Nat.le_of_eq (S_size _)
  rw [ht0] at HAE M0
  have HO := hid hO
  have HT0 := hid ht0
  clear hO ht0
  go_wp2_with fail
  clear m1
  rw [HO.out]
  rw [show ByteArray.mk #[0, 97, 115, 109, 1, 0, 0, 0] = t0 from HT0.out]
  obtain ⟨c1, hc1⟩ : ∃ c, listB wSig y.1 = c := ⟨_, rfl⟩
  have zc1 : c1.size ≤ 10000 := by
    rw [← hc1]
    have := listB_size wSig y.1 100 (fun x hx => wSig_size (GW.out.typ.2 x hx))
    have := GW.out.typ.1
    omega
  have HL1 := hid (fun wx (hx : Below W.heap.size W wx) => lSig_any W wx _ y.1 hx K1.out GW.out.typ.1 GW.out.typ.2)
  rw [hc1] at HL1 HAE
  refine (HL1.out _ M0.out.bel).mono ?_
  rintro r w1 ⟨rfl, hb⟩
  have L1 := hid (M0.out.below hb)
  clear hb
  go_wp2_with fail
  refine (section_any _ O t0 c1 1 (by decide) L1.out.o (by omega) (by omega)).mono ?_
  rintro r v1 hp
  have M1 := hid (L1.out.sec hp)
  obtain ⟨rfl, -⟩ := hp
  obtain ⟨t1, ht1⟩ : ∃ t, t0 ++ secB 1 c1 = t := ⟨_, rfl⟩
  have z1 : t1.size ≤ 10000000 := by rw [← ht1, ba_size]; have := secB_size 1 c1; omega
  rw [ht1] at M1 HAE
  clear ht1 hc1 zc1 z0
  obtain ⟨c2, hc2⟩ : ∃ c, listB wImport y.2.1 = c := ⟨_, rfl⟩
  have zc2 : c2.size ≤ 10000 := by
    rw [← hc2]
    have := listB_size wImport y.2.1 100 (fun x hx => wImport_size _)
    have := GW.out.imp.1
    omega
  have HL2 := hid (fun wx (hx : Below W.heap.size W wx) => lImport_any W wx _ y.2.1 hx HT.out K2.out GW.out.imp.1 GW.out.imp.2)
  rw [hc2] at HL2 HAE
  have m2 := M1.out.m.cell (i := 1) rfl
  go_wp2_with fail
  clear m2
  refine (HL2.out _ M1.out.bel).mono ?_
  rintro r w2 ⟨rfl, hb⟩
  have L2 := hid (M1.out.below hb)
  clear hb
  go_wp2_with fail
  refine (section_any _ O t1 c2 2 (by decide) L2.out.o (by omega) (by omega)).mono ?_
  rintro r v2 hp
  have M2 := hid (L2.out.sec hp)
  obtain ⟨rfl, -⟩ := hp
  obtain ⟨t2, ht2⟩ : ∃ t, t1 ++ secB 2 c2 = t := ⟨_, rfl⟩
  have z2 : t2.size ≤ 20000000 := by rw [← ht2, ba_size]; have := secB_size 2 c2; omega
  rw [ht2] at M2 HAE
  clear ht2 hc2 zc2 z1
  obtain ⟨c3, hc3⟩ : ∃ c, listB wFunc y.2.2.1 = c := ⟨_, rfl⟩
  have zc3 : c3.size ≤ 10000 := by
    rw [← hc3]
    have := listB_size wFunc y.2.2.1 100 (fun x hx => wFunc_size _)
    have := GW.out.fun_.1
    omega
  have HL3 := hid (fun wx (hx : Below W.heap.size W wx) => lFunc_any W wx _ y.2.2.1 hx K3.out GW.out.fun_.1 GW.out.fun_.2)
  rw [hc3] at HL3 HAE
  have m3 := M2.out.m.cell (i := 2) rfl
  go_wp2_with fail
  clear m3
  refine (HL3.out _ M2.out.bel).mono ?_
  rintro r w3 ⟨rfl, hb⟩
  have L3 := hid (M2.out.below hb)
  clear hb
  go_wp2_with fail
  refine (section_any _ O t2 c3 3 (by decide) L3.out.o (by omega) (by omega)).mono ?_
  rintro r v3 hp
  have M3 := hid (L3.out.sec hp)
  obtain ⟨rfl, -⟩ := hp
  obtain ⟨t3, ht3⟩ : ∃ t, t2 ++ secB 3 c3 = t := ⟨_, rfl⟩
  have z3 : t3.size ≤ 30000000 := by rw [← ht3, ba_size]; have := secB_size 3 c3; omega
  rw [ht3] at M3 HAE
  clear ht3 hc3 zc3 z2
  obtain ⟨c4, hc4⟩ : ∃ c, tabB y = c := ⟨_, rfl⟩
  have zc4 : c4.size ≤ 1000 := by rw [← hc4]; exact tabB_size y
  rw [hc4] at HAE
  have HC4 := hid hc4
  have m4 := M3.out.m.cell (i := 3) rfl
  have Z4 := hid z3
  have ZC4 := hid zc4
  clear hc4 zc4 z3
  go_upto_if 30 with fail
  clear m4
  go_cut [] from 30 to 36 (fun wy => Hid (WB W wy O W.heap.size (t3 ++ secB 4 c4) [.slice a1 y.1.length k1, .slice a2 y.2.1.length k2, .slice a3 y.2.2.1.length k3, .int .i64 y.2.2.2.1, .int .i64 y.2.2.2.2.1, .int .i64 y.2.2.2.2.2.1, .slice a4 y.2.2.2.2.2.2.1.length k4, .slice a5 y.2.2.2.2.2.2.2.1.length k5, .int .i64 y.2.2.2.2.2.2.2.2.1, .slice a6 y.2.2.2.2.2.2.2.2.2.1.length k6, .slice a7 y.2.2.2.2.2.2.2.2.2.2.1.length k7]))
  case first =>
    by_cases hpos : 0 < y.2.2.2.1
    · have hd : decide (0 < y.2.2.2.1) = true := decide_eq_true hpos
      rw [hd]
      have hcz := HC4.out
      unfold tabB at hcz
      rw [if_pos hpos] at hcz
      have hub := GW.out.tab.2
      obtain ⟨n, hn⟩ := Int.eq_ofNat_of_zero_le (show 0 ≤ y.2.2.2.1 by omega)
      have HNM := hid (fun wx => num_any n (by omega) wx)
      rw [← hn] at HNM
      have q1 : ¬ 9223372036854775807 < 3 + (numB y.2.2.2.1).size := by have := numB_size y.2.2.2.1; omega
      have m := M3.out.m.cell (i := 3) rfl
      have HCZ := hid hcz
      clear hpos hub hn hcz
      go_wp2_with fail
      clear m
      refine (HNM.out _).mono ?_
      rintro r w4 ⟨rfl, hb⟩
      have L4 := hid (M3.out.below hb)
      clear hb
      go_wp2_with fail
      rw [show ByteArray.mk #[1, 112, 0] ++ numB y.2.2.2.1 = c4 from HCZ.out]
      refine (section_any _ O t3 c4 4 (by decide) L4.out.o (by have := Z4.out; omega) (by have := ZC4.out; omega)).mono ?_
      rintro r v4 hp
      have M4 := hid (L4.out.sec hp)
      obtain ⟨rfl, -⟩ := hp
      go_wp2_with fail
      go_meet
      exact M4
    · have hd : decide (0 < y.2.2.2.1) = false := decide_eq_false hpos
      rw [hd]
      have hcz := HC4.out
      unfold tabB at hcz
      rw [if_neg hpos] at hcz
      clear hpos
      go_wp2_with fail
      go_meet
      exact hid (by rw [← hcz, secB_none, ba_nil]; exact M3.out)
  case rest =>
  have M4 := hcut
  clear hcut
  have hc4 := HC4.out
  have zc4 := ZC4.out
  have z3 := Z4.out
  obtain ⟨t4, ht4⟩ : ∃ t, t3 ++ secB 4 c4 = t := ⟨_, rfl⟩
  have z4 : t4.size ≤ 40000000 := by rw [← ht4, ba_size]; have := secB_size 4 c4; omega
  rw [ht4] at M4 HAE
  clear ht4 hc4 zc4 z3
  obtain ⟨c5, hc5⟩ : ∃ c, memB y = c := ⟨_, rfl⟩
  have zc5 : c5.size ≤ 1000 := by rw [← hc5]; exact memB_size y
  rw [hc5] at HAE
  have HC5 := hid hc5
  have m5 := M4.out.m.cell (i := 5) rfl
  have Z5 := hid z4
  have ZC5 := hid zc5
  clear hc5 zc5 z4
  go_upto_if 39 with fail
  clear m5
  go_cut [] from 39 to 49 (fun wy => Hid (WB W wy O W.heap.size (t4 ++ secB 5 c5) [.slice a1 y.1.length k1, .slice a2 y.2.1.length k2, .slice a3 y.2.2.1.length k3, .int .i64 y.2.2.2.1, .int .i64 y.2.2.2.2.1, .int .i64 y.2.2.2.2.2.1, .slice a4 y.2.2.2.2.2.2.1.length k4, .slice a5 y.2.2.2.2.2.2.2.1.length k5, .int .i64 y.2.2.2.2.2.2.2.2.1, .slice a6 y.2.2.2.2.2.2.2.2.2.1.length k6, .slice a7 y.2.2.2.2.2.2.2.2.2.2.1.length k7]))
  case first =>
    by_cases hpos : 0 < y.2.2.2.2.2.1
    · have hd : decide (0 < y.2.2.2.2.2.1) = true := decide_eq_true hpos
      rw [hd]
      have hcz := HC5.out
      unfold memB at hcz
      rw [if_pos hpos] at hcz
      obtain ⟨p1, p2, p3⟩ := GW.out.pag
      obtain ⟨n1, hn1⟩ := Int.eq_ofNat_of_zero_le p1
      obtain ⟨n2, hn2⟩ := Int.eq_ofNat_of_zero_le (show 0 ≤ y.2.2.2.2.2.1 by omega)
      have HN1 := hid (fun wx => num_any n1 (by omega) wx)
      rw [← hn1] at HN1
      have HN2 := hid (fun wx => num_any n2 (by omega) wx)
      rw [← hn2] at HN2
      have q1 : ¬ 9223372036854775807 < 2 + (numB y.2.2.2.2.1).size := by have := numB_size y.2.2.2.2.1; omega
      have q2 : ¬ 9223372036854775807 < 2 + (numB y.2.2.2.2.1).size + (numB y.2.2.2.2.2.1).size := by have := numB_size y.2.2.2.2.1; have := numB_size y.2.2.2.2.2.1; omega
      have R0 := hid (M4.out.below (Below.refl _ _).drew)
      have HCZ := hid hcz
      clear hpos p1 p2 p3 hn1 hn2 hcz
      go_wp2_with fail
      refine wp_region_tail (S := (fun w' => w'.cell? ⟨W.heap.size, 4, none⟩ = some (.int .i64 y.2.2.2.2.1) ∧ w'.cell? ⟨W.heap.size, 5, none⟩ = some (.int .i64 y.2.2.2.2.2.1) ∧ Hid (WB W w' O W.heap.size t4 [.slice a1 y.1.length k1, .slice a2 y.2.1.length k2, .slice a3 y.2.2.1.length k3, .int .i64 y.2.2.2.1, .int .i64 y.2.2.2.2.1, .int .i64 y.2.2.2.2.2.1, .slice a4 y.2.2.2.2.2.2.1.length k4, .slice a5 y.2.2.2.2.2.2.2.1.length k5, .int .i64 y.2.2.2.2.2.2.2.2.1, .slice a6 y.2.2.2.2.2.2.2.2.2.1.length k6, .slice a7 y.2.2.2.2.2.2.2.2.2.2.1.length k7]))) 9 (by kernel_rfl) (by kernel_rfl) ?_ (fun hHeld => ?_)
      · exact ⟨R0.out.m.cell (i := 4) rfl, R0.out.m.cell (i := 5) rfl, R0⟩
      repeat ((first | refine tk 0 ?_ rfl ?_ ?_ | refine tk 1 ?_ rfl ?_ ?_ | refine tk 2 ?_ rfl ?_ ?_ | refine tk 4 ?_ rfl ?_ ?_ | refine tk 5 ?_ rfl ?_ ?_ | refine tk 6 ?_ rfl ?_ ?_ | refine tk 8 ?_ rfl ?_ ?_); rotate_left; (intro wy hSw; (try dsimp only at hSw); (go_simp <;> with_reducible rfl)); (try simp only [List.getElem_toArray, List.getElem_cons_zero, List.getElem_cons_succ, Act.put, List.setIfInBounds_toArray, List.set_cons_zero, List.set_cons_succ]))
      refine wpT_one (k := 3) rfl (by kernel_rfl) (fun K hK => ?_)
      go_simp
      refine (HN1.out _).mono ?_
      rintro r u1 ⟨rfl, hb5⟩
      have R1 := hid (R0.out.below hb5)
      clear hb5
      go_wp2_with fail
      refine hK.out _ _ ?_ (fun hHeld => ?_)
      · exact ⟨R1.out.m.cell (i := 4) rfl, R1.out.m.cell (i := 5) rfl, R1⟩
      clear hK K
      (try simp only [Act.put, List.setIfInBounds_toArray, List.set_cons_zero, List.set_cons_succ])
      repeat ((first | refine tk 0 ?_ rfl ?_ ?_ | refine tk 1 ?_ rfl ?_ ?_ | refine tk 2 ?_ rfl ?_ ?_ | refine tk 4 ?_ rfl ?_ ?_ | refine tk 5 ?_ rfl ?_ ?_ | refine tk 6 ?_ rfl ?_ ?_ | refine tk 8 ?_ rfl ?_ ?_); rotate_left; (intro wy hSw; (try dsimp only at hSw); (go_simp <;> with_reducible rfl)); (try simp only [List.getElem_toArray, List.getElem_cons_zero, List.getElem_cons_succ, Act.put, List.setIfInBounds_toArray, List.set_cons_zero, List.set_cons_succ]))
      refine wpT_one (k := 7) rfl (by kernel_rfl) (fun K hK => ?_)
      go_simp
      refine (HN2.out _).mono ?_
      rintro r u2 ⟨rfl, hb5⟩
      have R2 := hid (R1.out.below hb5)
      clear hb5
      go_wp2_with fail
      refine hK.out _ _ ?_ (fun hHeld => ?_)
      · exact ⟨R2.out.m.cell (i := 4) rfl, R2.out.m.cell (i := 5) rfl, R2⟩
      clear hK K
      (try simp only [Act.put, List.setIfInBounds_toArray, List.set_cons_zero, List.set_cons_succ])
      repeat ((first | refine tk 0 ?_ rfl ?_ ?_ | refine tk 1 ?_ rfl ?_ ?_ | refine tk 2 ?_ rfl ?_ ?_ | refine tk 4 ?_ rfl ?_ ?_ | refine tk 5 ?_ rfl ?_ ?_ | refine tk 6 ?_ rfl ?_ ?_ | refine tk 8 ?_ rfl ?_ ?_); rotate_left; (intro wy hSw; (try dsimp only at hSw); (go_simp <;> with_reducible rfl)); (try simp only [List.getElem_toArray, List.getElem_cons_zero, List.getElem_cons_succ, Act.put, List.setIfInBounds_toArray, List.set_cons_zero, List.set_cons_succ]))
      refine wpT_done (by kernel_rfl) ?_
      go_wp2_with fail
      rw [show ByteArray.mk #[1, 1] ++ numB y.2.2.2.2.1 ++ numB y.2.2.2.2.2.1 = c5 from HCZ.out]
      refine (section_any _ O t4 c5 5 (by decide) R2.out.o (by have := Z5.out; omega) (by have := ZC5.out; omega)).mono ?_
      rintro r v5 hp
      have M5 := hid (R2.out.sec hp)
      obtain ⟨rfl, -⟩ := hp
      go_wp2_with fail
      go_meet
      exact M5
    · have hd : decide (0 < y.2.2.2.2.2.1) = false := decide_eq_false hpos
      rw [hd]
      have hcz := HC5.out
      unfold memB at hcz
      rw [if_neg hpos] at hcz
      clear hpos
      go_wp2_with fail
      go_meet
      exact hid (by rw [← hcz, secB_none, ba_nil]; exact M4.out)
  case rest =>
  have M5 := hcut
  clear hcut
  have hc5 := HC5.out
  have zc5 := ZC5.out
  have z4 := Z5.out
  obtain ⟨t5, ht5⟩ : ∃ t, t4 ++ secB 5 c5 = t := ⟨_, rfl⟩
  have z5 : t5.size ≤ 50000000 := by rw [← ht5, ba_size]; have := secB_size 5 c5; omega
  rw [ht5] at M5 HAE
  clear ht5 hc5 zc5 z4
  obtain ⟨c6, hc6⟩ : ∃ c, listB wGlobal y.2.2.2.2.2.2.1 = c := ⟨_, rfl⟩
  have zc6 : c6.size ≤ 10000 := by
    rw [← hc6]
    have := listB_size wGlobal y.2.2.2.2.2.2.1 100 (fun x hx => wGlobal_size _)
    have := GW.out.glo.1
    omega
  have HL6 := hid (fun wx (hx : Below W.heap.size W wx) => lGlobal_any W wx _ y.2.2.2.2.2.2.1 hx K4.out (Nat.le_trans GW.out.glo.1 (by decide)) GW.out.glo.2)
  rw [hc6] at HL6 HAE
  have m6 := M5.out.m.cell (i := 6) rfl
  go_wp2_with fail
  clear m6
  refine (HL6.out _ M5.out.bel).mono ?_
  rintro r w6 ⟨rfl, hb⟩
  have L6 := hid (M5.out.below hb)
  clear hb
  go_wp2_with fail
  refine (section_any _ O t5 c6 6 (by decide) L6.out.o (by omega) (by omega)).mono ?_
  rintro r v6 hp
  have M6 := hid (L6.out.sec hp)
  obtain ⟨rfl, -⟩ := hp
  obtain ⟨t6, ht6⟩ : ∃ t, t5 ++ secB 6 c6 = t := ⟨_, rfl⟩
  have z6 : t6.size ≤ 60000000 := by rw [← ht6, ba_size]; have := secB_size 6 c6; omega
  rw [ht6] at M6 HAE
  clear ht6 hc6 zc6 z5
  obtain ⟨c7, hc7⟩ : ∃ c, listB wExport y.2.2.2.2.2.2.2.1 = c := ⟨_, rfl⟩
  have zc7 : c7.size ≤ 10000 := by
    rw [← hc7]
    have := listB_size wExport y.2.2.2.2.2.2.2.1 100 (fun x hx => wExport_size _)
    have := GW.out.exp.1
    omega
  have HL7 := hid (fun wx (hx : Below W.heap.size W wx) => lExport_any W wx _ y.2.2.2.2.2.2.2.1 hx HT.out K5.out (Nat.le_trans GW.out.exp.1 (by decide)) GW.out.exp.2)
  rw [hc7] at HL7 HAE
  have m7 := M6.out.m.cell (i := 7) rfl
  go_wp2_with fail
  clear m7
  refine (HL7.out _ M6.out.bel).mono ?_
  rintro r w7 ⟨rfl, hb⟩
  have L7 := hid (M6.out.below hb)
  clear hb
  go_wp2_with fail
  refine (section_any _ O t6 c7 7 (by decide) L7.out.o (by omega) (by omega)).mono ?_
  rintro r v7 hp
  have M7 := hid (L7.out.sec hp)
  obtain ⟨rfl, -⟩ := hp
  obtain ⟨t7, ht7⟩ : ∃ t, t6 ++ secB 7 c7 = t := ⟨_, rfl⟩
  have z7 : t7.size ≤ 70000000 := by rw [← ht7, ba_size]; have := secB_size 7 c7; omega
  rw [ht7] at M7 HAE
  clear ht7 hc7 zc7 z6
  obtain ⟨c8, hc8⟩ : ∃ c, begB y = c := ⟨_, rfl⟩
  have zc8 : c8.size ≤ 1000 := by rw [← hc8]; exact begB_size y
  rw [hc8] at HAE
  have HC8 := hid hc8
  have m8 := M7.out.m.cell (i := 8) rfl
  have Z8 := hid z7
  have ZC8 := hid zc8
  clear hc8 zc8 z7
  go_upto_if 62 with fail
  clear m8
  go_cut [] from 62 to 68 (fun wy => Hid (WB W wy O W.heap.size (t7 ++ secB 8 c8) [.slice a1 y.1.length k1, .slice a2 y.2.1.length k2, .slice a3 y.2.2.1.length k3, .int .i64 y.2.2.2.1, .int .i64 y.2.2.2.2.1, .int .i64 y.2.2.2.2.2.1, .slice a4 y.2.2.2.2.2.2.1.length k4, .slice a5 y.2.2.2.2.2.2.2.1.length k5, .int .i64 y.2.2.2.2.2.2.2.2.1, .slice a6 y.2.2.2.2.2.2.2.2.2.1.length k6, .slice a7 y.2.2.2.2.2.2.2.2.2.2.1.length k7]))
  case first =>
    by_cases hpos : 0 < y.2.2.2.2.2.2.2.2.1
    · have hd : decide (0 < y.2.2.2.2.2.2.2.2.1) = true := decide_eq_true hpos
      rw [hd]
      have hcz := HC8.out
      unfold begB at hcz
      rw [if_pos hpos] at hcz
      have hub := GW.out.start.2
      have hwr : IntKind.i64.wrap (y.2.2.2.2.2.2.2.2.1 - 1) = y.2.2.2.2.2.2.2.2.1 - 1 := IntWalk.i64_in _ (by omega)
      obtain ⟨n, hn⟩ := Int.eq_ofNat_of_zero_le (show 0 ≤ y.2.2.2.2.2.2.2.2.1 - 1 by omega)
      have HNM := hid (fun wx => num_any n (by omega) wx)
      rw [← hn] at HNM
      have m := M7.out.m.cell (i := 8) rfl
      have HCZ := hid hcz
      have hp1 : 1 ≤ y.2.2.2.2.2.2.2.2.1 := by omega
      clear hn hcz
      go_wp2_with fail
      clear m
      refine (HNM.out _).mono ?_
      rintro r w8 ⟨rfl, hb⟩
      have L8 := hid (M7.out.below hb)
      clear hb
      go_wp2_with fail
      rw [HCZ.out]
      refine (section_any _ O t7 c8 8 (by decide) L8.out.o (by have := Z8.out; omega) (by have := ZC8.out; omega)).mono ?_
      rintro r v8 hp
      have M8 := hid (L8.out.sec hp)
      obtain ⟨rfl, -⟩ := hp
      go_wp2_with fail
      go_meet
      exact M8
    · have hd : decide (0 < y.2.2.2.2.2.2.2.2.1) = false := decide_eq_false hpos
      rw [hd]
      have hcz := HC8.out
      unfold begB at hcz
      rw [if_neg hpos] at hcz
      clear hpos
      go_wp2_with fail
      go_meet
      exact hid (by rw [← hcz, secB_none, ba_nil]; exact M7.out)
  case rest =>
  have M8 := hcut
  clear hcut
  have hc8 := HC8.out
  have zc8 := ZC8.out
  have z7 := Z8.out
  obtain ⟨t8, ht8⟩ : ∃ t, t7 ++ secB 8 c8 = t := ⟨_, rfl⟩
  have z8 : t8.size ≤ 80000000 := by rw [← ht8, ba_size]; have := secB_size 8 c8; omega
  rw [ht8] at M8 HAE
  clear ht8 hc8 zc8 z7
  obtain ⟨c9, hc9⟩ : ∃ c, listB wElem y.2.2.2.2.2.2.2.2.2.1 = c := ⟨_, rfl⟩
  have zc9 : c9.size ≤ 10000 := by
    rw [← hc9]
    have := listB_size wElem y.2.2.2.2.2.2.2.2.2.1 200 (fun x hx => wElem_size (GW.out.elem.2 x hx))
    have := GW.out.elem.1
    omega
  have HL9 := hid (fun wx (hx : Below W.heap.size W wx) => lElem_any W wx _ y.2.2.2.2.2.2.2.2.2.1 hx K6.out (Nat.le_trans GW.out.elem.1 (by decide)) GW.out.elem.2)
  rw [hc9] at HL9 HAE
  have m9 := M8.out.m.cell (i := 9) rfl
  go_wp2_with fail
  clear m9
  refine (HL9.out _ M8.out.bel).mono ?_
  rintro r w9 ⟨rfl, hb⟩
  have L9 := hid (M8.out.below hb)
  clear hb
  go_wp2_with fail
  refine (section_any _ O t8 c9 9 (by decide) L9.out.o (by omega) (by omega)).mono ?_
  rintro r v9 hp
  have M9 := hid (L9.out.sec hp)
  obtain ⟨rfl, -⟩ := hp
  obtain ⟨t9, ht9⟩ : ∃ t, t8 ++ secB 9 c9 = t := ⟨_, rfl⟩
  have z9 : t9.size ≤ 90000000 := by rw [← ht9, ba_size]; have := secB_size 9 c9; omega
  rw [ht9] at M9 HAE
  clear ht9 hc9 zc9 z8
  obtain ⟨c10, hc10⟩ : ∃ c, listB wCode y.2.2.1 = c := ⟨_, rfl⟩
  have zc10 : c10.size ≤ 100000000 := by
    rw [← hc10]
    have := listB_size wCode y.2.2.1 2000000 (fun x hx => wCode_size (GW.out.fun_.2 x hx))
    have := GW.out.fun_.1
    omega
  have HL10 := hid (fun wx (hx : Below W.heap.size W wx) => lCode_any W wx _ y.2.2.1 hx K3.out GW.out.fun_.1 GW.out.fun_.2)
  rw [hc10] at HL10 HAE
  have m10 := M9.out.m.cell (i := 2) rfl
  go_wp2_with fail
  clear m10
  refine (HL10.out _ M9.out.bel).mono ?_
  rintro r w10 ⟨rfl, hb⟩
  have L10 := hid (M9.out.below hb)
  clear hb
  go_wp2_with fail
  refine (section_any _ O t9 c10 10 (by decide) L10.out.o (by omega) (by omega)).mono ?_
  rintro r v10 hp
  have M10 := hid (L10.out.sec hp)
  obtain ⟨rfl, -⟩ := hp
  obtain ⟨t10, ht10⟩ : ∃ t, t9 ++ secB 10 c10 = t := ⟨_, rfl⟩
  have z10 : t10.size ≤ 300000000 := by rw [← ht10, ba_size]; have := secB_size 10 c10; omega
  rw [ht10] at M10 HAE
  clear ht10 hc10 zc10 z9
  obtain ⟨c11, hc11⟩ : ∃ c, listB wData y.2.2.2.2.2.2.2.2.2.2.1 = c := ⟨_, rfl⟩
  have zc11 : c11.size ≤ 10000 := by
    rw [← hc11]
    have := listB_size wData y.2.2.2.2.2.2.2.2.2.2.1 100 (fun x hx => wData_size (GW.out.data.2 x hx))
    have := GW.out.data.1
    omega
  have HL11 := hid (fun wx (hx : Below W.heap.size W wx) => lData_any W wx _ y.2.2.2.2.2.2.2.2.2.2.1 hx K7.out (Nat.le_trans GW.out.data.1 (by decide)) GW.out.data.2)
  rw [hc11] at HL11 HAE
  have m11 := M10.out.m.cell (i := 10) rfl
  go_wp2_with fail
  clear m11
  refine (HL11.out _ M10.out.bel).mono ?_
  rintro r w11 ⟨rfl, hb⟩
  have L11 := hid (M10.out.below hb)
  clear hb
  go_wp2_with fail
  refine (section_any _ O t10 c11 11 (by decide) L11.out.o (by omega) (by omega)).mono ?_
  rintro r v11 hp
  have M11 := hid (L11.out.sec hp)
  obtain ⟨rfl, -⟩ := hp
  obtain ⟨t11, ht11⟩ : ∃ t, t10 ++ secB 11 c11 = t := ⟨_, rfl⟩
  have z11 : t11.size ≤ 310000000 := by rw [← ht11, ba_size]; have := secB_size 11 c11; omega
  rw [ht11] at M11 HAE
  clear ht11 hc11 zc11 z10
  have mo := M11.out.o.cell (i := 0) rfl
  rw [HAE.out] at HWX HWE
  by_cases hs : t11.size ≤ 4096
  · have hs1 : ¬ (4096 : Int) < t11.size := by omega
    have HX := hid (HWX.out.trans (if_pos hs))
    have HE := hid (HWE.out.trans (if_pos hs))
    clear hs z11
    go_wp2_with fail
    go_ret2
    exact ⟨by rw [HX.out, HE.out]; rfl, M11.out.bel⟩
  · have hs1 : (4096 : Int) < t11.size := by omega
    have HX := hid (HWX.out.trans (if_neg hs))
    have HE := hid (HWE.out.trans (if_neg hs))
    clear hs z11
    go_wp2_with fail
    go_ret2
    exact ⟨by rw [HX.out, HE.out]; rfl, M11.out.bel⟩
end Go.Proofs.YthoalneknadheaaGreatDoor
