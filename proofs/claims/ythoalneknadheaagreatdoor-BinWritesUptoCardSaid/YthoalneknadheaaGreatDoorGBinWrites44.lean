/-
  MODULES AS BYTES, the program's: Check. Condition: unicode/utf8's two tables hold what the row lists.
-/
import Derived.Test.YthoalneknadheaaGreatDoorGBinWrites43
namespace Go.Proofs.YthoalneknadheaaGreatDoor
open Go.RowKit Go.Lib

structure KB (W w : World) (C D M : Nat) (b : Int) (cs : List Value) : Prop where
  pc : PC w C b
  d : Blk w D 117 [.pointer (some ⟨C, 0, none⟩)]
  m : Blk w M 30 cs
  cd : D ≠ C
  cm : M ≠ C
  bel : Below W.heap.size W w
  le : W.heap.size ≤ C
theorem KB.next {W w w' : World} {C D M : Nat} {b b' : Int} {cs : List Value} {e : Ending} (h : KB W w C D M b cs) (hp : CPost C b' w e w') : KB W w' C D M b' cs :=
  ⟨hp.2.1, h.d.touch hp.2.2 h.cd, h.m.touch hp.2.2 h.cm, h.cd, h.cm, hp.base h.bel h.le, h.le⟩
set_option maxRecDepth 100000 in
set_option maxHeartbeats 8000000 in
theorem binCheck_any (W : World) (cs : List Value) (y : D_api_Module) (hT : UTabs W) (hR : R_api_Module W cs y) :
    Calls Tryz.prog 10 #[.agg cs.toArray] W fun e w' => e = .returned (.int .i64 (fModule y)) ∧ Below W.heap.size W w' := by
  obtain ⟨_, _, rfl, h1, _, _, rfl, h2, _, _, rfl, h3, _, _, rfl, ⟨rfl, _⟩, _, _, rfl, ⟨rfl, _⟩, _, _, rfl, ⟨rfl, _⟩, _, _, rfl, h4, _, _, rfl, h5, _, _, rfl, ⟨rfl, _⟩, _, _, rfl, h6, _, _, rfl, h7, rfl⟩ := hR
  obtain ⟨u1, rfl⟩ := sl_one h1
  have K1 := hid h1
  obtain ⟨u2, rfl⟩ := sl_one h2
  have K2 := hid h2
  obtain ⟨u3, rfl⟩ := sl_one h3
  have K3 := hid h3
  obtain ⟨u4, rfl⟩ := sl_one h4
  have K4 := hid h4
  obtain ⟨u5, rfl⟩ := sl_one h5
  have K5 := hid h5
  obtain ⟨u6, rfl⟩ := sl_one h6
  have K6 := hid h6
  obtain ⟨u7, rfl⟩ := sl_one h7
  have K7 := hid h7
  obtain ⟨a1, k1, rfl, _, _, _⟩ := sl_shape h1
  obtain ⟨a2, k2, rfl, _, _, _⟩ := sl_shape h2
  obtain ⟨a3, k3, rfl, _, _, _⟩ := sl_shape h3
  obtain ⟨a4, k4, rfl, _, _, _⟩ := sl_shape h4
  obtain ⟨a5, k5, rfl, _, _, _⟩ := sl_shape h5
  obtain ⟨a6, k6, rfl, _, _, _⟩ := sl_shape h6
  obtain ⟨a7, k7, rfl, _, _, _⟩ := sl_shape h7
  clear h1 h2 h3 h4 h5 h6 h7
  have HT := hid hT
  clear hT
  have K0 : KB W (((W.alloc (.cells #[.slice a1 y.1.length k1, .slice a2 y.2.1.length k2, .slice a3 y.2.2.1.length k3, .int .i64 y.2.2.2.1, .int .i64 y.2.2.2.2.1, .int .i64 y.2.2.2.2.2.1, .slice a4 y.2.2.2.2.2.2.1.length k4, .slice a5 y.2.2.2.2.2.2.2.1.length k5, .int .i64 y.2.2.2.2.2.2.2.2.1, .slice a6 y.2.2.2.2.2.2.2.2.2.1.length k6, .slice a7 y.2.2.2.2.2.2.2.2.2.2.1.length k7] 30)).alloc (.cells #[.int .i64 0] 119)).alloc (.cells #[.pointer (some ⟨W.heap.size + 1, 0, none⟩)] 117)) (W.heap.size + 1) (W.heap.size + 2) W.heap.size 0 [.slice a1 y.1.length k1, .slice a2 y.2.1.length k2, .slice a3 y.2.2.1.length k3, .int .i64 y.2.2.2.1, .int .i64 y.2.2.2.2.1, .int .i64 y.2.2.2.2.2.1, .slice a4 y.2.2.2.2.2.2.1.length k4, .slice a5 y.2.2.2.2.2.2.2.1.length k5, .int .i64 y.2.2.2.2.2.2.2.2.1, .slice a6 y.2.2.2.2.2.2.2.2.2.1.length k6, .slice a7 y.2.2.2.2.2.2.2.2.2.2.1.length k7] := by
    have b1 := (Below.refl W.heap.size W).alloc (Nat.le_refl _) (.cells #[.slice a1 y.1.length k1, .slice a2 y.2.1.length k2, .slice a3 y.2.2.1.length k3, .int .i64 y.2.2.2.1, .int .i64 y.2.2.2.2.1, .int .i64 y.2.2.2.2.2.1, .slice a4 y.2.2.2.2.2.2.1.length k4, .slice a5 y.2.2.2.2.2.2.2.1.length k5, .int .i64 y.2.2.2.2.2.2.2.2.1, .slice a6 y.2.2.2.2.2.2.2.2.2.1.length k6, .slice a7 y.2.2.2.2.2.2.2.2.2.2.1.length k7] 30)
    have hM := Blk.new W #[.slice a1 y.1.length k1, .slice a2 y.2.1.length k2, .slice a3 y.2.2.1.length k3, .int .i64 y.2.2.2.1, .int .i64 y.2.2.2.2.1, .int .i64 y.2.2.2.2.2.1, .slice a4 y.2.2.2.2.2.2.1.length k4, .slice a5 y.2.2.2.2.2.2.2.1.length k5, .int .i64 y.2.2.2.2.2.2.2.2.1, .slice a6 y.2.2.2.2.2.2.2.2.2.1.length k6, .slice a7 y.2.2.2.2.2.2.2.2.2.2.1.length k7] 30 _ rfl
    have hC := Blk.new (W.alloc (.cells #[.slice a1 y.1.length k1, .slice a2 y.2.1.length k2, .slice a3 y.2.2.1.length k3, .int .i64 y.2.2.2.1, .int .i64 y.2.2.2.2.1, .int .i64 y.2.2.2.2.2.1, .slice a4 y.2.2.2.2.2.2.1.length k4, .slice a5 y.2.2.2.2.2.2.2.1.length k5, .int .i64 y.2.2.2.2.2.2.2.2.1, .slice a6 y.2.2.2.2.2.2.2.2.2.1.length k6, .slice a7 y.2.2.2.2.2.2.2.2.2.2.1.length k7] 30)) #[.int .i64 0] 119 (W.heap.size + 1) (by simp)
    have hD := Blk.new ((W.alloc (.cells #[.slice a1 y.1.length k1, .slice a2 y.2.1.length k2, .slice a3 y.2.2.1.length k3, .int .i64 y.2.2.2.1, .int .i64 y.2.2.2.2.1, .int .i64 y.2.2.2.2.2.1, .slice a4 y.2.2.2.2.2.2.1.length k4, .slice a5 y.2.2.2.2.2.2.2.1.length k5, .int .i64 y.2.2.2.2.2.2.2.2.1, .slice a6 y.2.2.2.2.2.2.2.2.2.1.length k6, .slice a7 y.2.2.2.2.2.2.2.2.2.2.1.length k7] 30)).alloc (.cells #[.int .i64 0] 119)) #[.pointer (some ⟨W.heap.size + 1, 0, none⟩)] 117 (W.heap.size + 2) (by simp)
    refine ⟨?_, hD, ?_, by omega, by omega, ?_, by omega⟩
    · exact Blk.below hC ((Below.refl _ _).alloc (Nat.le_refl _) _)
    · exact (Blk.below hM ((Below.refl _ _).alloc (Nat.le_refl _) _)).below ((Below.refl _ _).alloc (Nat.le_refl _) _)
    · exact (b1.alloc (by simp) _).alloc (by simp; omega) _
  have N0 := hid K0
  clear K0
  go_enter Tryz.func10, Tryz.ntmps10
  go_wp2_with fail
  refine (eachSig_any W _ _ 0 _ y.1 16 N0.out.bel N0.out.le K1.out N0.out.pc).mono ?_
  rintro r w1 hp
  have N1 := hid (N0.out.next hp)
  obtain ⟨rfl, -⟩ := hp
  obtain ⟨b1, hb1⟩ : ∃ b, orE 0 (eachE fSig y.1 16) = b := ⟨_, rfl⟩
  rw [hb1] at N1
  have HB1 := hid hb1
  clear hb1
  have d0 := N1.out.d.cell (i := 0) rfl
  have m1 := N1.out.m.cell (i := 1) rfl
  go_wp2_with fail
  clear d0 m1
  refine (eachImport_any W _ _ b1 _ y.2.1 16 N1.out.bel N1.out.le HT.out (W.heap.size + 2) N1.out.d N1.out.cd K2.out N1.out.pc).mono ?_
  rintro r w2 hp
  have N2 := hid (N1.out.next hp)
  obtain ⟨rfl, -⟩ := hp
  obtain ⟨b2, hb2⟩ : ∃ b, orE b1 (eachE fImport y.2.1 16) = b := ⟨_, rfl⟩
  rw [hb2] at N2
  have HB2 := hid hb2
  clear hb2
  have d0 := N2.out.d.cell (i := 0) rfl
  have m2 := N2.out.m.cell (i := 2) rfl
  go_wp2_with fail
  clear d0 m2
  refine (eachFunc_any W _ _ b2 _ y.2.2.1 16 N2.out.bel N2.out.le K3.out N2.out.pc).mono ?_
  rintro r w3 hp
  have N3 := hid (N2.out.next hp)
  obtain ⟨rfl, -⟩ := hp
  obtain ⟨b3, hb3⟩ : ∃ b, orE b2 (eachE fFunc y.2.2.1 16) = b := ⟨_, rfl⟩
  rw [hb3] at N3
  have HB3 := hid hb3
  clear hb3
  have d0 := N3.out.d.cell (i := 0) rfl
  have m3 := N3.out.m.cell (i := 3) rfl
  go_wp2_with fail
  clear d0 m3
  refine (need_any _ _ b3 1 _ N3.out.pc).mono ?_
  rintro r w4 hp
  have N4 := hid (N3.out.next hp)
  obtain ⟨rfl, -⟩ := hp
  obtain ⟨b4, hb4⟩ : ∃ b, orE b3 (ndE (decide (0 ≤ y.2.2.2.1)) 1) = b := ⟨_, rfl⟩
  rw [hb4] at N4
  have HB4 := hid hb4
  clear hb4
  have d0 := N4.out.d.cell (i := 0) rfl
  have m3 := N4.out.m.cell (i := 3) rfl
  go_wp2_with fail
  clear d0 m3
  refine (need_any _ _ b4 2 _ N4.out.pc).mono ?_
  rintro r w5 hp
  have N5 := hid (N4.out.next hp)
  obtain ⟨rfl, -⟩ := hp
  obtain ⟨b5, hb5⟩ : ∃ b, orE b4 (ndE (decide (y.2.2.2.1 ≤ 16)) 2) = b := ⟨_, rfl⟩
  rw [hb5] at N5
  have HB5 := hid hb5
  clear hb5
  have HPG : Hid ((0 ≤ y.2.2.2.2.1 → okPg y.2.2.2.2.1 y.2.2.2.2.2.1 = decide (y.2.2.2.2.1 ≤ y.2.2.2.2.2.1)) ∧ (¬ 0 ≤ y.2.2.2.2.1 → okPg y.2.2.2.2.1 y.2.2.2.2.2.1 = false)) := hid (by
    unfold okPg
    refine ⟨fun h => ?_, fun h => decide_eq_false (fun g => h g.1)⟩
    by_cases g : y.2.2.2.2.1 ≤ y.2.2.2.2.2.1
    · rw [decide_eq_true g, decide_eq_true ⟨h, g⟩]
    · rw [decide_eq_false g, decide_eq_false (fun q => g q.2)])
  by_cases hpg : 0 ≤ y.2.2.2.2.1
  · have hq := hid (HPG.out.1 hpg)
    have hd : decide (0 ≤ y.2.2.2.2.1) = true := decide_eq_true hpg
    have d0 := N5.out.d.cell (i := 0) rfl
    have m4 := N5.out.m.cell (i := 4) rfl
    have m5 := N5.out.m.cell (i := 5) rfl
    go_wp2_with fail
    clear d0 m4 m5
    refine (need_any _ _ b5 1 _ N5.out.pc).mono ?_
    rintro r w6 hp
    have N6 := hid (N5.out.next hp)
    obtain ⟨rfl, -⟩ := hp
    obtain ⟨b6, hb6⟩ : ∃ b, orE b5 (ndE (decide (y.2.2.2.2.1 ≤ y.2.2.2.2.2.1)) 1) = b := ⟨_, rfl⟩
    rw [hb6] at N6
    have HB6 := hid hb6
    clear hb6
    have HB6x := hid (show orE b5 (ndE (okPg y.2.2.2.2.1 y.2.2.2.2.2.1) 1) = b6 from by rw [hq.out]; exact HB6.out)
    have d0 := N6.out.d.cell (i := 0) rfl
    have m5 := N6.out.m.cell (i := 5) rfl
    go_wp2_with fail
    clear d0 m5
    refine (need_any _ _ b6 2 _ N6.out.pc).mono ?_
    rintro r w7 hp
    have N7 := hid (N6.out.next hp)
    obtain ⟨rfl, -⟩ := hp
    obtain ⟨b7, hb7⟩ : ∃ b, orE b6 (ndE (decide (y.2.2.2.2.2.1 ≤ 8)) 2) = b := ⟨_, rfl⟩
    rw [hb7] at N7
    have HB7 := hid hb7
    clear hb7
    have d0 := N7.out.d.cell (i := 0) rfl
    have m6 := N7.out.m.cell (i := 6) rfl
    go_wp2_with fail
    clear d0 m6
    refine (eachGlobal_any W _ _ b7 _ y.2.2.2.2.2.2.1 8 N7.out.bel N7.out.le (W.heap.size + 2) N7.out.d N7.out.cd K4.out N7.out.pc).mono ?_
    rintro r w8 hp
    have N8 := hid (N7.out.next hp)
    obtain ⟨rfl, -⟩ := hp
    obtain ⟨b8, hb8⟩ : ∃ b, orE b7 (eachE fGlobal y.2.2.2.2.2.2.1 8) = b := ⟨_, rfl⟩
    rw [hb8] at N8
    have HB8 := hid hb8
    clear hb8
    have d0 := N8.out.d.cell (i := 0) rfl
    have m7 := N8.out.m.cell (i := 7) rfl
    go_wp2_with fail
    clear d0 m7
    refine (eachExport_any W _ _ b8 _ y.2.2.2.2.2.2.2.1 8 N8.out.bel N8.out.le HT.out K5.out N8.out.pc).mono ?_
    rintro r w9 hp
    have N9 := hid (N8.out.next hp)
    obtain ⟨rfl, -⟩ := hp
    obtain ⟨b9, hb9⟩ : ∃ b, orE b8 (eachE fExport y.2.2.2.2.2.2.2.1 8) = b := ⟨_, rfl⟩
    rw [hb9] at N9
    have HB9 := hid hb9
    clear hb9
    have d0 := N9.out.d.cell (i := 0) rfl
    have m8 := N9.out.m.cell (i := 8) rfl
    go_wp2_with fail
    clear d0 m8
    refine (indexB_any _ _ b9 _ N9.out.pc).mono ?_
    rintro r w10 hp
    have N10 := hid (N9.out.next hp)
    obtain ⟨rfl, -⟩ := hp
    obtain ⟨b10, hb10⟩ : ∃ b, orE b9 (fIdx y.2.2.2.2.2.2.2.2.1) = b := ⟨_, rfl⟩
    rw [hb10] at N10
    have HB10 := hid hb10
    clear hb10
    have d0 := N10.out.d.cell (i := 0) rfl
    have m9 := N10.out.m.cell (i := 9) rfl
    go_wp2_with fail
    clear d0 m9
    refine (eachElem_any W _ _ b10 _ y.2.2.2.2.2.2.2.2.2.1 4 N10.out.bel N10.out.le K6.out N10.out.pc).mono ?_
    rintro r w11 hp
    have N11 := hid (N10.out.next hp)
    obtain ⟨rfl, -⟩ := hp
    obtain ⟨b11, hb11⟩ : ∃ b, orE b10 (eachE fElem y.2.2.2.2.2.2.2.2.2.1 4) = b := ⟨_, rfl⟩
    rw [hb11] at N11
    have HB11 := hid hb11
    clear hb11
    have d0 := N11.out.d.cell (i := 0) rfl
    have m10 := N11.out.m.cell (i := 10) rfl
    go_wp2_with fail
    clear d0 m10
    refine (eachData_any W _ _ b11 _ y.2.2.2.2.2.2.2.2.2.2.1 4 N11.out.bel N11.out.le (W.heap.size + 2) N11.out.d N11.out.cd K7.out N11.out.pc).mono ?_
    rintro r w12 hp
    have N12 := hid (N11.out.next hp)
    obtain ⟨rfl, -⟩ := hp
    obtain ⟨b12, hb12⟩ : ∃ b, orE b11 (eachE fData y.2.2.2.2.2.2.2.2.2.2.1 4) = b := ⟨_, rfl⟩
    rw [hb12] at N12
    have HB12 := hid hb12
    clear hb12
    have d0 := N12.out.d.cell (i := 0) rfl
    have q0 := Blk.cell N12.out.pc (i := 0) rfl
    go_wp2_with fail
    go_ret
    refine ⟨?_, N12.out.bel⟩
    unfold fModule
    have e1 := HB1.out
    rw [orE_zero] at e1
    rw [orE_none, e1, HB2.out, HB3.out, HB4.out, HB5.out, HB6x.out, HB7.out, HB8.out, HB9.out, HB10.out, HB11.out, HB12.out]
    rfl
  · have hq := hid (HPG.out.2 hpg)
    have hd : decide (0 ≤ y.2.2.2.2.1) = false := decide_eq_false hpg
    clear hpg
    have d0 := N5.out.d.cell (i := 0) rfl
    have m4 := N5.out.m.cell (i := 4) rfl
    have m5 := N5.out.m.cell (i := 5) rfl
    go_wp2_with fail
    clear d0 m4 m5
    refine (need_any _ _ b5 1 _ N5.out.pc).mono ?_
    rintro r w6 hp
    have N6 := hid (N5.out.next hp)
    obtain ⟨rfl, -⟩ := hp
    obtain ⟨b6, hb6⟩ : ∃ b, orE b5 (ndE false 1) = b := ⟨_, rfl⟩
    rw [hb6] at N6
    have HB6 := hid hb6
    clear hb6
    have HB6x := hid (show orE b5 (ndE (okPg y.2.2.2.2.1 y.2.2.2.2.2.1) 1) = b6 from by rw [hq.out]; exact HB6.out)
    have d0 := N6.out.d.cell (i := 0) rfl
    have m5 := N6.out.m.cell (i := 5) rfl
    go_wp2_with fail
    clear d0 m5
    refine (need_any _ _ b6 2 _ N6.out.pc).mono ?_
    rintro r w7 hp
    have N7 := hid (N6.out.next hp)
    obtain ⟨rfl, -⟩ := hp
    obtain ⟨b7, hb7⟩ : ∃ b, orE b6 (ndE (decide (y.2.2.2.2.2.1 ≤ 8)) 2) = b := ⟨_, rfl⟩
    rw [hb7] at N7
    have HB7 := hid hb7
    clear hb7
    have d0 := N7.out.d.cell (i := 0) rfl
    have m6 := N7.out.m.cell (i := 6) rfl
    go_wp2_with fail
    clear d0 m6
    refine (eachGlobal_any W _ _ b7 _ y.2.2.2.2.2.2.1 8 N7.out.bel N7.out.le (W.heap.size + 2) N7.out.d N7.out.cd K4.out N7.out.pc).mono ?_
    rintro r w8 hp
    have N8 := hid (N7.out.next hp)
    obtain ⟨rfl, -⟩ := hp
    obtain ⟨b8, hb8⟩ : ∃ b, orE b7 (eachE fGlobal y.2.2.2.2.2.2.1 8) = b := ⟨_, rfl⟩
    rw [hb8] at N8
    have HB8 := hid hb8
    clear hb8
    have d0 := N8.out.d.cell (i := 0) rfl
    have m7 := N8.out.m.cell (i := 7) rfl
    go_wp2_with fail
    clear d0 m7
    refine (eachExport_any W _ _ b8 _ y.2.2.2.2.2.2.2.1 8 N8.out.bel N8.out.le HT.out K5.out N8.out.pc).mono ?_
    rintro r w9 hp
    have N9 := hid (N8.out.next hp)
    obtain ⟨rfl, -⟩ := hp
    obtain ⟨b9, hb9⟩ : ∃ b, orE b8 (eachE fExport y.2.2.2.2.2.2.2.1 8) = b := ⟨_, rfl⟩
    rw [hb9] at N9
    have HB9 := hid hb9
    clear hb9
    have d0 := N9.out.d.cell (i := 0) rfl
    have m8 := N9.out.m.cell (i := 8) rfl
    go_wp2_with fail
    clear d0 m8
    refine (indexB_any _ _ b9 _ N9.out.pc).mono ?_
    rintro r w10 hp
    have N10 := hid (N9.out.next hp)
    obtain ⟨rfl, -⟩ := hp
    obtain ⟨b10, hb10⟩ : ∃ b, orE b9 (fIdx y.2.2.2.2.2.2.2.2.1) = b := ⟨_, rfl⟩
    rw [hb10] at N10
    have HB10 := hid hb10
    clear hb10
    have d0 := N10.out.d.cell (i := 0) rfl
    have m9 := N10.out.m.cell (i := 9) rfl
    go_wp2_with fail
    clear d0 m9
    refine (eachElem_any W _ _ b10 _ y.2.2.2.2.2.2.2.2.2.1 4 N10.out.bel N10.out.le K6.out N10.out.pc).mono ?_
    rintro r w11 hp
    have N11 := hid (N10.out.next hp)
    obtain ⟨rfl, -⟩ := hp
    obtain ⟨b11, hb11⟩ : ∃ b, orE b10 (eachE fElem y.2.2.2.2.2.2.2.2.2.1 4) = b := ⟨_, rfl⟩
    rw [hb11] at N11
    have HB11 := hid hb11
    clear hb11
    have d0 := N11.out.d.cell (i := 0) rfl
    have m10 := N11.out.m.cell (i := 10) rfl
    go_wp2_with fail
    clear d0 m10
    refine (eachData_any W _ _ b11 _ y.2.2.2.2.2.2.2.2.2.2.1 4 N11.out.bel N11.out.le (W.heap.size + 2) N11.out.d N11.out.cd K7.out N11.out.pc).mono ?_
    rintro r w12 hp
    have N12 := hid (N11.out.next hp)
    obtain ⟨rfl, -⟩ := hp
    obtain ⟨b12, hb12⟩ : ∃ b, orE b11 (eachE fData y.2.2.2.2.2.2.2.2.2.2.1 4) = b := ⟨_, rfl⟩
    rw [hb12] at N12
    have HB12 := hid hb12
    clear hb12
    have d0 := N12.out.d.cell (i := 0) rfl
    have q0 := Blk.cell N12.out.pc (i := 0) rfl
    go_wp2_with fail
    go_ret
    refine ⟨?_, N12.out.bel⟩
    unfold fModule
    have e1 := HB1.out
    rw [orE_zero] at e1
    rw [orE_none, e1, HB2.out, HB3.out, HB4.out, HB5.out, HB6x.out, HB7.out, HB8.out, HB9.out, HB10.out, HB11.out, HB12.out]
    rfl
end Go.Proofs.YthoalneknadheaaGreatDoor
