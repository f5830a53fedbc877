/-
  MODULES AS BYTES, the reference's placeBytes and sections. Conditions: the module passes the check; the variable of the library that strings.Contains reads holds some number.
-/
import Derived.Test.YthoalneknadheaaGreatDoorGBinWrites25
import Derived.Test.YthoalneknadheaaGreatDoorGBinWrites36
import Derived.Test.YthoalneknadheaaGreatDoorGBinWrites38
import Derived.Test.YthoalneknadheaaGreatDoorGBinWrites46
import Derived.Test.YthoalneknadheaaGreatDoorGBinWrites47
namespace Go.Proofs.YthoalneknadheaaGreatDoor
open Go.RowKit Go.Lib

theorem u_at (n : Int) (h : 0 ≤ n ∧ n ≤ 9223372036854775807) (A : ByteArray) (hA : A = numB n) (w : World) :
  Calls Tryz.prog 35 #[.int .i64 n] w fun e w' => e = .returned (.string A) ∧ Below w.heap.size w w' := by
 obtain ⟨k, rfl⟩ := Int.eq_ofNat_of_zero_le h.1
 subst hA
 exact ru_any k (by omega) w
theorem chr_at (n : Int) (A : ByteArray) (hA : A = S [byteOf n]) (w : World) :
  Calls Tryz.prog 34 #[.int .i64 n] w fun e w' => e = .returned (.string A) ∧ Below w.heap.size w w' := by
 subst hA
 exact chr_any n w
theorem rs_at (n : Int) (A : ByteArray) (hA : A = S (encS 9 n)) (w : World) :
  Calls Tryz.prog 99 #[.int .i64 n] w fun e w' => e = .returned (.string A) ∧ Below w.heap.size w w' := by
 subst hA
 exact rlebS_any n w
theorem rname_at (s : ByteArray) (h : nameE s = 0) (A : ByteArray) (hA : A = nameX s) (w : World) :
  Calls Tryz.prog 97 #[.string s] w fun e w' => e = .returned (.string A) ∧ Below w.heap.size w w' := by
 subst hA
 obtain ⟨h1, h2⟩ := nameX_good h
 rw [h2]
 exact rnameB_any s (by omega) w
set_option maxRecDepth 100000 in
set_option maxHeartbeats 2000000 in
theorem rplace_any (n : Int) (w : World) (A : ByteArray) (hA : A = placeB n) :
  Calls Tryz.prog 100 #[.int .i64 n] w fun e w' => e = .returned (.string A) ∧ Below w.heap.size w w' := by
 subst hA
 obtain ⟨C0, h0⟩ : ∃ C, S [byteOf 0] = C := ⟨_, rfl⟩
 obtain ⟨C65, h65⟩ : ∃ C, S [byteOf 65] = C := ⟨_, rfl⟩
 obtain ⟨C11, h11⟩ : ∃ C, S [byteOf 11] = C := ⟨_, rfl⟩
 obtain ⟨L, hL⟩ : ∃ C, S (encS 9 n) = C := ⟨_, rfl⟩
 have H0 := hid (fun wx => chr_at 0 C0 h0.symm wx)
 have H65 := hid (fun wx => chr_at 65 C65 h65.symm wx)
 have H11 := hid (fun wx => chr_at 11 C11 h11.symm wx)
 have HL := hid (fun wx => rs_at n L hL.symm wx)
 have HF := hid (show placeB n = C0 ++ C65 ++ L ++ C11 from by rw [← h0, ← h65, ← hL, ← h11]; rfl)
 have s0 : C0.size = 1 := by rw [← h0]; exact S_size _
 have s65 : C65.size = 1 := by rw [← h65]; exact S_size _
 have s11 : C11.size = 1 := by rw [← h11]; exact S_size _
 have sL := encS9_size n
 rw [hL] at sL
 have q1 : ¬ 9223372036854775807 < C0.size + C65.size := by omega
 have q2 : ¬ 9223372036854775807 < C0.size + C65.size + L.size := by omega
 have q3 : ¬ 9223372036854775807 < C0.size + C65.size + L.size + C11.size := by omega
 have q2' : ¬ 9223372036854775807 < (C0 ++ C65).size + L.size := by rw [ba_size]; omega
 have q3' : ¬ 9223372036854775807 < (C0 ++ C65 ++ L).size + C11.size := by rw [ba_size, ba_size]; omega
 rw [HF.out]
 clear s0 s65 s11 sL h0 h65 h11 hL
 go_enter Tryz.func100, Tryz.ntmps100
 go_wp2_with fail
 refine (H0.out _).mono ?_
 rintro r w1 ⟨rfl, hb1⟩
 have B1 := hid hb1
 clear hb1
 go_wp2_with fail
 refine (H65.out _).mono ?_
 rintro r w2 ⟨rfl, hb2⟩
 have B2 := hid (B1.out.trans (hb2.mono B1.out.size))
 clear hb2
 go_wp2_with fail
 refine (HL.out _).mono ?_
 rintro r w3 ⟨rfl, hb3⟩
 have B3 := hid (B2.out.trans (hb3.mono B2.out.size))
 clear hb3
 go_wp2_with fail
 refine (H11.out _).mono ?_
 rintro r w4 ⟨rfl, hb4⟩
 have B4 := hid (B3.out.trans (hb4.mono B3.out.size))
 clear hb4
 go_wp2_with fail
 go_ret
 exact ⟨rfl, B4.out⟩
structure RS (W w : World) (O M R : Nat) (os cs es : List Value) : Prop where
 o : Blk w O 80 os
 m : Blk w M 30 cs
 r : Blk w R 80 es
 nm : M ≠ O
 nr : R ≠ O
 bel : Below W.heap.size W w
 le : W.heap.size ≤ O
theorem RS.below {W w w' : World} {O M R : Nat} {os cs es : List Value} (h : RS W w O M R os cs es) (hb : Below w.heap.size w w') : RS W w' O M R os cs es :=
 ⟨h.o.below hb, h.m.below hb, h.r.below hb, h.nm, h.nr, h.bel.trans (hb.mono h.bel.size), h.le⟩
theorem RS.put {W w : World} {O M R : Nat} {os cs es : List Value} (h : RS W w O M R os cs es) (k : Nat) (v : Value) : RS W (w.setCell ⟨O, k, none⟩ v) O M R (os.set k v) cs es :=
 ⟨h.o.set k v, h.m.other (fun e => h.nm e.symm) v, h.r.other (fun e => h.nr e.symm) v, h.nm, h.nr, h.bel.setCell h.le v, h.le⟩
set_option maxRecDepth 100000 in
set_option maxHeartbeats 40000000 in
theorem rsections_any (W : World) (cs : List Value) (y : D_api_Module) (hM : MaxL W) (hz : fModule y = 0) (hR : R_api_Module W cs y) :
  Calls Tryz.prog 33 #[.agg cs.toArray] W fun e w' => e = .returned (.agg (secVals y)) ∧ Below W.heap.size W w' := by
 have GW := hid (goodW hz)
 have HM := hid hM
 obtain ⟨FIN, hF⟩ : ∃ F, secVals y = F := ⟨_, rfl⟩
 rw [hF]
 have HFI := hid hF
 clear hF
 obtain ⟨_, _, rfl, h1, _, _, rfl, h2, _, _, rfl, h3, _, _, rfl, ⟨rfl, _⟩, _, _, rfl, ⟨rfl, _⟩, _, _, rfl, ⟨rfl, _⟩, _, _, rfl, h4, _, _, rfl, h5, _, _, rfl, ⟨rfl, _⟩, _, _, rfl, h6, _, _, rfl, h7, rfl⟩ := hR
 obtain ⟨u1, rfl⟩ := sl_one h1
 have K1 := hid h1
 obtain ⟨u2, rfl⟩ := sl_one h2
 have K2 := hid h2
 obtain ⟨u3, rfl⟩ := sl_one h3
 have K3 := hid h3
 obtain ⟨u4, rfl⟩ := sl_one h4
 have K4 := hid h4
 obtain ⟨u5, rfl⟩ := sl_one h5
 have K5 := hid h5
 obtain ⟨u6, rfl⟩ := sl_one h6
 have K6 := hid h6
 obtain ⟨u7, rfl⟩ := sl_one h7
 have K7 := hid h7
 obtain ⟨a1, k1, rfl, _, _, _⟩ := sl_shape h1
 obtain ⟨a2, k2, rfl, _, _, _⟩ := sl_shape h2
 obtain ⟨a3, k3, rfl, _, _, _⟩ := sl_shape h3
 obtain ⟨a4, k4, rfl, _, _, _⟩ := sl_shape h4
 obtain ⟨a5, k5, rfl, _, _, _⟩ := sl_shape h5
 obtain ⟨a6, k6, rfl, _, _, _⟩ := sl_shape h6
 obtain ⟨a7, k7, rfl, _, _, _⟩ := sl_shape h7
 clear h1 h2 h3 h4 h5 h6 h7
 obtain ⟨n1, hn1⟩ : ∃ n, y.1.length = n := ⟨_, rfl⟩
 have HN1 := hid hn1
 obtain ⟨n2, hn2⟩ : ∃ n, y.2.1.length = n := ⟨_, rfl⟩
 have HN2 := hid hn2
 obtain ⟨n3, hn3⟩ : ∃ n, y.2.2.1.length = n := ⟨_, rfl⟩
 have HN3 := hid hn3
 obtain ⟨n4, hn4⟩ : ∃ n, y.2.2.2.2.2.2.1.length = n := ⟨_, rfl⟩
 have HN4 := hid hn4
 obtain ⟨n5, hn5⟩ : ∃ n, y.2.2.2.2.2.2.2.1.length = n := ⟨_, rfl⟩
 have HN5 := hid hn5
 obtain ⟨n6, hn6⟩ : ∃ n, y.2.2.2.2.2.2.2.2.2.1.length = n := ⟨_, rfl⟩
 have HN6 := hid hn6
 obtain ⟨n7, hn7⟩ : ∃ n, y.2.2.2.2.2.2.2.2.2.2.1.length = n := ⟨_, rfl⟩
 have HN7 := hid hn7
 rw [hn1] at K1
 rw [hn2] at K2
 rw [hn3] at K3
 rw [hn4] at K4
 rw [hn5] at K5
 rw [hn6] at K6
 rw [hn7] at K7
 rw [hn1, hn2, hn3, hn4, hn5, hn6, hn7]
 clear hn1 hn2 hn3 hn4 hn5 hn6 hn7
 have N0 : RS W (((W.alloc (.cells #[.slice a1 n1 k1, .slice a2 n2 k2, .slice a3 n3 k3, .int .i64 y.2.2.2.1, .int .i64 y.2.2.2.2.1, .int .i64 y.2.2.2.2.2.1, .slice a4 n4 k4, .slice a5 n5 k5, .int .i64 y.2.2.2.2.2.2.2.2.1, .slice a6 n6 k6, .slice a7 n7 k7] 30)).alloc (.cells #[.string ⟨#[]⟩, .string ⟨#[]⟩, .string ⟨#[]⟩, .string ⟨#[]⟩, .string ⟨#[]⟩, .string ⟨#[]⟩, .string ⟨#[]⟩, .string ⟨#[]⟩, .string ⟨#[]⟩, .string ⟨#[]⟩, .string ⟨#[]⟩, .string ⟨#[]⟩] 80)).alloc (.cells #[.string ⟨#[]⟩, .string ⟨#[]⟩, .string ⟨#[]⟩, .string ⟨#[]⟩, .string ⟨#[]⟩, .string ⟨#[]⟩, .string ⟨#[]⟩, .string ⟨#[]⟩, .string ⟨#[]⟩, .string ⟨#[]⟩, .string ⟨#[]⟩, .string ⟨#[]⟩] 80)) (W.heap.size + 1 + 1) W.heap.size (W.heap.size + 1) [.string ⟨#[]⟩, .string ⟨#[]⟩, .string ⟨#[]⟩, .string ⟨#[]⟩, .string ⟨#[]⟩, .string ⟨#[]⟩, .string ⟨#[]⟩, .string ⟨#[]⟩, .string ⟨#[]⟩, .string ⟨#[]⟩, .string ⟨#[]⟩, .string ⟨#[]⟩] [.slice a1 n1 k1, .slice a2 n2 k2, .slice a3 n3 k3, .int .i64 y.2.2.2.1, .int .i64 y.2.2.2.2.1, .int .i64 y.2.2.2.2.2.1, .slice a4 n4 k4, .slice a5 n5 k5, .int .i64 y.2.2.2.2.2.2.2.2.1, .slice a6 n6 k6, .slice a7 n7 k7] [.string ⟨#[]⟩, .string ⟨#[]⟩, .string ⟨#[]⟩, .string ⟨#[]⟩, .string ⟨#[]⟩, .string ⟨#[]⟩, .string ⟨#[]⟩, .string ⟨#[]⟩, .string ⟨#[]⟩, .string ⟨#[]⟩, .string ⟨#[]⟩, .string ⟨#[]⟩] := by
  have b1 := (Below.refl W.heap.size W).alloc (Nat.le_refl _) (.cells #[.slice a1 n1 k1, .slice a2 n2 k2, .slice a3 n3 k3, .int .i64 y.2.2.2.1, .int .i64 y.2.2.2.2.1, .int .i64 y.2.2.2.2.2.1, .slice a4 n4 k4, .slice a5 n5 k5, .int .i64 y.2.2.2.2.2.2.2.2.1, .slice a6 n6 k6, .slice a7 n7 k7] 30)
  have hm := Blk.new W #[.slice a1 n1 k1, .slice a2 n2 k2, .slice a3 n3 k3, .int .i64 y.2.2.2.1, .int .i64 y.2.2.2.2.1, .int .i64 y.2.2.2.2.2.1, .slice a4 n4 k4, .slice a5 n5 k5, .int .i64 y.2.2.2.2.2.2.2.2.1, .slice a6 n6 k6, .slice a7 n7 k7] 30 _ rfl
  have hr := Blk.new (W.alloc (.cells #[.slice a1 n1 k1, .slice a2 n2 k2, .slice a3 n3 k3, .int .i64 y.2.2.2.1, .int .i64 y.2.2.2.2.1, .int .i64 y.2.2.2.2.2.1, .slice a4 n4 k4, .slice a5 n5 k5, .int .i64 y.2.2.2.2.2.2.2.2.1, .slice a6 n6 k6, .slice a7 n7 k7] 30)) #[.string ⟨#[]⟩, .string ⟨#[]⟩, .string ⟨#[]⟩, .string ⟨#[]⟩, .string ⟨#[]⟩, .string ⟨#[]⟩, .string ⟨#[]⟩, .string ⟨#[]⟩, .string ⟨#[]⟩, .string ⟨#[]⟩, .string ⟨#[]⟩, .string ⟨#[]⟩] 80 (W.heap.size + 1) (by simp)
  have ho := Blk.new ((W.alloc (.cells #[.slice a1 n1 k1, .slice a2 n2 k2, .slice a3 n3 k3, .int .i64 y.2.2.2.1, .int .i64 y.2.2.2.2.1, .int .i64 y.2.2.2.2.2.1, .slice a4 n4 k4, .slice a5 n5 k5, .int .i64 y.2.2.2.2.2.2.2.2.1, .slice a6 n6 k6, .slice a7 n7 k7] 30)).alloc (.cells #[.string ⟨#[]⟩, .string ⟨#[]⟩, .string ⟨#[]⟩, .string ⟨#[]⟩, .string ⟨#[]⟩, .string ⟨#[]⟩, .string ⟨#[]⟩, .string ⟨#[]⟩, .string ⟨#[]⟩, .string ⟨#[]⟩, .string ⟨#[]⟩, .string ⟨#[]⟩] 80)) #[.string ⟨#[]⟩, .string ⟨#[]⟩, .string ⟨#[]⟩, .string ⟨#[]⟩, .string ⟨#[]⟩, .string ⟨#[]⟩, .string ⟨#[]⟩, .string ⟨#[]⟩, .string ⟨#[]⟩, .string ⟨#[]⟩, .string ⟨#[]⟩, .string ⟨#[]⟩] 80 (W.heap.size + 1 + 1) (by simp)
  exact ⟨ho, (hm.below ((Below.refl _ _).alloc (Nat.le_refl _) _)).below ((Below.refl _ _).alloc (Nat.le_refl _) _), hr.below ((Below.refl _ _).alloc (Nat.le_refl _) _), by omega, by omega, (b1.alloc (by simp) _).alloc (by simp; omega) _, by omega⟩
 have M0 := hid N0
 have m := N0.m.cell (i := 0) rfl
 clear N0 hM hz
 go_enter Tryz.func33, Tryz.ntmps33
 go_wp2_with fail
 clear m
 have HX1 := hid (fun k (hk : k < y.1.length) => catB_next wSig y.1 k hk)
 have HC1 := hid (fun k => catB_size2 wSig 100 y.1 k (fun x HM => wSig_size (GW.out.typ.2 x HM)) GW.out.typ.1)
 have HF := hid GW.out.typ.2
 have hn16 : (n1 : Int) ≤ 16 := by have h1 := GW.out.typ.1; have h2 := HN1.out; omega
 go_loopw [5, 28] (fun _ i wr => ∃ k : Nat, k ≤ n1 ∧ i = .int .i64 k ∧ Hid (RS W wr (W.heap.size + 1 + 1) W.heap.size (W.heap.size + 1) [.string ⟨#[]⟩, .string (catB wSig (y.1.take k)), .string ⟨#[]⟩, .string ⟨#[]⟩, .string ⟨#[]⟩, .string ⟨#[]⟩, .string ⟨#[]⟩, .string ⟨#[]⟩, .string ⟨#[]⟩, .string ⟨#[]⟩, .string ⟨#[]⟩, .string ⟨#[]⟩] [.slice a1 n1 k1, .slice a2 n2 k2, .slice a3 n3 k3, .int .i64 y.2.2.2.1, .int .i64 y.2.2.2.2.1, .int .i64 y.2.2.2.2.2.1, .slice a4 n4 k4, .slice a5 n5 k5, .int .i64 y.2.2.2.2.2.2.2.2.1, .slice a6 n6 k6, .slice a7 n7 k7] [.string ⟨#[]⟩, .string ⟨#[]⟩, .string ⟨#[]⟩, .string ⟨#[]⟩, .string ⟨#[]⟩, .string ⟨#[]⟩, .string ⟨#[]⟩, .string ⟨#[]⟩, .string ⟨#[]⟩, .string ⟨#[]⟩, .string ⟨#[]⟩, .string ⟨#[]⟩])) (fun _ i _ => n1 - (RowKit.intOf i).toNat)
 case atStart => exact ⟨0, Nat.zero_le _, rfl, M0⟩
 obtain ⟨k, hk, rfl, R⟩ := hrel
 by_cases hlt : k < n1
 ·have hkl : k < y.1.length := by rw [HN1.out]; exact hlt
  have HBW := hid R.out.bel
  obtain ⟨lb, lo, cap', cs, hv, _, _, _, hR, hcc⟩ := sliceR_at K1.out (by decide) k hkl
  rw [HN1.out] at hv
  simp only [Value.slice.injEq] at hv
  obtain ⟨rfl, -, rfl⟩ := hv
  have HNK1 := hid (HX1.out k hkl)
  have hbs1 : (catB wSig (y.1.take k)).size ≤ 1600 := HC1.out k
  have HFY := hid (HF.out _ (List.getElem_mem hkl))
  generalize catB wSig (y.1.take k) = b1 at *
  generalize y.1[k] = x at *
  clear hkl
  obtain ⟨_, _, rfl, h1, _, _, rfl, h2, rfl⟩ := hR
  obtain ⟨v1, rfl⟩ := sl_one h1
  have LL1 := hid h1
  obtain ⟨p1, c1, rfl, _, _, _⟩ := sl_shape h1
  clear h1
  obtain ⟨v2, rfl⟩ := sl_one h2
  have LL2 := hid h2
  obtain ⟨p2, c2, rfl, _, _, _⟩ := sl_shape h2
  clear h2
  have y0 : wr.cell? ⟨lb, lo + k * 2, none⟩ = some (.slice p1 x.1.length c1) := hcc wr HBW.out 0 (by decide)
  have y1 : wr.cell? ⟨lb, lo + k * 2 + 1, none⟩ = some (.slice p2 x.2.1.length c2) := hcc wr HBW.out 1 (by decide)
  clear hcc
  --BEGIN
  have MA := hid (R.out.below ((Below.refl _ _).alloc (Nat.le_refl _) (.cells #[.slice p1 x.1.length c1, .slice p2 x.2.1.length c2] 47)))
  have XA := hid (Blk.new wr #[.slice p1 x.1.length c1, .slice p2 x.2.1.length c2] 47 _ rfl)
  obtain ⟨g1, g2, g3, g4⟩ := gSig HFY.out
  obtain ⟨C0, hC0⟩ : ∃ C0, S [byteOf 96] = C0 := ⟨_, rfl⟩
  have HC0 := hid (fun wx (hx : Below W.heap.size W wx) => chr_at 96 C0 hC0.symm wx)
  have sC0 : C0.size ≤ 1 := by rw [← hC0]; exact Nat.le_of_eq (S_size _)
  have EC0 := hid hC0
  clear hC0
  obtain ⟨A, hA⟩ : ∃ A, kindsB x.1 = A := ⟨_, rfl⟩
  have HA := hid (fun wx (hx : Below W.heap.size W wx) => rkindB_any W wx _ x.1 hx (kinds_of LL1.out) (by omega) g3)
  rw [hA] at HA
  have sA : A.size ≤ 20 := by rw [← hA]; have := kindsB_size x.1; omega
  have EA := hid hA
  clear hA
  obtain ⟨B, hB⟩ : ∃ B, kindsB x.2.1 = B := ⟨_, rfl⟩
  have HB := hid (fun wx (hx : Below W.heap.size W wx) => rkindB_any W wx _ x.2.1 hx (kinds_of LL2.out) (by omega) g4)
  rw [hB] at HB
  have sB : B.size ≤ 20 := by rw [← hB]; have := kindsB_size x.2.1; omega
  have EB := hid hB
  clear hB
  have HW := hid (show wSig x = C0 ++ A ++ B from by unfold wSig; rw [EA.out, EB.out, ← EC0.out]; rfl)
  have q0 : ¬ 9223372036854775807 < C0.size + A.size := by omega
  have q1 : ¬ 9223372036854775807 < C0.size + A.size + B.size := by omega
  have q2 : ¬ 9223372036854775807 < b1.size + (C0.size + A.size + B.size) := by omega
  clear sC0 sA sB hbs1 g1 g2 g3 g4
  go_wp2_with fail
  clear y0 y1
  have R0 := hid (MA.out.below (Below.refl _ _).drew)
  have X00 := hid (XA.out.below (Below.refl _ _).drew)
  refine wp_region_tail (S := (fun w' => w'.cell? ⟨(W.heap.size + 1 + 1), 1, none⟩ = some (.string b1) ∧ w'.cell? ⟨wr.heap.size, 0, none⟩ = some (.slice p1 x.1.length c1) ∧ w'.cell? ⟨wr.heap.size, 1, none⟩ = some (.slice p2 x.2.1.length c2) ∧ Hid (RS W w' (W.heap.size + 1 + 1) W.heap.size (W.heap.size + 1) [.string ⟨#[]⟩, .string b1, .string ⟨#[]⟩, .string ⟨#[]⟩, .string ⟨#[]⟩, .string ⟨#[]⟩, .string ⟨#[]⟩, .string ⟨#[]⟩, .string ⟨#[]⟩, .string ⟨#[]⟩, .string ⟨#[]⟩, .string ⟨#[]⟩] [.slice (some ⟨lb, lo, none⟩) n1 k1, .slice a2 n2 k2, .slice a3 n3 k3, .int .i64 y.2.2.2.1, .int .i64 y.2.2.2.2.1, .int .i64 y.2.2.2.2.2.1, .slice a4 n4 k4, .slice a5 n5 k5, .int .i64 y.2.2.2.2.2.2.2.2.1, .slice a6 n6 k6, .slice a7 n7 k7] [.string ⟨#[]⟩, .string ⟨#[]⟩, .string ⟨#[]⟩, .string ⟨#[]⟩, .string ⟨#[]⟩, .string ⟨#[]⟩, .string ⟨#[]⟩, .string ⟨#[]⟩, .string ⟨#[]⟩, .string ⟨#[]⟩, .string ⟨#[]⟩, .string ⟨#[]⟩]) ∧ Hid (Blk w' wr.heap.size 47 [.slice p1 x.1.length c1, .slice p2 x.2.1.length c2]))) 13 (by kernel_rfl) (by kernel_rfl) ?_ (fun hHeld => ?_)
  ·exact ⟨R0.out.o.cell (i := 1) rfl, X00.out.cell (i := 0) rfl, X00.out.cell (i := 1) rfl, R0, X00⟩
  repeat ((first | refine tk 0 ?_ rfl ?_ ?_ | refine tk 1 ?_ rfl ?_ ?_ | refine tk 3 ?_ rfl ?_ ?_ | refine tk 4 ?_ rfl ?_ ?_ | refine tk 6 ?_ rfl ?_ ?_ | refine tk 7 ?_ rfl ?_ ?_ | refine tk 8 ?_ rfl ?_ ?_ | refine tk 10 ?_ rfl ?_ ?_ | refine tk 11 ?_ rfl ?_ ?_ | refine tk 12 ?_ rfl ?_ ?_); rotate_left; (intro wy hSw; (try dsimp only at hSw); (go_simp <;> with_reducible rfl)); (try simp only [List.getElem_toArray, List.getElem_cons_zero, List.getElem_cons_succ, Act.put, List.setIfInBounds_toArray, List.set_cons_zero, List.set_cons_succ]))
  refine wpT_one (k := 2) rfl (by kernel_rfl) (fun K hK => ?_)
  go_simp
  refine (HC0.out _ R0.out.bel).mono ?_
  rintro r e1 ⟨rfl, hb5⟩
  have R1 := hid (R0.out.below hb5)
  have X01 := hid (X00.out.below hb5)
  clear hb5
  go_wp2_with fail
  refine hK.out _ _ ?_ (fun hHeld => ?_)
  ·exact ⟨R1.out.o.cell (i := 1) rfl, X01.out.cell (i := 0) rfl, X01.out.cell (i := 1) rfl, R1, X01⟩
  clear hK K
  (try simp only [Act.put, List.setIfInBounds_toArray, List.set_cons_zero, List.set_cons_succ])
  repeat ((first | refine tk 0 ?_ rfl ?_ ?_ | refine tk 1 ?_ rfl ?_ ?_ | refine tk 3 ?_ rfl ?_ ?_ | refine tk 4 ?_ rfl ?_ ?_ | refine tk 6 ?_ rfl ?_ ?_ | refine tk 7 ?_ rfl ?_ ?_ | refine tk 8 ?_ rfl ?_ ?_ | refine tk 10 ?_ rfl ?_ ?_ | refine tk 11 ?_ rfl ?_ ?_ | refine tk 12 ?_ rfl ?_ ?_); rotate_left; (intro wy hSw; (try dsimp only at hSw); (go_simp <;> with_reducible rfl)); (try simp only [List.getElem_toArray, List.getElem_cons_zero, List.getElem_cons_succ, Act.put, List.setIfInBounds_toArray, List.set_cons_zero, List.set_cons_succ]))
  refine wpT_one (k := 5) rfl (by kernel_rfl) (fun K hK => ?_)
  go_simp
  refine (HA.out _ R1.out.bel).mono ?_
  rintro r e2 ⟨rfl, hb5⟩
  have R2 := hid (R1.out.below hb5)
  have X02 := hid (X01.out.below hb5)
  clear hb5
  go_wp2_with fail
  refine hK.out _ _ ?_ (fun hHeld => ?_)
  ·exact ⟨R2.out.o.cell (i := 1) rfl, X02.out.cell (i := 0) rfl, X02.out.cell (i := 1) rfl, R2, X02⟩
  clear hK K
  (try simp only [Act.put, List.setIfInBounds_toArray, List.set_cons_zero, List.set_cons_succ])
  repeat ((first | refine tk 0 ?_ rfl ?_ ?_ | refine tk 1 ?_ rfl ?_ ?_ | refine tk 3 ?_ rfl ?_ ?_ | refine tk 4 ?_ rfl ?_ ?_ | refine tk 6 ?_ rfl ?_ ?_ | refine tk 7 ?_ rfl ?_ ?_ | refine tk 8 ?_ rfl ?_ ?_ | refine tk 10 ?_ rfl ?_ ?_ | refine tk 11 ?_ rfl ?_ ?_ | refine tk 12 ?_ rfl ?_ ?_); rotate_left; (intro wy hSw; (try dsimp only at hSw); (go_simp <;> with_reducible rfl)); (try simp only [List.getElem_toArray, List.getElem_cons_zero, List.getElem_cons_succ, Act.put, List.setIfInBounds_toArray, List.set_cons_zero, List.set_cons_succ]))
  refine wpT_one (k := 9) rfl (by kernel_rfl) (fun K hK => ?_)
  go_simp
  refine (HB.out _ R2.out.bel).mono ?_
  rintro r e3 ⟨rfl, hb5⟩
  have R3 := hid (R2.out.below hb5)
  have X03 := hid (X02.out.below hb5)
  clear hb5
  go_wp2_with fail
  refine hK.out _ _ ?_ (fun hHeld => ?_)
  ·exact ⟨R3.out.o.cell (i := 1) rfl, X03.out.cell (i := 0) rfl, X03.out.cell (i := 1) rfl, R3, X03⟩
  clear hK K
  (try simp only [Act.put, List.setIfInBounds_toArray, List.set_cons_zero, List.set_cons_succ])
  repeat ((first | refine tk 0 ?_ rfl ?_ ?_ | refine tk 1 ?_ rfl ?_ ?_ | refine tk 3 ?_ rfl ?_ ?_ | refine tk 4 ?_ rfl ?_ ?_ | refine tk 6 ?_ rfl ?_ ?_ | refine tk 7 ?_ rfl ?_ ?_ | refine tk 8 ?_ rfl ?_ ?_ | refine tk 10 ?_ rfl ?_ ?_ | refine tk 11 ?_ rfl ?_ ?_ | refine tk 12 ?_ rfl ?_ ?_); rotate_left; (intro wy hSw; (try dsimp only at hSw); (go_simp <;> with_reducible rfl)); (try simp only [List.getElem_toArray, List.getElem_cons_zero, List.getElem_cons_succ, Act.put, List.setIfInBounds_toArray, List.set_cons_zero, List.set_cons_succ]))
  refine wpT_done (by kernel_rfl) ?_
  have co := R3.out.o.cell (i := 1) rfl
  have fo := R3.out.o.free 1
  go_wp2_with fail
  clear co fo
  go_roundw
  case rel => exact ⟨k + 1, by omega, by go_num, hid (by rw [← HNK1.out]; exact by rw [HW.out]; exact R3.out.put 1 _)⟩
  case measure => simp [RowKit.intOf]; omega
  --END
 obtain rfl : n1 = k := by omega
 clear hk hlt
 have HTT1 := hid (show catB wSig (y.1.take n1) = catB wSig y.1 from by rw [← HN1.out, List.take_length])
 have zt1 : (catB wSig (y.1.take n1)).size ≤ 1600 := HC1.out n1
 generalize catB wSig (y.1.take n1) = t1 at *
 clear HF hn16 HX1 HC1
 have M1 := R
 clear R
 have HX2 := hid (fun k (hk : k < y.2.1.length) => catB_next wImport y.2.1 k hk)
 have HC2 := hid (fun k => catB_size2 wImport 100 y.2.1 k (fun x HM => wImport_size _) GW.out.imp.1)
 have HF := hid GW.out.imp.2
 have hn16 : (n2 : Int) ≤ 16 := by have h1 := GW.out.imp.1; have h2 := HN2.out; omega
 have m := M1.out.m.cell (i := 1) rfl
 go_wp2_with fail
 clear m
 go_loopw [7, 49] (fun _ i wr => ∃ k : Nat, k ≤ n2 ∧ i = .int .i64 k ∧ Hid (RS W wr (W.heap.size + 1 + 1) W.heap.size (W.heap.size + 1) [.string ⟨#[]⟩, .string t1, .string (catB wImport (y.2.1.take k)), .string ⟨#[]⟩, .string ⟨#[]⟩, .string ⟨#[]⟩, .string ⟨#[]⟩, .string ⟨#[]⟩, .string ⟨#[]⟩, .string ⟨#[]⟩, .string ⟨#[]⟩, .string ⟨#[]⟩] [.slice a1 n1 k1, .slice a2 n2 k2, .slice a3 n3 k3, .int .i64 y.2.2.2.1, .int .i64 y.2.2.2.2.1, .int .i64 y.2.2.2.2.2.1, .slice a4 n4 k4, .slice a5 n5 k5, .int .i64 y.2.2.2.2.2.2.2.2.1, .slice a6 n6 k6, .slice a7 n7 k7] [.string ⟨#[]⟩, .string ⟨#[]⟩, .string ⟨#[]⟩, .string ⟨#[]⟩, .string ⟨#[]⟩, .string ⟨#[]⟩, .string ⟨#[]⟩, .string ⟨#[]⟩, .string ⟨#[]⟩, .string ⟨#[]⟩, .string ⟨#[]⟩, .string ⟨#[]⟩])) (fun _ i _ => n2 - (RowKit.intOf i).toNat)
 case atStart => exact ⟨0, Nat.zero_le _, rfl, M1⟩
 obtain ⟨k, hk, rfl, R⟩ := hrel
 by_cases hlt : k < n2
 ·have hkl : k < y.2.1.length := by rw [HN2.out]; exact hlt
  have HBW := hid R.out.bel
  obtain ⟨lb, lo, cap', cs, hv, _, _, _, hR, hcc⟩ := sliceR_at K2.out (by decide) k hkl
  rw [HN2.out] at hv
  simp only [Value.slice.injEq] at hv
  obtain ⟨rfl, -, rfl⟩ := hv
  have HNK2 := hid (HX2.out k hkl)
  have hbs2 : (catB wImport (y.2.1.take k)).size ≤ 1600 := HC2.out k
  have HFY := hid (HF.out _ (List.getElem_mem hkl))
  generalize catB wImport (y.2.1.take k) = b2 at *
  generalize y.2.1[k] = x at *
  clear hkl
  obtain ⟨_, _, rfl, ⟨rfl, _⟩, _, _, rfl, ⟨rfl, _⟩, rfl⟩ := hR
  have y0 : wr.cell? ⟨lb, lo + k * 2, none⟩ = some (.string x.1) := hcc wr HBW.out 0 (by decide)
  have y1 : wr.cell? ⟨lb, lo + k * 2 + 1, none⟩ = some (.int .i64 x.2.1) := hcc wr HBW.out 1 (by decide)
  clear hcc
  --BEGIN
  have MA := hid (R.out.below ((Below.refl _ _).alloc (Nat.le_refl _) (.cells #[.string x.1, .int .i64 x.2.1] 52)))
  have XA := hid (Blk.new wr #[.string x.1, .int .i64 x.2.1] 52 _ rfl)
  obtain ⟨g1, g2, g3⟩ := gImport HFY.out
  obtain ⟨C0, hC0⟩ : ∃ C0, S [byteOf 0] = C0 := ⟨_, rfl⟩
  have HC0 := hid (fun wx (hx : Below W.heap.size W wx) => chr_at 0 C0 hC0.symm wx)
  have sC0 : C0.size ≤ 1 := by rw [← hC0]; exact Nat.le_of_eq (S_size _)
  have EC0 := hid hC0
  clear hC0
  obtain ⟨H4, hH4⟩ : ∃ H4, nameX (S [104, 111, 115, 116]) = H4 := ⟨_, rfl⟩
  have HH := hid (fun wx (hx : Below W.heap.size W wx) => rname_at (S [104, 111, 115, 116]) (by decide +kernel) H4 hH4.symm wx)
  have sH4 : H4.size ≤ 17 := by rw [← hH4]; exact nameX_size _
  have EH4 := hid hH4
  clear hH4
  obtain ⟨A, hA⟩ : ∃ A, nameX x.1 = A := ⟨_, rfl⟩
  have HA := hid (fun wx (hx : Below W.heap.size W wx) => rname_at x.1 g1 A hA.symm wx)
  have sA : A.size ≤ 17 := by rw [← hA]; exact nameX_size _
  have EA := hid hA
  clear hA
  obtain ⟨t, ht⟩ := Int.eq_ofNat_of_zero_le g2
  rw [ht] at y1 MA XA
  obtain ⟨U, hU⟩ : ∃ U, numB (t : Int) = U := ⟨_, rfl⟩
  have HU := hid (fun wx (hx : Below W.heap.size W wx) => u_at t (by omega) U hU.symm wx)
  have sU : U.size ≤ 10 := by rw [← hU]; exact numB_size _
  have EU := hid hU
  clear hU
  have HW := hid (show wImport x = H4 ++ A ++ C0 ++ U from by unfold wImport; rw [EA.out, ht, EU.out, ← EC0.out, ← EH4.out]; exact congrArg (fun z => z ++ A ++ S [byteOf 0] ++ U) (by decide +kernel))
  have HTX := hid ht
  have q0 : ¬ 9223372036854775807 < H4.size + A.size := by omega
  have q1 : ¬ 9223372036854775807 < H4.size + A.size + C0.size := by omega
  have q2 : ¬ 9223372036854775807 < H4.size + A.size + C0.size + U.size := by omega
  have q3 : ¬ 9223372036854775807 < b2.size + (H4.size + A.size + C0.size + U.size) := by omega
  clear sC0 sA sU sH4 hbs2 g1 g2 g3 ht
  go_wp2_with fail
  clear y0 y1
  have R0 := hid (MA.out.below (Below.refl _ _).drew)
  have X00 := hid (XA.out.below (Below.refl _ _).drew)
  refine wp_region_tail (S := (fun w' => w'.cell? ⟨(W.heap.size + 1 + 1), 2, none⟩ = some (.string b2) ∧ w'.cell? ⟨wr.heap.size, 0, none⟩ = some (.string x.1) ∧ w'.cell? ⟨wr.heap.size, 1, none⟩ = some (.int .i64 (t : Int)) ∧ Hid (RS W w' (W.heap.size + 1 + 1) W.heap.size (W.heap.size + 1) [.string ⟨#[]⟩, .string t1, .string b2, .string ⟨#[]⟩, .string ⟨#[]⟩, .string ⟨#[]⟩, .string ⟨#[]⟩, .string ⟨#[]⟩, .string ⟨#[]⟩, .string ⟨#[]⟩, .string ⟨#[]⟩, .string ⟨#[]⟩] [.slice a1 n1 k1, .slice (some ⟨lb, lo, none⟩) n2 k2, .slice a3 n3 k3, .int .i64 y.2.2.2.1, .int .i64 y.2.2.2.2.1, .int .i64 y.2.2.2.2.2.1, .slice a4 n4 k4, .slice a5 n5 k5, .int .i64 y.2.2.2.2.2.2.2.2.1, .slice a6 n6 k6, .slice a7 n7 k7] [.string ⟨#[]⟩, .string ⟨#[]⟩, .string ⟨#[]⟩, .string ⟨#[]⟩, .string ⟨#[]⟩, .string ⟨#[]⟩, .string ⟨#[]⟩, .string ⟨#[]⟩, .string ⟨#[]⟩, .string ⟨#[]⟩, .string ⟨#[]⟩, .string ⟨#[]⟩]) ∧ Hid (Blk w' wr.heap.size 52 [.string x.1, .int .i64 (t : Int)]))) 15 (by kernel_rfl) (by kernel_rfl) ?_ (fun hHeld => ?_)
  ·exact ⟨R0.out.o.cell (i := 2) rfl, X00.out.cell (i := 0) rfl, X00.out.cell (i := 1) rfl, R0, X00⟩
  repeat ((first | refine tk 0 ?_ rfl ?_ ?_ | refine tk 1 ?_ rfl ?_ ?_ | refine tk 3 ?_ rfl ?_ ?_ | refine tk 4 ?_ rfl ?_ ?_ | refine tk 6 ?_ rfl ?_ ?_ | refine tk 8 ?_ rfl ?_ ?_ | refine tk 9 ?_ rfl ?_ ?_ | refine tk 10 ?_ rfl ?_ ?_ | refine tk 12 ?_ rfl ?_ ?_ | refine tk 13 ?_ rfl ?_ ?_ | refine tk 14 ?_ rfl ?_ ?_); rotate_left; (intro wy hSw; (try dsimp only at hSw); (go_simp <;> with_reducible rfl)); (try simp only [List.getElem_toArray, List.getElem_cons_zero, List.getElem_cons_succ, Act.put, List.setIfInBounds_toArray, List.set_cons_zero, List.set_cons_succ]))
  refine wpT_one (k := 2) rfl (by kernel_rfl) (fun K hK => ?_)
  go_simp
  refine (HH.out _ R0.out.bel).mono ?_
  rintro r e1 ⟨rfl, hb5⟩
  have R1 := hid (R0.out.below hb5)
  have X01 := hid (X00.out.below hb5)
  clear hb5
  go_wp2_with fail
  refine hK.out _ _ ?_ (fun hHeld => ?_)
  ·exact ⟨R1.out.o.cell (i := 2) rfl, X01.out.cell (i := 0) rfl, X01.out.cell (i := 1) rfl, R1, X01⟩
  clear hK K
  (try simp only [Act.put, List.setIfInBounds_toArray, List.set_cons_zero, List.set_cons_succ])
  repeat ((first | refine tk 0 ?_ rfl ?_ ?_ | refine tk 1 ?_ rfl ?_ ?_ | refine tk 3 ?_ rfl ?_ ?_ | refine tk 4 ?_ rfl ?_ ?_ | refine tk 6 ?_ rfl ?_ ?_ | refine tk 8 ?_ rfl ?_ ?_ | refine tk 9 ?_ rfl ?_ ?_ | refine tk 10 ?_ rfl ?_ ?_ | refine tk 12 ?_ rfl ?_ ?_ | refine tk 13 ?_ rfl ?_ ?_ | refine tk 14 ?_ rfl ?_ ?_); rotate_left; (intro wy hSw; (try dsimp only at hSw); (go_simp <;> with_reducible rfl)); (try simp only [List.getElem_toArray, List.getElem_cons_zero, List.getElem_cons_succ, Act.put, List.setIfInBounds_toArray, List.set_cons_zero, List.set_cons_succ]))
  refine wpT_one (k := 5) rfl (by kernel_rfl) (fun K hK => ?_)
  go_simp
  refine (HA.out _ R1.out.bel).mono ?_
  rintro r e2 ⟨rfl, hb5⟩
  have R2 := hid (R1.out.below hb5)
  have X02 := hid (X01.out.below hb5)
  clear hb5
  go_wp2_with fail
  refine hK.out _ _ ?_ (fun hHeld => ?_)
  ·exact ⟨R2.out.o.cell (i := 2) rfl, X02.out.cell (i := 0) rfl, X02.out.cell (i := 1) rfl, R2, X02⟩
  clear hK K
  (try simp only [Act.put, List.setIfInBounds_toArray, List.set_cons_zero, List.set_cons_succ])
  repeat ((first | refine tk 0 ?_ rfl ?_ ?_ | refine tk 1 ?_ rfl ?_ ?_ | refine tk 3 ?_ rfl ?_ ?_ | refine tk 4 ?_ rfl ?_ ?_ | refine tk 6 ?_ rfl ?_ ?_ | refine tk 8 ?_ rfl ?_ ?_ | refine tk 9 ?_ rfl ?_ ?_ | refine tk 10 ?_ rfl ?_ ?_ | refine tk 12 ?_ rfl ?_ ?_ | refine tk 13 ?_ rfl ?_ ?_ | refine tk 14 ?_ rfl ?_ ?_); rotate_left; (intro wy hSw; (try dsimp only at hSw); (go_simp <;> with_reducible rfl)); (try simp only [List.getElem_toArray, List.getElem_cons_zero, List.getElem_cons_succ, Act.put, List.setIfInBounds_toArray, List.set_cons_zero, List.set_cons_succ]))
  refine wpT_one (k := 7) rfl (by kernel_rfl) (fun K hK => ?_)
  go_simp
  refine (HC0.out _ R2.out.bel).mono ?_
  rintro r e3 ⟨rfl, hb5⟩
  have R3 := hid (R2.out.below hb5)
  have X03 := hid (X02.out.below hb5)
  clear hb5
  go_wp2_with fail
  refine hK.out _ _ ?_ (fun hHeld => ?_)
  ·exact ⟨R3.out.o.cell (i := 2) rfl, X03.out.cell (i := 0) rfl, X03.out.cell (i := 1) rfl, R3, X03⟩
  clear hK K
  (try simp only [Act.put, List.setIfInBounds_toArray, List.set_cons_zero, List.set_cons_succ])
  repeat ((first | refine tk 0 ?_ rfl ?_ ?_ | refine tk 1 ?_ rfl ?_ ?_ | refine tk 3 ?_ rfl ?_ ?_ | refine tk 4 ?_ rfl ?_ ?_ | refine tk 6 ?_ rfl ?_ ?_ | refine tk 8 ?_ rfl ?_ ?_ | refine tk 9 ?_ rfl ?_ ?_ | refine tk 10 ?_ rfl ?_ ?_ | refine tk 12 ?_ rfl ?_ ?_ | refine tk 13 ?_ rfl ?_ ?_ | refine tk 14 ?_ rfl ?_ ?_); rotate_left; (intro wy hSw; (try dsimp only at hSw); (go_simp <;> with_reducible rfl)); (try simp only [List.getElem_toArray, List.getElem_cons_zero, List.getElem_cons_succ, Act.put, List.setIfInBounds_toArray, List.set_cons_zero, List.set_cons_succ]))
  refine wpT_one (k := 11) rfl (by kernel_rfl) (fun K hK => ?_)
  go_simp
  refine (HU.out _ R3.out.bel).mono ?_
  rintro r e4 ⟨rfl, hb5⟩
  have R4 := hid (R3.out.below hb5)
  have X04 := hid (X03.out.below hb5)
  clear hb5
  go_wp2_with fail
  refine hK.out _ _ ?_ (fun hHeld => ?_)
  ·exact ⟨R4.out.o.cell (i := 2) rfl, X04.out.cell (i := 0) rfl, X04.out.cell (i := 1) rfl, R4, X04⟩
  clear hK K
  (try simp only [Act.put, List.setIfInBounds_toArray, List.set_cons_zero, List.set_cons_succ])
  repeat ((first | refine tk 0 ?_ rfl ?_ ?_ | refine tk 1 ?_ rfl ?_ ?_ | refine tk 3 ?_ rfl ?_ ?_ | refine tk 4 ?_ rfl ?_ ?_ | refine tk 6 ?_ rfl ?_ ?_ | refine tk 8 ?_ rfl ?_ ?_ | refine tk 9 ?_ rfl ?_ ?_ | refine tk 10 ?_ rfl ?_ ?_ | refine tk 12 ?_ rfl ?_ ?_ | refine tk 13 ?_ rfl ?_ ?_ | refine tk 14 ?_ rfl ?_ ?_); rotate_left; (intro wy hSw; (try dsimp only at hSw); (go_simp <;> with_reducible rfl)); (try simp only [List.getElem_toArray, List.getElem_cons_zero, List.getElem_cons_succ, Act.put, List.setIfInBounds_toArray, List.set_cons_zero, List.set_cons_succ]))
  refine wpT_done (by kernel_rfl) ?_
  have co := R4.out.o.cell (i := 2) rfl
  have fo := R4.out.o.free 2
  go_wp2_with fail
  clear co fo
  go_roundw
  case rel => exact ⟨k + 1, by omega, by go_num, hid (by rw [← HNK2.out]; exact by rw [HW.out]; exact R4.out.put 2 _)⟩
  case measure => simp [RowKit.intOf]; omega
  --END
 obtain rfl : n2 = k := by omega
 clear hk hlt
 have HTT2 := hid (show catB wImport (y.2.1.take n2) = catB wImport y.2.1 from by rw [← HN2.out, List.take_length])
 have zt2 : (catB wImport (y.2.1.take n2)).size ≤ 1600 := HC2.out n2
 generalize catB wImport (y.2.1.take n2) = t2 at *
 clear HF hn16 HX2 HC2
 have M2 := R
 clear R
 have HX3 := hid (fun k (hk : k < y.2.2.1.length) => catB_next wFunc y.2.2.1 k hk)
 have HC3 := hid (fun k => catB_size2 wFunc 100 y.2.2.1 k (fun x HM => wFunc_size _) GW.out.fun_.1)
 have HX10 := hid (fun k (hk : k < y.2.2.1.length) => catB_next wCode y.2.2.1 k hk)
 have HC10 := hid (fun k => catB_size2 wCode 2000000 y.2.2.1 k (fun x HM => wCode_size (GW.out.fun_.2 x HM)) GW.out.fun_.1)
 have HF := hid GW.out.fun_.2
 have hn16 : (n3 : Int) ≤ 16 := by have h1 := GW.out.fun_.1; have h2 := HN3.out; omega
 have m := M2.out.m.cell (i := 2) rfl
 go_wp2_with fail
 clear m
 go_loopw [9, 72] (fun _ i wr => ∃ k : Nat, k ≤ n3 ∧ i = .int .i64 k ∧ Hid (RS W wr (W.heap.size + 1 + 1) W.heap.size (W.heap.size + 1) [.string ⟨#[]⟩, .string t1, .string t2, .string (catB wFunc (y.2.2.1.take k)), .string ⟨#[]⟩, .string ⟨#[]⟩, .string ⟨#[]⟩, .string ⟨#[]⟩, .string ⟨#[]⟩, .string ⟨#[]⟩, .string (catB wCode (y.2.2.1.take k)), .string ⟨#[]⟩] [.slice a1 n1 k1, .slice a2 n2 k2, .slice a3 n3 k3, .int .i64 y.2.2.2.1, .int .i64 y.2.2.2.2.1, .int .i64 y.2.2.2.2.2.1, .slice a4 n4 k4, .slice a5 n5 k5, .int .i64 y.2.2.2.2.2.2.2.2.1, .slice a6 n6 k6, .slice a7 n7 k7] [.string ⟨#[]⟩, .string ⟨#[]⟩, .string ⟨#[]⟩, .string ⟨#[]⟩, .string ⟨#[]⟩, .string ⟨#[]⟩, .string ⟨#[]⟩, .string ⟨#[]⟩, .string ⟨#[]⟩, .string ⟨#[]⟩, .string ⟨#[]⟩, .string ⟨#[]⟩])) (fun _ i _ => n3 - (RowKit.intOf i).toNat)
 case atStart => exact ⟨0, Nat.zero_le _, rfl, M2⟩
 obtain ⟨k, hk, rfl, R⟩ := hrel
 by_cases hlt : k < n3
 ·have hkl : k < y.2.2.1.length := by rw [HN3.out]; exact hlt
  have HBW := hid R.out.bel
  obtain ⟨lb, lo, cap', cs, hv, _, _, _, hR, hcc⟩ := sliceR_at K3.out (by decide) k hkl
  rw [HN3.out] at hv
  simp only [Value.slice.injEq] at hv
  obtain ⟨rfl, -, rfl⟩ := hv
  have HNK3 := hid (HX3.out k hkl)
  have hbs3 : (catB wFunc (y.2.2.1.take k)).size ≤ 1600 := HC3.out k
  have HNK10 := hid (HX10.out k hkl)
  have hbs10 : (catB wCode (y.2.2.1.take k)).size ≤ 32000000 := HC10.out k
  have HFY := hid (HF.out _ (List.getElem_mem hkl))
  generalize catB wFunc (y.2.2.1.take k) = b3 at *
  generalize catB wCode (y.2.2.1.take k) = b10 at *
  generalize y.2.2.1[k] = x at *
  clear hkl
  obtain ⟨_, _, rfl, ⟨rfl, _⟩, _, _, rfl, h1, _, _, rfl, h2, rfl⟩ := hR
  obtain ⟨v1, rfl⟩ := sl_one h1
  have LL1 := hid h1
  obtain ⟨p1, c1, rfl, _, _, _⟩ := sl_shape h1
  clear h1
  obtain ⟨v2, rfl⟩ := sl_one h2
  have LL2 := hid h2
  obtain ⟨p2, c2, rfl, _, _, _⟩ := sl_shape h2
  clear h2
  have y0 : wr.cell? ⟨lb, lo + k * 3, none⟩ = some (.int .i64 x.1) := hcc wr HBW.out 0 (by decide)
  have y1 : wr.cell? ⟨lb, lo + k * 3 + 1, none⟩ = some (.slice p1 x.2.1.length c1) := hcc wr HBW.out 1 (by decide)
  have y2 : wr.cell? ⟨lb, lo + k * 3 + 2, none⟩ = some (.slice p2 x.2.2.1.length c2) := hcc wr HBW.out 2 (by decide)
  clear hcc
  --BEGIN
  have MA := hid (R.out.below ((Below.refl _ _).alloc (Nat.le_refl _) (.cells #[.int .i64 x.1, .slice p1 x.2.1.length c1, .slice p2 x.2.2.1.length c2] 59)))
  have XA := hid (Blk.new wr #[.int .i64 x.1, .slice p1 x.2.1.length c1, .slice p2 x.2.2.1.length c2] 59 _ rfl)
  obtain ⟨g1, g2, g3, g4⟩ := gFunc HFY.out
  obtain ⟨t, ht⟩ := Int.eq_ofNat_of_zero_le g1
  rw [ht] at y0 MA XA
  obtain ⟨U, hU⟩ : ∃ U, numB (t : Int) = U := ⟨_, rfl⟩
  have HU := hid (fun wx (hx : Below W.heap.size W wx) => u_at t (by omega) U hU.symm wx)
  have sU : U.size ≤ 10 := by rw [← hU]; exact numB_size _
  have EU := hid hU
  clear hU
  obtain ⟨hbd, hok⟩ := body_of LL2.out
  obtain ⟨C, hC⟩ : ∃ C, wCode x = C := ⟨_, rfl⟩
  have HC := hid (fun wx (hx : Below W.heap.size W wx) => (rcode_any W wx t p1 c1 x.2.1 p2 x.2.2.1.length c2 (nwM (x.2.2.1.map itOf)) _ hx (kinds_of LL1.out) g3 g4 (Nat.le_trans (nwM_size _) (by decide)) (fun wy hy => rnwrite_any wy _ _ hok (hbd.below hy) (HM.out.below hy))))
  rw [show codeB x.2.1 (nwM (x.2.2.1.map itOf)) = C from hC] at HC
  have sC : C.size ≤ 2000000 := by rw [← hC]; exact wCode_size HFY.out
  have EC := hid hC
  clear hC
  have HW := hid (show wFunc x = U from by unfold wFunc; rw [ht, EU.out])
  have HTX := hid ht
  have HNE := hid (show W.heap.size + 1 + 1 ≠ wr.heap.size from by have := R.out.o.lt; omega)
  have q0 : ¬ 9223372036854775807 < b3.size + U.size := by omega
  have q1 : ¬ 9223372036854775807 < b10.size + C.size := by omega
  clear sU sC hbs3 hbs10 g1 g2 g3 g4 ht hbd hok
  go_wp2_with fail
  clear y0 y1 y2
  have R0 := hid (MA.out.below (Below.refl _ _).drew)
  have X00 := hid (XA.out.below (Below.refl _ _).drew)
  refine wp_region_tail (S := (fun w' => w'.cell? ⟨(W.heap.size + 1 + 1), 3, none⟩ = some (.string b3) ∧ w'.cell? ⟨wr.heap.size, 0, none⟩ = some (.int .i64 (t : Int)) ∧ Hid (RS W w' (W.heap.size + 1 + 1) W.heap.size (W.heap.size + 1) [.string ⟨#[]⟩, .string t1, .string t2, .string b3, .string ⟨#[]⟩, .string ⟨#[]⟩, .string ⟨#[]⟩, .string ⟨#[]⟩, .string ⟨#[]⟩, .string ⟨#[]⟩, .string b10, .string ⟨#[]⟩] [.slice a1 n1 k1, .slice a2 n2 k2, .slice (some ⟨lb, lo, none⟩) n3 k3, .int .i64 y.2.2.2.1, .int .i64 y.2.2.2.2.1, .int .i64 y.2.2.2.2.2.1, .slice a4 n4 k4, .slice a5 n5 k5, .int .i64 y.2.2.2.2.2.2.2.2.1, .slice a6 n6 k6, .slice a7 n7 k7] [.string ⟨#[]⟩, .string ⟨#[]⟩, .string ⟨#[]⟩, .string ⟨#[]⟩, .string ⟨#[]⟩, .string ⟨#[]⟩, .string ⟨#[]⟩, .string ⟨#[]⟩, .string ⟨#[]⟩, .string ⟨#[]⟩, .string ⟨#[]⟩, .string ⟨#[]⟩]) ∧ Hid (Blk w' wr.heap.size 59 [.int .i64 (t : Int), .slice p1 x.2.1.length c1, .slice p2 x.2.2.1.length c2]))) 7 (by kernel_rfl) (by kernel_rfl) ?_ (fun hHeld => ?_)
  ·exact ⟨R0.out.o.cell (i := 3) rfl, X00.out.cell (i := 0) rfl, R0, X00⟩
  repeat ((first | refine tk 0 ?_ rfl ?_ ?_ | refine tk 1 ?_ rfl ?_ ?_ | refine tk 2 ?_ rfl ?_ ?_ | refine tk 3 ?_ rfl ?_ ?_ | refine tk 5 ?_ rfl ?_ ?_ | refine tk 6 ?_ rfl ?_ ?_); rotate_left; (intro wy hSw; (try dsimp only at hSw); (go_simp <;> with_reducible rfl)); (try simp only [List.getElem_toArray, List.getElem_cons_zero, List.getElem_cons_succ, Act.put, List.setIfInBounds_toArray, List.set_cons_zero, List.set_cons_succ]))
  refine wpT_one (k := 4) rfl (by kernel_rfl) (fun K hK => ?_)
  go_simp
  refine (HU.out _ R0.out.bel).mono ?_
  rintro r e1 ⟨rfl, hb5⟩
  have R1 := hid (R0.out.below hb5)
  have X01 := hid (X00.out.below hb5)
  clear hb5
  go_wp2_with fail
  refine hK.out _ _ ?_ (fun hHeld => ?_)
  ·exact ⟨R1.out.o.cell (i := 3) rfl, X01.out.cell (i := 0) rfl, R1, X01⟩
  clear hK K
  (try simp only [Act.put, List.setIfInBounds_toArray, List.set_cons_zero, List.set_cons_succ])
  repeat ((first | refine tk 0 ?_ rfl ?_ ?_ | refine tk 1 ?_ rfl ?_ ?_ | refine tk 2 ?_ rfl ?_ ?_ | refine tk 3 ?_ rfl ?_ ?_ | refine tk 5 ?_ rfl ?_ ?_ | refine tk 6 ?_ rfl ?_ ?_); rotate_left; (intro wy hSw; (try dsimp only at hSw); (go_simp <;> with_reducible rfl)); (try simp only [List.getElem_toArray, List.getElem_cons_zero, List.getElem_cons_succ, Act.put, List.setIfInBounds_toArray, List.set_cons_zero, List.set_cons_succ]))
  refine wpT_done (by kernel_rfl) ?_
  have co := R1.out.o.cell (i := 3) rfl
  have fo := R1.out.o.free 3
  have MB := hid (R1.out.put 3 (.string (b3 ++ U)))
  have XB := hid (X01.out.other (a := ⟨W.heap.size + 1 + 1, 3, none⟩) (HNE.out) (.string (b3 ++ U)))
  go_wp2_with fail
  clear co fo
  clear R0 R1 X00 X01
  have R0 := hid (MB.out.below (Below.refl _ _).drew)
  have X00 := hid (XB.out.below (Below.refl _ _).drew)
  refine wp_region_tail (S := (fun w' => w'.cell? ⟨(W.heap.size + 1 + 1), 10, none⟩ = some (.string b10) ∧ w'.cell? ⟨wr.heap.size, 0, none⟩ = some (.int .i64 (t : Int)) ∧ w'.cell? ⟨wr.heap.size, 1, none⟩ = some (.slice p1 x.2.1.length c1) ∧ w'.cell? ⟨wr.heap.size, 2, none⟩ = some (.slice p2 x.2.2.1.length c2) ∧ Hid (RS W w' (W.heap.size + 1 + 1) W.heap.size (W.heap.size + 1) [.string ⟨#[]⟩, .string t1, .string t2, .string ((b3 ++ U)), .string ⟨#[]⟩, .string ⟨#[]⟩, .string ⟨#[]⟩, .string ⟨#[]⟩, .string ⟨#[]⟩, .string ⟨#[]⟩, .string b10, .string ⟨#[]⟩] [.slice a1 n1 k1, .slice a2 n2 k2, .slice (some ⟨lb, lo, none⟩) n3 k3, .int .i64 y.2.2.2.1, .int .i64 y.2.2.2.2.1, .int .i64 y.2.2.2.2.2.1, .slice a4 n4 k4, .slice a5 n5 k5, .int .i64 y.2.2.2.2.2.2.2.2.1, .slice a6 n6 k6, .slice a7 n7 k7] [.string ⟨#[]⟩, .string ⟨#[]⟩, .string ⟨#[]⟩, .string ⟨#[]⟩, .string ⟨#[]⟩, .string ⟨#[]⟩, .string ⟨#[]⟩, .string ⟨#[]⟩, .string ⟨#[]⟩, .string ⟨#[]⟩, .string ⟨#[]⟩, .string ⟨#[]⟩]) ∧ Hid (Blk w' wr.heap.size 59 [.int .i64 (t : Int), .slice p1 x.2.1.length c1, .slice p2 x.2.2.1.length c2]))) 6 (by kernel_rfl) (by kernel_rfl) ?_ (fun hHeld => ?_)
  ·exact ⟨R0.out.o.cell (i := 10) rfl, X00.out.cell (i := 0) rfl, X00.out.cell (i := 1) rfl, X00.out.cell (i := 2) rfl, R0, X00⟩
  repeat ((first | refine tk 0 ?_ rfl ?_ ?_ | refine tk 1 ?_ rfl ?_ ?_ | refine tk 2 ?_ rfl ?_ ?_ | refine tk 4 ?_ rfl ?_ ?_ | refine tk 5 ?_ rfl ?_ ?_); rotate_left; (intro wy hSw; (try dsimp only at hSw); (go_simp <;> with_reducible rfl)); (try simp only [List.getElem_toArray, List.getElem_cons_zero, List.getElem_cons_succ, Act.put, List.setIfInBounds_toArray, List.set_cons_zero, List.set_cons_succ]))
  refine wpT_one (k := 3) rfl (by kernel_rfl) (fun K hK => ?_)
  go_simp
  refine (HC.out _ R0.out.bel).mono ?_
  rintro r e1 ⟨rfl, hb5⟩
  have R1 := hid (R0.out.below hb5)
  have X01 := hid (X00.out.below hb5)
  clear hb5
  go_wp2_with fail
  refine hK.out _ _ ?_ (fun hHeld => ?_)
  ·exact ⟨R1.out.o.cell (i := 10) rfl, X01.out.cell (i := 0) rfl, X01.out.cell (i := 1) rfl, X01.out.cell (i := 2) rfl, R1, X01⟩
  clear hK K
  (try simp only [Act.put, List.setIfInBounds_toArray, List.set_cons_zero, List.set_cons_succ])
  repeat ((first | refine tk 0 ?_ rfl ?_ ?_ | refine tk 1 ?_ rfl ?_ ?_ | refine tk 2 ?_ rfl ?_ ?_ | refine tk 4 ?_ rfl ?_ ?_ | refine tk 5 ?_ rfl ?_ ?_); rotate_left; (intro wy hSw; (try dsimp only at hSw); (go_simp <;> with_reducible rfl)); (try simp only [List.getElem_toArray, List.getElem_cons_zero, List.getElem_cons_succ, Act.put, List.setIfInBounds_toArray, List.set_cons_zero, List.set_cons_succ]))
  refine wpT_done (by kernel_rfl) ?_
  have co := R1.out.o.cell (i := 10) rfl
  have fo := R1.out.o.free 10
  go_wp2_with fail
  clear co fo
  go_roundw
  case rel => exact ⟨k + 1, by omega, by go_num, hid (by rw [← HNK3.out, ← HNK10.out]; exact by rw [HW.out, EC.out]; exact R1.out.put 10 _)⟩
  case measure => simp [RowKit.intOf]; omega
  --END
 obtain rfl : n3 = k := by omega
 clear hk hlt
 have HTT3 := hid (show catB wFunc (y.2.2.1.take n3) = catB wFunc y.2.2.1 from by rw [← HN3.out, List.take_length])
 have zt3 : (catB wFunc (y.2.2.1.take n3)).size ≤ 1600 := HC3.out n3
 generalize catB wFunc (y.2.2.1.take n3) = t3 at *
 have HTT10 := hid (show catB wCode (y.2.2.1.take n3) = catB wCode y.2.2.1 from by rw [← HN3.out, List.take_length])
 have zt10 : (catB wCode (y.2.2.1.take n3)).size ≤ 32000000 := HC10.out n3
 generalize catB wCode (y.2.2.1.take n3) = t10 at *
 clear HF hn16 HX3 HC3 HX10 HC10
 have M3 := R
 clear R
 have HX6 := hid (fun k (hk : k < y.2.2.2.2.2.2.1.length) => catB_next wGlobal y.2.2.2.2.2.2.1 k hk)
 have HC6 := hid (fun k => catB_size2 wGlobal 100 y.2.2.2.2.2.2.1 k (fun x HM => wGlobal_size _) (Nat.le_trans GW.out.glo.1 (by decide)))
 have HF := hid GW.out.glo.2
 have hn16 : (n4 : Int) ≤ 16 := by have h1 := GW.out.glo.1; have h2 := HN4.out; omega
 have m := M3.out.m.cell (i := 6) rfl
 go_wp2_with fail
 clear m
 go_loopw [11, 12, 13, 93] (fun _ _ _ i wr => ∃ k : Nat, k ≤ n4 ∧ i = .int .i64 k ∧ Hid (RS W wr (W.heap.size + 1 + 1) W.heap.size (W.heap.size + 1) [.string ⟨#[]⟩, .string t1, .string t2, .string t3, .string ⟨#[]⟩, .string ⟨#[]⟩, .string (catB wGlobal (y.2.2.2.2.2.2.1.take k)), .string ⟨#[]⟩, .string ⟨#[]⟩, .string ⟨#[]⟩, .string t10, .string ⟨#[]⟩] [.slice a1 n1 k1, .slice a2 n2 k2, .slice a3 n3 k3, .int .i64 y.2.2.2.1, .int .i64 y.2.2.2.2.1, .int .i64 y.2.2.2.2.2.1, .slice a4 n4 k4, .slice a5 n5 k5, .int .i64 y.2.2.2.2.2.2.2.2.1, .slice a6 n6 k6, .slice a7 n7 k7] [.string ⟨#[]⟩, .string ⟨#[]⟩, .string ⟨#[]⟩, .string ⟨#[]⟩, .string ⟨#[]⟩, .string ⟨#[]⟩, .string ⟨#[]⟩, .string ⟨#[]⟩, .string ⟨#[]⟩, .string ⟨#[]⟩, .string ⟨#[]⟩, .string ⟨#[]⟩])) (fun _ _ _ i _ => n4 - (RowKit.intOf i).toNat)
 case atStart => exact ⟨0, Nat.zero_le _, rfl, M3⟩
 obtain ⟨k, hk, rfl, R⟩ := hrel
 by_cases hlt : k < n4
 ·have hkl : k < y.2.2.2.2.2.2.1.length := by rw [HN4.out]; exact hlt
  have HBW := hid R.out.bel
  obtain ⟨lb, lo, cap', cs, hv, _, _, _, hR, hcc⟩ := sliceR_at K4.out (by decide) k hkl
  rw [HN4.out] at hv
  simp only [Value.slice.injEq] at hv
  obtain ⟨rfl, -, rfl⟩ := hv
  have HNK6 := hid (HX6.out k hkl)
  have hbs6 : (catB wGlobal (y.2.2.2.2.2.2.1.take k)).size ≤ 1600 := HC6.out k
  have HFY := hid (HF.out _ (List.getElem_mem hkl))
  generalize catB wGlobal (y.2.2.2.2.2.2.1.take k) = b6 at *
  generalize y.2.2.2.2.2.2.1[k] = x at *
  clear hkl
  obtain ⟨_, _, rfl, ⟨rfl, _⟩, _, _, rfl, ⟨rfl, _⟩, _, _, rfl, ⟨rfl, _⟩, rfl⟩ := hR
  have y0 : wr.cell? ⟨lb, lo + k * 3, none⟩ = some (.int .u8 x.1) := hcc wr HBW.out 0 (by decide)
  have y1 : wr.cell? ⟨lb, lo + k * 3 + 1, none⟩ = some (.bool x.2.1) := hcc wr HBW.out 1 (by decide)
  have y2 : wr.cell? ⟨lb, lo + k * 3 + 2, none⟩ = some (.int .i64 x.2.2.1) := hcc wr HBW.out 2 (by decide)
  clear hcc
  --BEGIN
  have MA := hid (R.out.below ((Below.refl _ _).alloc (Nat.le_refl _) (.cells #[.int .u8 x.1, .bool x.2.1, .int .i64 x.2.2.1] 64)))
  have XA := hid (Blk.new wr #[.int .u8 x.1, .bool x.2.1, .int .i64 x.2.2.1] 64 _ rfl)
  have hg := gGlobal HFY.out
  obtain ⟨mu, hmu⟩ : ∃ m : Int, (if x.2.1 = true then 1 else 0) = m := ⟨_, rfl⟩
  obtain ⟨op, hop⟩ : ∃ m : Int, (if x.1 = 127 then 65 else 66) = m := ⟨_, rfl⟩
  have hx : IntKind.i64.wrap x.1 = x.1 := IntWalk.i64_in _ (by omega)
  obtain ⟨C1, hC1⟩ : ∃ C1, S [byteOf x.1] = C1 := ⟨_, rfl⟩
  have HC1 := hid (fun wx (hx : Below W.heap.size W wx) => chr_at x.1 C1 hC1.symm wx)
  have sC1 : C1.size ≤ 1 := by rw [← hC1]; exact Nat.le_of_eq (S_size _)
  have EC1 := hid hC1
  clear hC1
  obtain ⟨C2, hC2⟩ : ∃ C2, S [byteOf mu] = C2 := ⟨_, rfl⟩
  have HC2 := hid (fun wx (hx : Below W.heap.size W wx) => chr_at mu C2 hC2.symm wx)
  have sC2 : C2.size ≤ 1 := by rw [← hC2]; exact Nat.le_of_eq (S_size _)
  have EC2 := hid hC2
  clear hC2
  obtain ⟨C3, hC3⟩ : ∃ C3, S [byteOf op] = C3 := ⟨_, rfl⟩
  have HC3 := hid (fun wx (hx : Below W.heap.size W wx) => chr_at op C3 hC3.symm wx)
  have sC3 : C3.size ≤ 1 := by rw [← hC3]; exact Nat.le_of_eq (S_size _)
  have EC3 := hid hC3
  clear hC3
  obtain ⟨C4, hC4⟩ : ∃ C4, S [byteOf 11] = C4 := ⟨_, rfl⟩
  have HC4 := hid (fun wx (hx : Below W.heap.size W wx) => chr_at 11 C4 hC4.symm wx)
  have sC4 : C4.size ≤ 1 := by rw [← hC4]; exact Nat.le_of_eq (S_size _)
  have EC4 := hid hC4
  clear hC4
  obtain ⟨Z, hZ⟩ : ∃ Z, S (encS 9 x.2.2.1) = Z := ⟨_, rfl⟩
  have HS := hid (fun wx (hx : Below W.heap.size W wx) => rs_at x.2.2.1 Z hZ.symm wx)
  have sZ : Z.size ≤ 10 := by rw [← hZ]; exact encS9_size _
  have EZ := hid hZ
  clear hZ
  have HW := hid (show wGlobal x = C1 ++ C2 ++ C3 ++ Z ++ C4 from by
   unfold wGlobal
   rw [← EC1.out, ← EC2.out, ← EC3.out, ← EC4.out, EZ.out]
   refine congrArg (fun z => z ++ Z ++ S [11]) ?_
   rw [S_append, S_append, ← hmu, ← hop]
   show S [_, _, _] = S [_, _, _]
   congr 2
   congr 1
   ·cases x.2.1 <;> rfl
   ·congr 1
    by_cases e : x.1 = 127
    ·rw [if_pos e, if_pos e]; rfl
    ·rw [if_neg e, if_neg e]; rfl)
  have q0 : ¬ 9223372036854775807 < C1.size + C2.size := by omega
  have q1 : ¬ 9223372036854775807 < C1.size + C2.size + C3.size := by omega
  have q2 : ¬ 9223372036854775807 < C1.size + C2.size + C3.size + Z.size := by omega
  have q3 : ¬ 9223372036854775807 < C1.size + C2.size + C3.size + Z.size + C4.size := by omega
  have q4 : ¬ 9223372036854775807 < b6.size + (C1.size + C2.size + C3.size + Z.size + C4.size) := by omega
  clear sC1 sC2 sC3 sC4 sZ hbs6
  have MU := hid hmu
  have OP := hid hop
  have HG := hid hg
  clear hmu hop hg
  have ma0 := XA.out.cell (i := 0) rfl
  have ma1 := XA.out.cell (i := 1) rfl
  go_upto_if 98 with fail
  go_cut [12] from 96 to 101 (fun a wx => a = .int .i64 mu ∧ wx = wr.alloc (.cells #[.int .u8 x.1, .bool x.2.1, .int .i64 x.2.2.1] 64))
  case first =>
   have hmu := MU.out
   clear HG OP
   by_cases hb : x.2.1 = true
   ·rw [if_pos hb] at hmu
    subst hmu
    rw [hb]
    go_wp2_with fail
    go_meet
    exact ⟨rfl, by rw [hb]⟩
   ·rw [if_neg hb] at hmu
    subst hmu
    have hb2 : x.2.1 = false := by simpa using hb
    rw [hb2]
    clear hb
    go_wp2_with fail
    go_meet
    exact ⟨rfl, by rw [hb2]⟩
  case rest =>
  obtain ⟨rfl, rfl⟩ := hcut
  go_upto_if 101 with fail
  go_cut [13] from 96 to 103 (fun a wx => a = .int .i64 op ∧ wx = wr.alloc (.cells #[.int .u8 x.1, .bool x.2.1, .int .i64 x.2.2.1] 64))
  case first =>
   have hop := OP.out
   clear HG MU
   by_cases he : x.1 = 127
   ·rw [if_pos he] at hop
    subst hop
    have he2 : (x.1 == 127) = true := by rw [he]; rfl
    rw [he2]
    clear he
    go_wp2_with fail
    go_meet
    exact ⟨rfl, rfl⟩
   ·rw [if_neg he] at hop
    subst hop
    have he2 : (x.1 == 127) = false := by rw [beq_eq_false_iff_ne]; exact he
    rw [he2]
    clear he
    go_wp2_with fail
    go_meet
    exact ⟨rfl, rfl⟩
  case rest =>
  obtain ⟨rfl, rfl⟩ := hcut
  go_wp2_with fail
  clear y0 y1 y2 ma0 ma1
  have R0 := hid (MA.out.below (Below.refl _ _).drew)
  have X00 := hid (XA.out.below (Below.refl _ _).drew)
  refine wp_region_tail (S := (fun w' => w'.cell? ⟨(W.heap.size + 1 + 1), 6, none⟩ = some (.string b6) ∧ w'.cell? ⟨wr.heap.size, 0, none⟩ = some (.int .u8 x.1) ∧ w'.cell? ⟨wr.heap.size, 2, none⟩ = some (.int .i64 x.2.2.1) ∧ Hid (RS W w' (W.heap.size + 1 + 1) W.heap.size (W.heap.size + 1) [.string ⟨#[]⟩, .string t1, .string t2, .string t3, .string ⟨#[]⟩, .string ⟨#[]⟩, .string b6, .string ⟨#[]⟩, .string ⟨#[]⟩, .string ⟨#[]⟩, .string t10, .string ⟨#[]⟩] [.slice a1 n1 k1, .slice a2 n2 k2, .slice a3 n3 k3, .int .i64 y.2.2.2.1, .int .i64 y.2.2.2.2.1, .int .i64 y.2.2.2.2.2.1, .slice (some ⟨lb, lo, none⟩) n4 k4, .slice a5 n5 k5, .int .i64 y.2.2.2.2.2.2.2.2.1, .slice a6 n6 k6, .slice a7 n7 k7] [.string ⟨#[]⟩, .string ⟨#[]⟩, .string ⟨#[]⟩, .string ⟨#[]⟩, .string ⟨#[]⟩, .string ⟨#[]⟩, .string ⟨#[]⟩, .string ⟨#[]⟩, .string ⟨#[]⟩, .string ⟨#[]⟩, .string ⟨#[]⟩, .string ⟨#[]⟩]) ∧ Hid (Blk w' wr.heap.size 64 [.int .u8 x.1, .bool x.2.1, .int .i64 x.2.2.1]))) 20 (by kernel_rfl) (by kernel_rfl) ?_ (fun hHeld => ?_)
  ·exact ⟨R0.out.o.cell (i := 6) rfl, X00.out.cell (i := 0) rfl, X00.out.cell (i := 2) rfl, R0, X00⟩
  repeat ((first | refine tk 0 ?_ rfl ?_ ?_ | refine tk 1 ?_ rfl ?_ ?_ | refine tk 2 ?_ rfl ?_ ?_ | refine tk 3 ?_ rfl ?_ ?_ | refine tk 4 ?_ rfl ?_ ?_ | refine tk 6 ?_ rfl ?_ ?_ | refine tk 8 ?_ rfl ?_ ?_ | refine tk 9 ?_ rfl ?_ ?_ | refine tk 11 ?_ rfl ?_ ?_ | refine tk 12 ?_ rfl ?_ ?_ | refine tk 13 ?_ rfl ?_ ?_ | refine tk 15 ?_ rfl ?_ ?_ | refine tk 17 ?_ rfl ?_ ?_ | refine tk 18 ?_ rfl ?_ ?_ | refine tk 19 ?_ rfl ?_ ?_); rotate_left; (intro wy hSw; (try dsimp only at hSw); (go_simp <;> with_reducible rfl)); (try simp only [List.getElem_toArray, List.getElem_cons_zero, List.getElem_cons_succ, Act.put, List.setIfInBounds_toArray, List.set_cons_zero, List.set_cons_succ]))
  refine wpT_one (k := 5) rfl (by kernel_rfl) (fun K hK => ?_)
  go_simp
  refine (HC1.out _ R0.out.bel).mono ?_
  rintro r e1 ⟨rfl, hb5⟩
  have R1 := hid (R0.out.below hb5)
  have X01 := hid (X00.out.below hb5)
  clear hb5
  go_wp2_with fail
  refine hK.out _ _ ?_ (fun hHeld => ?_)
  ·exact ⟨R1.out.o.cell (i := 6) rfl, X01.out.cell (i := 0) rfl, X01.out.cell (i := 2) rfl, R1, X01⟩
  clear hK K
  (try simp only [Act.put, List.setIfInBounds_toArray, List.set_cons_zero, List.set_cons_succ])
  repeat ((first | refine tk 0 ?_ rfl ?_ ?_ | refine tk 1 ?_ rfl ?_ ?_ | refine tk 2 ?_ rfl ?_ ?_ | refine tk 3 ?_ rfl ?_ ?_ | refine tk 4 ?_ rfl ?_ ?_ | refine tk 6 ?_ rfl ?_ ?_ | refine tk 8 ?_ rfl ?_ ?_ | refine tk 9 ?_ rfl ?_ ?_ | refine tk 11 ?_ rfl ?_ ?_ | refine tk 12 ?_ rfl ?_ ?_ | refine tk 13 ?_ rfl ?_ ?_ | refine tk 15 ?_ rfl ?_ ?_ | refine tk 17 ?_ rfl ?_ ?_ | refine tk 18 ?_ rfl ?_ ?_ | refine tk 19 ?_ rfl ?_ ?_); rotate_left; (intro wy hSw; (try dsimp only at hSw); (go_simp <;> with_reducible rfl)); (try simp only [List.getElem_toArray, List.getElem_cons_zero, List.getElem_cons_succ, Act.put, List.setIfInBounds_toArray, List.set_cons_zero, List.set_cons_succ]))
  refine wpT_one (k := 7) rfl (by kernel_rfl) (fun K hK => ?_)
  go_simp
  refine (HC2.out _ R1.out.bel).mono ?_
  rintro r e2 ⟨rfl, hb5⟩
  have R2 := hid (R1.out.below hb5)
  have X02 := hid (X01.out.below hb5)
  clear hb5
  go_wp2_with fail
  refine hK.out _ _ ?_ (fun hHeld => ?_)
  ·exact ⟨R2.out.o.cell (i := 6) rfl, X02.out.cell (i := 0) rfl, X02.out.cell (i := 2) rfl, R2, X02⟩
  clear hK K
  (try simp only [Act.put, List.setIfInBounds_toArray, List.set_cons_zero, List.set_cons_succ])
  repeat ((first | refine tk 0 ?_ rfl ?_ ?_ | refine tk 1 ?_ rfl ?_ ?_ | refine tk 2 ?_ rfl ?_ ?_ | refine tk 3 ?_ rfl ?_ ?_ | refine tk 4 ?_ rfl ?_ ?_ | refine tk 6 ?_ rfl ?_ ?_ | refine tk 8 ?_ rfl ?_ ?_ | refine tk 9 ?_ rfl ?_ ?_ | refine tk 11 ?_ rfl ?_ ?_ | refine tk 12 ?_ rfl ?_ ?_ | refine tk 13 ?_ rfl ?_ ?_ | refine tk 15 ?_ rfl ?_ ?_ | refine tk 17 ?_ rfl ?_ ?_ | refine tk 18 ?_ rfl ?_ ?_ | refine tk 19 ?_ rfl ?_ ?_); rotate_left; (intro wy hSw; (try dsimp only at hSw); (go_simp <;> with_reducible rfl)); (try simp only [List.getElem_toArray, List.getElem_cons_zero, List.getElem_cons_succ, Act.put, List.setIfInBounds_toArray, List.set_cons_zero, List.set_cons_succ]))
  refine wpT_one (k := 10) rfl (by kernel_rfl) (fun K hK => ?_)
  go_simp
  refine (HC3.out _ R2.out.bel).mono ?_
  rintro r e3 ⟨rfl, hb5⟩
  have R3 := hid (R2.out.below hb5)
  have X03 := hid (X02.out.below hb5)
  clear hb5
  go_wp2_with fail
  refine hK.out _ _ ?_ (fun hHeld => ?_)
  ·exact ⟨R3.out.o.cell (i := 6) rfl, X03.out.cell (i := 0) rfl, X03.out.cell (i := 2) rfl, R3, X03⟩
  clear hK K
  (try simp only [Act.put, List.setIfInBounds_toArray, List.set_cons_zero, List.set_cons_succ])
  repeat ((first | refine tk 0 ?_ rfl ?_ ?_ | refine tk 1 ?_ rfl ?_ ?_ | refine tk 2 ?_ rfl ?_ ?_ | refine tk 3 ?_ rfl ?_ ?_ | refine tk 4 ?_ rfl ?_ ?_ | refine tk 6 ?_ rfl ?_ ?_ | refine tk 8 ?_ rfl ?_ ?_ | refine tk 9 ?_ rfl ?_ ?_ | refine tk 11 ?_ rfl ?_ ?_ | refine tk 12 ?_ rfl ?_ ?_ | refine tk 13 ?_ rfl ?_ ?_ | refine tk 15 ?_ rfl ?_ ?_ | refine tk 17 ?_ rfl ?_ ?_ | refine tk 18 ?_ rfl ?_ ?_ | refine tk 19 ?_ rfl ?_ ?_); rotate_left; (intro wy hSw; (try dsimp only at hSw); (go_simp <;> with_reducible rfl)); (try simp only [List.getElem_toArray, List.getElem_cons_zero, List.getElem_cons_succ, Act.put, List.setIfInBounds_toArray, List.set_cons_zero, List.set_cons_succ]))
  refine wpT_one (k := 14) rfl (by kernel_rfl) (fun K hK => ?_)
  go_simp
  refine (HS.out _ R3.out.bel).mono ?_
  rintro r e4 ⟨rfl, hb5⟩
  have R4 := hid (R3.out.below hb5)
  have X04 := hid (X03.out.below hb5)
  clear hb5
  go_wp2_with fail
  refine hK.out _ _ ?_ (fun hHeld => ?_)
  ·exact ⟨R4.out.o.cell (i := 6) rfl, X04.out.cell (i := 0) rfl, X04.out.cell (i := 2) rfl, R4, X04⟩
  clear hK K
  (try simp only [Act.put, List.setIfInBounds_toArray, List.set_cons_zero, List.set_cons_succ])
  repeat ((first | refine tk 0 ?_ rfl ?_ ?_ | refine tk 1 ?_ rfl ?_ ?_ | refine tk 2 ?_ rfl ?_ ?_ | refine tk 3 ?_ rfl ?_ ?_ | refine tk 4 ?_ rfl ?_ ?_ | refine tk 6 ?_ rfl ?_ ?_ | refine tk 8 ?_ rfl ?_ ?_ | refine tk 9 ?_ rfl ?_ ?_ | refine tk 11 ?_ rfl ?_ ?_ | refine tk 12 ?_ rfl ?_ ?_ | refine tk 13 ?_ rfl ?_ ?_ | refine tk 15 ?_ rfl ?_ ?_ | refine tk 17 ?_ rfl ?_ ?_ | refine tk 18 ?_ rfl ?_ ?_ | refine tk 19 ?_ rfl ?_ ?_); rotate_left; (intro wy hSw; (try dsimp only at hSw); (go_simp <;> with_reducible rfl)); (try simp only [List.getElem_toArray, List.getElem_cons_zero, List.getElem_cons_succ, Act.put, List.setIfInBounds_toArray, List.set_cons_zero, List.set_cons_succ]))
  refine wpT_one (k := 16) rfl (by kernel_rfl) (fun K hK => ?_)
  go_simp
  refine (HC4.out _ R4.out.bel).mono ?_
  rintro r e5 ⟨rfl, hb5⟩
  have R5 := hid (R4.out.below hb5)
  have X05 := hid (X04.out.below hb5)
  clear hb5
  go_wp2_with fail
  refine hK.out _ _ ?_ (fun hHeld => ?_)
  ·exact ⟨R5.out.o.cell (i := 6) rfl, X05.out.cell (i := 0) rfl, X05.out.cell (i := 2) rfl, R5, X05⟩
  clear hK K
  (try simp only [Act.put, List.setIfInBounds_toArray, List.set_cons_zero, List.set_cons_succ])
  repeat ((first | refine tk 0 ?_ rfl ?_ ?_ | refine tk 1 ?_ rfl ?_ ?_ | refine tk 2 ?_ rfl ?_ ?_ | refine tk 3 ?_ rfl ?_ ?_ | refine tk 4 ?_ rfl ?_ ?_ | refine tk 6 ?_ rfl ?_ ?_ | refine tk 8 ?_ rfl ?_ ?_ | refine tk 9 ?_ rfl ?_ ?_ | refine tk 11 ?_ rfl ?_ ?_ | refine tk 12 ?_ rfl ?_ ?_ | refine tk 13 ?_ rfl ?_ ?_ | refine tk 15 ?_ rfl ?_ ?_ | refine tk 17 ?_ rfl ?_ ?_ | refine tk 18 ?_ rfl ?_ ?_ | refine tk 19 ?_ rfl ?_ ?_); rotate_left; (intro wy hSw; (try dsimp only at hSw); (go_simp <;> with_reducible rfl)); (try simp only [List.getElem_toArray, List.getElem_cons_zero, List.getElem_cons_succ, Act.put, List.setIfInBounds_toArray, List.set_cons_zero, List.set_cons_succ]))
  refine wpT_done (by kernel_rfl) ?_
  have co := R5.out.o.cell (i := 6) rfl
  have fo := R5.out.o.free 6
  go_wp2_with fail
  clear co fo
  go_roundw
  case rel => exact ⟨k + 1, by omega, by go_num, hid (by rw [← HNK6.out]; exact by rw [HW.out]; exact R5.out.put 6 _)⟩
  case measure => simp [RowKit.intOf]; omega
  --END
 obtain rfl : n4 = k := by omega
 clear hk hlt
 have HTT6 := hid (show catB wGlobal (y.2.2.2.2.2.2.1.take n4) = catB wGlobal y.2.2.2.2.2.2.1 from by rw [← HN4.out, List.take_length])
 have zt6 : (catB wGlobal (y.2.2.2.2.2.2.1.take n4)).size ≤ 1600 := HC6.out n4
 generalize catB wGlobal (y.2.2.2.2.2.2.1.take n4) = t6 at *
 clear HF hn16 HX6 HC6
 have M4 := R
 clear R
 have HX7 := hid (fun k (hk : k < y.2.2.2.2.2.2.2.1.length) => catB_next wExport y.2.2.2.2.2.2.2.1 k hk)
 have HC7 := hid (fun k => catB_size2 wExport 100 y.2.2.2.2.2.2.2.1 k (fun x HM => wExport_size _) (Nat.le_trans GW.out.exp.1 (by decide)))
 have HF := hid GW.out.exp.2
 have hn16 : (n5 : Int) ≤ 16 := by have h1 := GW.out.exp.1; have h2 := HN5.out; omega
 have m := M4.out.m.cell (i := 7) rfl
 go_wp2_with fail
 clear m
 go_loopw [15, 126] (fun _ i wr => ∃ k : Nat, k ≤ n5 ∧ i = .int .i64 k ∧ Hid (RS W wr (W.heap.size + 1 + 1) W.heap.size (W.heap.size + 1) [.string ⟨#[]⟩, .string t1, .string t2, .string t3, .string ⟨#[]⟩, .string ⟨#[]⟩, .string t6, .string (catB wExport (y.2.2.2.2.2.2.2.1.take k)), .string ⟨#[]⟩, .string ⟨#[]⟩, .string t10, .string ⟨#[]⟩] [.slice a1 n1 k1, .slice a2 n2 k2, .slice a3 n3 k3, .int .i64 y.2.2.2.1, .int .i64 y.2.2.2.2.1, .int .i64 y.2.2.2.2.2.1, .slice a4 n4 k4, .slice a5 n5 k5, .int .i64 y.2.2.2.2.2.2.2.2.1, .slice a6 n6 k6, .slice a7 n7 k7] [.string ⟨#[]⟩, .string ⟨#[]⟩, .string ⟨#[]⟩, .string ⟨#[]⟩, .string ⟨#[]⟩, .string ⟨#[]⟩, .string ⟨#[]⟩, .string ⟨#[]⟩, .string ⟨#[]⟩, .string ⟨#[]⟩, .string ⟨#[]⟩, .string ⟨#[]⟩])) (fun _ i _ => n5 - (RowKit.intOf i).toNat)
 case atStart => exact ⟨0, Nat.zero_le _, rfl, M4⟩
 obtain ⟨k, hk, rfl, R⟩ := hrel
 by_cases hlt : k < n5
 ·have hkl : k < y.2.2.2.2.2.2.2.1.length := by rw [HN5.out]; exact hlt
  have HBW := hid R.out.bel
  obtain ⟨lb, lo, cap', cs, hv, _, _, _, hR, hcc⟩ := sliceR_at K5.out (by decide) k hkl
  rw [HN5.out] at hv
  simp only [Value.slice.injEq] at hv
  obtain ⟨rfl, -, rfl⟩ := hv
  have HNK7 := hid (HX7.out k hkl)
  have hbs7 : (catB wExport (y.2.2.2.2.2.2.2.1.take k)).size ≤ 1600 := HC7.out k
  have HFY := hid (HF.out _ (List.getElem_mem hkl))
  generalize catB wExport (y.2.2.2.2.2.2.2.1.take k) = b7 at *
  generalize y.2.2.2.2.2.2.2.1[k] = x at *
  clear hkl
  obtain ⟨_, _, rfl, ⟨rfl, _⟩, _, _, rfl, ⟨rfl, _⟩, rfl⟩ := hR
  have y0 : wr.cell? ⟨lb, lo + k * 2, none⟩ = some (.string x.1) := hcc wr HBW.out 0 (by decide)
  have y1 : wr.cell? ⟨lb, lo + k * 2 + 1, none⟩ = some (.int .i64 x.2.1) := hcc wr HBW.out 1 (by decide)
  clear hcc
  --BEGIN
  have MA := hid (R.out.below ((Below.refl _ _).alloc (Nat.le_refl _) (.cells #[.string x.1, .int .i64 x.2.1] 68)))
  have XA := hid (Blk.new wr #[.string x.1, .int .i64 x.2.1] 68 _ rfl)
  obtain ⟨g1, g2, g3⟩ := gExport HFY.out
  obtain ⟨C0, hC0⟩ : ∃ C0, S [byteOf 0] = C0 := ⟨_, rfl⟩
  have HC0 := hid (fun wx (hx : Below W.heap.size W wx) => chr_at 0 C0 hC0.symm wx)
  have sC0 : C0.size ≤ 1 := by rw [← hC0]; exact Nat.le_of_eq (S_size _)
  have EC0 := hid hC0
  clear hC0
  obtain ⟨A, hA⟩ : ∃ A, nameX x.1 = A := ⟨_, rfl⟩
  have HA := hid (fun wx (hx : Below W.heap.size W wx) => rname_at x.1 g1 A hA.symm wx)
  have sA : A.size ≤ 17 := by rw [← hA]; exact nameX_size _
  have EA := hid hA
  clear hA
  obtain ⟨t, ht⟩ := Int.eq_ofNat_of_zero_le g2
  rw [ht] at y1 MA XA
  obtain ⟨U, hU⟩ : ∃ U, numB (t : Int) = U := ⟨_, rfl⟩
  have HU := hid (fun wx (hx : Below W.heap.size W wx) => u_at t (by omega) U hU.symm wx)
  have sU : U.size ≤ 10 := by rw [← hU]; exact numB_size _
  have EU := hid hU
  clear hU
  have HW := hid (show wExport x = A ++ C0 ++ U from by unfold wExport; rw [EA.out, ht, EU.out, ← EC0.out]; rfl)
  have HTX := hid ht
  have q0 : ¬ 9223372036854775807 < A.size + C0.size := by omega
  have q1 : ¬ 9223372036854775807 < A.size + C0.size + U.size := by omega
  have q2 : ¬ 9223372036854775807 < b7.size + (A.size + C0.size + U.size) := by omega
  clear sC0 sA sU hbs7 g1 g2 g3 ht
  go_wp2_with fail
  clear y0 y1
  have R0 := hid (MA.out.below (Below.refl _ _).drew)
  have X00 := hid (XA.out.below (Below.refl _ _).drew)
  refine wp_region_tail (S := (fun w' => w'.cell? ⟨(W.heap.size + 1 + 1), 7, none⟩ = some (.string b7) ∧ w'.cell? ⟨wr.heap.size, 0, none⟩ = some (.string x.1) ∧ w'.cell? ⟨wr.heap.size, 1, none⟩ = some (.int .i64 (t : Int)) ∧ Hid (RS W w' (W.heap.size + 1 + 1) W.heap.size (W.heap.size + 1) [.string ⟨#[]⟩, .string t1, .string t2, .string t3, .string ⟨#[]⟩, .string ⟨#[]⟩, .string t6, .string b7, .string ⟨#[]⟩, .string ⟨#[]⟩, .string t10, .string ⟨#[]⟩] [.slice a1 n1 k1, .slice a2 n2 k2, .slice a3 n3 k3, .int .i64 y.2.2.2.1, .int .i64 y.2.2.2.2.1, .int .i64 y.2.2.2.2.2.1, .slice a4 n4 k4, .slice (some ⟨lb, lo, none⟩) n5 k5, .int .i64 y.2.2.2.2.2.2.2.2.1, .slice a6 n6 k6, .slice a7 n7 k7] [.string ⟨#[]⟩, .string ⟨#[]⟩, .string ⟨#[]⟩, .string ⟨#[]⟩, .string ⟨#[]⟩, .string ⟨#[]⟩, .string ⟨#[]⟩, .string ⟨#[]⟩, .string ⟨#[]⟩, .string ⟨#[]⟩, .string ⟨#[]⟩, .string ⟨#[]⟩]) ∧ Hid (Blk w' wr.heap.size 68 [.string x.1, .int .i64 (t : Int)]))) 13 (by kernel_rfl) (by kernel_rfl) ?_ (fun hHeld => ?_)
  ·exact ⟨R0.out.o.cell (i := 7) rfl, X00.out.cell (i := 0) rfl, X00.out.cell (i := 1) rfl, R0, X00⟩
  repeat ((first | refine tk 0 ?_ rfl ?_ ?_ | refine tk 1 ?_ rfl ?_ ?_ | refine tk 2 ?_ rfl ?_ ?_ | refine tk 3 ?_ rfl ?_ ?_ | refine tk 6 ?_ rfl ?_ ?_ | refine tk 7 ?_ rfl ?_ ?_ | refine tk 8 ?_ rfl ?_ ?_ | refine tk 10 ?_ rfl ?_ ?_ | refine tk 11 ?_ rfl ?_ ?_ | refine tk 12 ?_ rfl ?_ ?_); rotate_left; (intro wy hSw; (try dsimp only at hSw); (go_simp <;> with_reducible rfl)); (try simp only [List.getElem_toArray, List.getElem_cons_zero, List.getElem_cons_succ, Act.put, List.setIfInBounds_toArray, List.set_cons_zero, List.set_cons_succ]))
  refine wpT_one (k := 4) rfl (by kernel_rfl) (fun K hK => ?_)
  go_simp
  refine (HA.out _ R0.out.bel).mono ?_
  rintro r e1 ⟨rfl, hb5⟩
  have R1 := hid (R0.out.below hb5)
  have X01 := hid (X00.out.below hb5)
  clear hb5
  go_wp2_with fail
  refine hK.out _ _ ?_ (fun hHeld => ?_)
  ·exact ⟨R1.out.o.cell (i := 7) rfl, X01.out.cell (i := 0) rfl, X01.out.cell (i := 1) rfl, R1, X01⟩
  clear hK K
  (try simp only [Act.put, List.setIfInBounds_toArray, List.set_cons_zero, List.set_cons_succ])
  repeat ((first | refine tk 0 ?_ rfl ?_ ?_ | refine tk 1 ?_ rfl ?_ ?_ | refine tk 2 ?_ rfl ?_ ?_ | refine tk 3 ?_ rfl ?_ ?_ | refine tk 6 ?_ rfl ?_ ?_ | refine tk 7 ?_ rfl ?_ ?_ | refine tk 8 ?_ rfl ?_ ?_ | refine tk 10 ?_ rfl ?_ ?_ | refine tk 11 ?_ rfl ?_ ?_ | refine tk 12 ?_ rfl ?_ ?_); rotate_left; (intro wy hSw; (try dsimp only at hSw); (go_simp <;> with_reducible rfl)); (try simp only [List.getElem_toArray, List.getElem_cons_zero, List.getElem_cons_succ, Act.put, List.setIfInBounds_toArray, List.set_cons_zero, List.set_cons_succ]))
  refine wpT_one (k := 5) rfl (by kernel_rfl) (fun K hK => ?_)
  go_simp
  refine (HC0.out _ R1.out.bel).mono ?_
  rintro r e2 ⟨rfl, hb5⟩
  have R2 := hid (R1.out.below hb5)
  have X02 := hid (X01.out.below hb5)
  clear hb5
  go_wp2_with fail
  refine hK.out _ _ ?_ (fun hHeld => ?_)
  ·exact ⟨R2.out.o.cell (i := 7) rfl, X02.out.cell (i := 0) rfl, X02.out.cell (i := 1) rfl, R2, X02⟩
  clear hK K
  (try simp only [Act.put, List.setIfInBounds_toArray, List.set_cons_zero, List.set_cons_succ])
  repeat ((first | refine tk 0 ?_ rfl ?_ ?_ | refine tk 1 ?_ rfl ?_ ?_ | refine tk 2 ?_ rfl ?_ ?_ | refine tk 3 ?_ rfl ?_ ?_ | refine tk 6 ?_ rfl ?_ ?_ | refine tk 7 ?_ rfl ?_ ?_ | refine tk 8 ?_ rfl ?_ ?_ | refine tk 10 ?_ rfl ?_ ?_ | refine tk 11 ?_ rfl ?_ ?_ | refine tk 12 ?_ rfl ?_ ?_); rotate_left; (intro wy hSw; (try dsimp only at hSw); (go_simp <;> with_reducible rfl)); (try simp only [List.getElem_toArray, List.getElem_cons_zero, List.getElem_cons_succ, Act.put, List.setIfInBounds_toArray, List.set_cons_zero, List.set_cons_succ]))
  refine wpT_one (k := 9) rfl (by kernel_rfl) (fun K hK => ?_)
  go_simp
  refine (HU.out _ R2.out.bel).mono ?_
  rintro r e3 ⟨rfl, hb5⟩
  have R3 := hid (R2.out.below hb5)
  have X03 := hid (X02.out.below hb5)
  clear hb5
  go_wp2_with fail
  refine hK.out _ _ ?_ (fun hHeld => ?_)
  ·exact ⟨R3.out.o.cell (i := 7) rfl, X03.out.cell (i := 0) rfl, X03.out.cell (i := 1) rfl, R3, X03⟩
  clear hK K
  (try simp only [Act.put, List.setIfInBounds_toArray, List.set_cons_zero, List.set_cons_succ])
  repeat ((first | refine tk 0 ?_ rfl ?_ ?_ | refine tk 1 ?_ rfl ?_ ?_ | refine tk 2 ?_ rfl ?_ ?_ | refine tk 3 ?_ rfl ?_ ?_ | refine tk 6 ?_ rfl ?_ ?_ | refine tk 7 ?_ rfl ?_ ?_ | refine tk 8 ?_ rfl ?_ ?_ | refine tk 10 ?_ rfl ?_ ?_ | refine tk 11 ?_ rfl ?_ ?_ | refine tk 12 ?_ rfl ?_ ?_); rotate_left; (intro wy hSw; (try dsimp only at hSw); (go_simp <;> with_reducible rfl)); (try simp only [List.getElem_toArray, List.getElem_cons_zero, List.getElem_cons_succ, Act.put, List.setIfInBounds_toArray, List.set_cons_zero, List.set_cons_succ]))
  refine wpT_done (by kernel_rfl) ?_
  have co := R3.out.o.cell (i := 7) rfl
  have fo := R3.out.o.free 7
  go_wp2_with fail
  clear co fo
  go_roundw
  case rel => exact ⟨k + 1, by omega, by go_num, hid (by rw [← HNK7.out]; exact by rw [HW.out]; exact R3.out.put 7 _)⟩
  case measure => simp [RowKit.intOf]; omega
  --END
 obtain rfl : n5 = k := by omega
 clear hk hlt
 have HTT7 := hid (show catB wExport (y.2.2.2.2.2.2.2.1.take n5) = catB wExport y.2.2.2.2.2.2.2.1 from by rw [← HN5.out, List.take_length])
 have zt7 : (catB wExport (y.2.2.2.2.2.2.2.1.take n5)).size ≤ 1600 := HC7.out n5
 generalize catB wExport (y.2.2.2.2.2.2.2.1.take n5) = t7 at *
 clear HF hn16 HX7 HC7
 have M5 := R
 clear R
 have HX9 := hid (fun k (hk : k < y.2.2.2.2.2.2.2.2.2.1.length) => catB_next wElem y.2.2.2.2.2.2.2.2.2.1 k hk)
 have HC9 := hid (fun k => catB_size2 wElem 200 y.2.2.2.2.2.2.2.2.2.1 k (fun x HM => wElem_size (GW.out.elem.2 x HM)) (Nat.le_trans GW.out.elem.1 (by decide)))
 have HF := hid GW.out.elem.2
 have hn16 : (n6 : Int) ≤ 16 := by have h1 := GW.out.elem.1; have h2 := HN6.out; omega
 have m := M5.out.m.cell (i := 9) rfl
 go_wp2_with fail
 clear m
 go_loopw [17, 147] (fun _ i wr => ∃ k : Nat, k ≤ n6 ∧ i = .int .i64 k ∧ Hid (RS W wr (W.heap.size + 1 + 1) W.heap.size (W.heap.size + 1) [.string ⟨#[]⟩, .string t1, .string t2, .string t3, .string ⟨#[]⟩, .string ⟨#[]⟩, .string t6, .string t7, .string ⟨#[]⟩, .string (catB wElem (y.2.2.2.2.2.2.2.2.2.1.take k)), .string t10, .string ⟨#[]⟩] [.slice a1 n1 k1, .slice a2 n2 k2, .slice a3 n3 k3, .int .i64 y.2.2.2.1, .int .i64 y.2.2.2.2.1, .int .i64 y.2.2.2.2.2.1, .slice a4 n4 k4, .slice a5 n5 k5, .int .i64 y.2.2.2.2.2.2.2.2.1, .slice a6 n6 k6, .slice a7 n7 k7] [.string ⟨#[]⟩, .string ⟨#[]⟩, .string ⟨#[]⟩, .string ⟨#[]⟩, .string ⟨#[]⟩, .string ⟨#[]⟩, .string ⟨#[]⟩, .string ⟨#[]⟩, .string ⟨#[]⟩, .string ⟨#[]⟩, .string ⟨#[]⟩, .string ⟨#[]⟩])) (fun _ i _ => n6 - (RowKit.intOf i).toNat)
 case atStart => exact ⟨0, Nat.zero_le _, rfl, M5⟩
 obtain ⟨k, hk, rfl, R⟩ := hrel
 by_cases hlt : k < n6
 ·have hkl : k < y.2.2.2.2.2.2.2.2.2.1.length := by rw [HN6.out]; exact hlt
  have HBW := hid R.out.bel
  obtain ⟨lb, lo, cap', cs, hv, _, _, _, hR, hcc⟩ := sliceR_at K6.out (by decide) k hkl
  rw [HN6.out] at hv
  simp only [Value.slice.injEq] at hv
  obtain ⟨rfl, -, rfl⟩ := hv
  have HNK9 := hid (HX9.out k hkl)
  have hbs9 : (catB wElem (y.2.2.2.2.2.2.2.2.2.1.take k)).size ≤ 3200 := HC9.out k
  have HFY := hid (HF.out _ (List.getElem_mem hkl))
  generalize catB wElem (y.2.2.2.2.2.2.2.2.2.1.take k) = b9 at *
  generalize y.2.2.2.2.2.2.2.2.2.1[k] = x at *
  clear hkl
  obtain ⟨_, _, rfl, ⟨rfl, _⟩, _, _, rfl, h1, rfl⟩ := hR
  obtain ⟨v1, rfl⟩ := sl_one h1
  have LL1 := hid h1
  obtain ⟨p1, c1, rfl, _, _, _⟩ := sl_shape h1
  clear h1
  have y0 : wr.cell? ⟨lb, lo + k * 2, none⟩ = some (.int .i64 x.1) := hcc wr HBW.out 0 (by decide)
  have y1 : wr.cell? ⟨lb, lo + k * 2 + 1, none⟩ = some (.slice p1 x.2.1.length c1) := hcc wr HBW.out 1 (by decide)
  clear hcc
  --BEGIN
  have MA := hid (R.out.below ((Below.refl _ _).alloc (Nat.le_refl _) (.cells #[.int .i64 x.1, .slice p1 x.2.1.length c1] 73)))
  have XA := hid (Blk.new wr #[.int .i64 x.1, .slice p1 x.2.1.length c1] 73 _ rfl)
  obtain ⟨g1, g2, g3, g4⟩ := gElem HFY.out
  obtain ⟨nz, hnz⟩ : ∃ n, x.2.1.length = n := ⟨_, rfl⟩
  rw [hnz] at y1 MA XA LL1 g3
  have HNZ := hid hnz
  obtain ⟨PL, hPL⟩ : ∃ PL, placeB x.1 = PL := ⟨_, rfl⟩
  have HP := hid (fun wx (hx : Below W.heap.size W wx) => rplace_any x.1 wx PL hPL.symm)
  have sPL : PL.size ≤ 13 := by rw [← hPL]; exact placeB_size _
  have EPL := hid hPL
  clear hPL
  obtain ⟨U, hU⟩ : ∃ U, numB (nz : Int) = U := ⟨_, rfl⟩
  have HU := hid (fun wx (hx : Below W.heap.size W wx) => u_at nz (by omega) U hU.symm wx)
  have sU : U.size ≤ 10 := by rw [← hU]; exact numB_size _
  have EU := hid hU
  clear hU
  have HW := hid (show b9 ++ wElem x = b9 ++ (PL ++ U) ++ catB numB (x.2.1.take nz) from by unfold wElem; rw [EPL.out, ← hnz, List.take_length, ← EU.out, hnz, ba_assoc, ba_assoc, ba_assoc])
  have q0 : ¬ 9223372036854775807 < PL.size + U.size := by omega
  have q1 : ¬ 9223372036854775807 < b9.size + (PL.size + U.size) := by omega
  have HPS := hid (show (b9 ++ (PL ++ U)).size ≤ 4000 from by rw [ba_size, ba_size]; omega)
  have HZY := hid g4
  have HNE := hid (show W.heap.size + 1 + 1 ≠ wr.heap.size from by have := R.out.o.lt; omega)
  have hnz16 : (nz : Int) ≤ 16 := by omega
  have HZX := hid (fun (b : ByteArray) j (hj : j < x.2.1.length) => catB_more numB x.2.1 j hj b)
  have HZC := hid (fun j => catB_size2 numB 10 x.2.1 j (fun z _ => numB_size z) (by omega))
  clear sPL sU hbs9 g1 g2 g3 g4 hnz
  go_wp2_with fail
  clear y0 y1
  have R0 := hid (MA.out.below (Below.refl _ _).drew)
  have X00 := hid (XA.out.below (Below.refl _ _).drew)
  refine wp_region_tail (S := (fun w' => w'.cell? ⟨(W.heap.size + 1 + 1), 9, none⟩ = some (.string b9) ∧ w'.cell? ⟨wr.heap.size, 0, none⟩ = some (.int .i64 x.1) ∧ w'.cell? ⟨wr.heap.size, 1, none⟩ = some (.slice p1 nz c1) ∧ Hid (RS W w' (W.heap.size + 1 + 1) W.heap.size (W.heap.size + 1) [.string ⟨#[]⟩, .string t1, .string t2, .string t3, .string ⟨#[]⟩, .string ⟨#[]⟩, .string t6, .string t7, .string ⟨#[]⟩, .string b9, .string t10, .string ⟨#[]⟩] [.slice a1 n1 k1, .slice a2 n2 k2, .slice a3 n3 k3, .int .i64 y.2.2.2.1, .int .i64 y.2.2.2.2.1, .int .i64 y.2.2.2.2.2.1, .slice a4 n4 k4, .slice a5 n5 k5, .int .i64 y.2.2.2.2.2.2.2.2.1, .slice (some ⟨lb, lo, none⟩) n6 k6, .slice a7 n7 k7] [.string ⟨#[]⟩, .string ⟨#[]⟩, .string ⟨#[]⟩, .string ⟨#[]⟩, .string ⟨#[]⟩, .string ⟨#[]⟩, .string ⟨#[]⟩, .string ⟨#[]⟩, .string ⟨#[]⟩, .string ⟨#[]⟩, .string ⟨#[]⟩, .string ⟨#[]⟩]) ∧ Hid (Blk w' wr.heap.size 73 [.int .i64 x.1, .slice p1 nz c1]))) 12 (by kernel_rfl) (by kernel_rfl) ?_ (fun hHeld => ?_)
  ·exact ⟨R0.out.o.cell (i := 9) rfl, X00.out.cell (i := 0) rfl, X00.out.cell (i := 1) rfl, R0, X00⟩
  repeat ((first | refine tk 0 ?_ rfl ?_ ?_ | refine tk 1 ?_ rfl ?_ ?_ | refine tk 2 ?_ rfl ?_ ?_ | refine tk 3 ?_ rfl ?_ ?_ | refine tk 5 ?_ rfl ?_ ?_ | refine tk 6 ?_ rfl ?_ ?_ | refine tk 7 ?_ rfl ?_ ?_ | refine tk 9 ?_ rfl ?_ ?_ | refine tk 10 ?_ rfl ?_ ?_ | refine tk 11 ?_ rfl ?_ ?_); rotate_left; (intro wy hSw; (try dsimp only at hSw); (go_simp <;> with_reducible rfl)); (try simp only [List.getElem_toArray, List.getElem_cons_zero, List.getElem_cons_succ, Act.put, List.setIfInBounds_toArray, List.set_cons_zero, List.set_cons_succ]))
  refine wpT_one (k := 4) rfl (by kernel_rfl) (fun K hK => ?_)
  go_simp
  refine (HP.out _ R0.out.bel).mono ?_
  rintro r e1 ⟨rfl, hb5⟩
  have R1 := hid (R0.out.below hb5)
  have X01 := hid (X00.out.below hb5)
  clear hb5
  go_wp2_with fail
  refine hK.out _ _ ?_ (fun hHeld => ?_)
  ·exact ⟨R1.out.o.cell (i := 9) rfl, X01.out.cell (i := 0) rfl, X01.out.cell (i := 1) rfl, R1, X01⟩
  clear hK K
  (try simp only [Act.put, List.setIfInBounds_toArray, List.set_cons_zero, List.set_cons_succ])
  repeat ((first | refine tk 0 ?_ rfl ?_ ?_ | refine tk 1 ?_ rfl ?_ ?_ | refine tk 2 ?_ rfl ?_ ?_ | refine tk 3 ?_ rfl ?_ ?_ | refine tk 5 ?_ rfl ?_ ?_ | refine tk 6 ?_ rfl ?_ ?_ | refine tk 7 ?_ rfl ?_ ?_ | refine tk 9 ?_ rfl ?_ ?_ | refine tk 10 ?_ rfl ?_ ?_ | refine tk 11 ?_ rfl ?_ ?_); rotate_left; (intro wy hSw; (try dsimp only at hSw); (go_simp <;> with_reducible rfl)); (try simp only [List.getElem_toArray, List.getElem_cons_zero, List.getElem_cons_succ, Act.put, List.setIfInBounds_toArray, List.set_cons_zero, List.set_cons_succ]))
  refine wpT_one (k := 8) rfl (by kernel_rfl) (fun K hK => ?_)
  go_simp
  refine (HU.out _ R1.out.bel).mono ?_
  rintro r e2 ⟨rfl, hb5⟩
  have R2 := hid (R1.out.below hb5)
  have X02 := hid (X01.out.below hb5)
  clear hb5
  go_wp2_with fail
  refine hK.out _ _ ?_ (fun hHeld => ?_)
  ·exact ⟨R2.out.o.cell (i := 9) rfl, X02.out.cell (i := 0) rfl, X02.out.cell (i := 1) rfl, R2, X02⟩
  clear hK K
  (try simp only [Act.put, List.setIfInBounds_toArray, List.set_cons_zero, List.set_cons_succ])
  repeat ((first | refine tk 0 ?_ rfl ?_ ?_ | refine tk 1 ?_ rfl ?_ ?_ | refine tk 2 ?_ rfl ?_ ?_ | refine tk 3 ?_ rfl ?_ ?_ | refine tk 5 ?_ rfl ?_ ?_ | refine tk 6 ?_ rfl ?_ ?_ | refine tk 7 ?_ rfl ?_ ?_ | refine tk 9 ?_ rfl ?_ ?_ | refine tk 10 ?_ rfl ?_ ?_ | refine tk 11 ?_ rfl ?_ ?_); rotate_left; (intro wy hSw; (try dsimp only at hSw); (go_simp <;> with_reducible rfl)); (try simp only [List.getElem_toArray, List.getElem_cons_zero, List.getElem_cons_succ, Act.put, List.setIfInBounds_toArray, List.set_cons_zero, List.set_cons_succ]))
  refine wpT_done (by kernel_rfl) ?_
  have co := R2.out.o.cell (i := 9) rfl
  have fo := R2.out.o.free 9
  have MB := hid (R2.out.put 9 (.string (b9 ++ (PL ++ U))))
  have XBB := hid (X02.out.other (a := ⟨W.heap.size + 1 + 1, 9, none⟩) HNE.out (.string (b9 ++ (PL ++ U))))
  have xc := XBB.out.cell (i := 1) rfl
  go_wp2_with fail
  clear co fo xc R0 R1 R2 X00 X01 X02
  go_loopw [19, 166] (fun _ i wq => ∃ j : Nat, j ≤ nz ∧ i = .int .i64 j ∧ Hid (RS W wq (W.heap.size + 1 + 1) W.heap.size (W.heap.size + 1) [.string ⟨#[]⟩, .string t1, .string t2, .string t3, .string ⟨#[]⟩, .string ⟨#[]⟩, .string t6, .string t7, .string ⟨#[]⟩, .string (b9 ++ (PL ++ U) ++ catB numB (x.2.1.take j)), .string t10, .string ⟨#[]⟩] [.slice a1 n1 k1, .slice a2 n2 k2, .slice a3 n3 k3, .int .i64 y.2.2.2.1, .int .i64 y.2.2.2.2.1, .int .i64 y.2.2.2.2.2.1, .slice a4 n4 k4, .slice a5 n5 k5, .int .i64 y.2.2.2.2.2.2.2.2.1, .slice (some ⟨lb, lo, none⟩) n6 k6, .slice a7 n7 k7] [.string ⟨#[]⟩, .string ⟨#[]⟩, .string ⟨#[]⟩, .string ⟨#[]⟩, .string ⟨#[]⟩, .string ⟨#[]⟩, .string ⟨#[]⟩, .string ⟨#[]⟩, .string ⟨#[]⟩, .string ⟨#[]⟩, .string ⟨#[]⟩, .string ⟨#[]⟩])) (fun _ i _ => nz - (RowKit.intOf i).toNat)
  case atStart => exact ⟨0, Nat.zero_le _, rfl, hid (by rw [show catB numB (x.2.1.take 0) = (⟨#[]⟩ : ByteArray) from rfl, ba_nil]; exact MB.out)⟩
  case round =>
   obtain ⟨j, hj, rfl, RQ⟩ := hrel
   by_cases hjl : j < nz
   ·have hjk : j < x.2.1.length := by rw [HNZ.out]; exact hjl
    have hi1 := ints_of LL1.out
    have hI := L1.below hi1 RQ.out.bel
    rcases hI.open with ⟨_, _, _, e, _⟩ | ⟨lb2, lo2, cap2, hv2, _, hcap3, hcap2, hc⟩
    ·rw [e] at hjk; simp at hjk
    rw [HNZ.out] at hv2
    simp only [Value.slice.injEq] at hv2
    obtain ⟨rfl, -, rfl⟩ := hv2
    have z0 := hc j hjk
    have HZK := hid (HZX.out (b9 ++ (PL ++ U)) j hjk)
    have hzy := HZY.out _ (List.getElem_mem hjk)
    have hbq : (b9 ++ (PL ++ U) ++ catB numB (x.2.1.take j)).size ≤ 5000 := by
     rw [ba_size]
     have h1 := HPS.out
     have h2 := HZC.out j
     omega
    clear hc hI hcap3 hi1
    generalize b9 ++ (PL ++ U) ++ catB numB (x.2.1.take j) = bq at *
    generalize x.2.1[j] = z at *
    clear hjk
    obtain ⟨Z, hZ⟩ : ∃ Z, numB z = Z := ⟨_, rfl⟩
    have HZ := hid (fun wx (hx : Below W.heap.size W wx) => u_at z (by omega) Z hZ.symm wx)
    have sZ : Z.size ≤ 10 := by rw [← hZ]; exact numB_size _
    have EZ := hid hZ
    clear hZ
    have q0 : ¬ 9223372036854775807 < bq.size + Z.size := by omega
    clear sZ hbq hzy
    go_wp2_with fail
    clear z0
    have R0 := hid (RQ.out.below (Below.refl _ _).drew)
    refine wp_region_tail (S := (fun w' => w'.cell? ⟨(W.heap.size + 1 + 1), 9, none⟩ = some (.string bq) ∧ Hid (RS W w' (W.heap.size + 1 + 1) W.heap.size (W.heap.size + 1) [.string ⟨#[]⟩, .string t1, .string t2, .string t3, .string ⟨#[]⟩, .string ⟨#[]⟩, .string t6, .string t7, .string ⟨#[]⟩, .string bq, .string t10, .string ⟨#[]⟩] [.slice a1 n1 k1, .slice a2 n2 k2, .slice a3 n3 k3, .int .i64 y.2.2.2.1, .int .i64 y.2.2.2.2.1, .int .i64 y.2.2.2.2.2.1, .slice a4 n4 k4, .slice a5 n5 k5, .int .i64 y.2.2.2.2.2.2.2.2.1, .slice (some ⟨lb, lo, none⟩) n6 k6, .slice a7 n7 k7] [.string ⟨#[]⟩, .string ⟨#[]⟩, .string ⟨#[]⟩, .string ⟨#[]⟩, .string ⟨#[]⟩, .string ⟨#[]⟩, .string ⟨#[]⟩, .string ⟨#[]⟩, .string ⟨#[]⟩, .string ⟨#[]⟩, .string ⟨#[]⟩, .string ⟨#[]⟩]))) 6 (by kernel_rfl) (by kernel_rfl) ?_ (fun hHeld => ?_)
    ·exact ⟨R0.out.o.cell (i := 9) rfl, R0⟩
    repeat ((first | refine tk 0 ?_ rfl ?_ ?_ | refine tk 1 ?_ rfl ?_ ?_ | refine tk 2 ?_ rfl ?_ ?_ | refine tk 4 ?_ rfl ?_ ?_ | refine tk 5 ?_ rfl ?_ ?_); rotate_left; (intro wy hSw; (try dsimp only at hSw); (go_simp <;> with_reducible rfl)); (try simp only [List.getElem_toArray, List.getElem_cons_zero, List.getElem_cons_succ, Act.put, List.setIfInBounds_toArray, List.set_cons_zero, List.set_cons_succ]))
    refine wpT_one (k := 3) rfl (by kernel_rfl) (fun K hK => ?_)
    go_simp
    refine (HZ.out _ R0.out.bel).mono ?_
    rintro r e1 ⟨rfl, hb5⟩
    have R1 := hid (R0.out.below hb5)
    clear hb5
    go_wp2_with fail
    refine hK.out _ _ ?_ (fun hHeld => ?_)
    ·exact ⟨R1.out.o.cell (i := 9) rfl, R1⟩
    clear hK K
    (try simp only [Act.put, List.setIfInBounds_toArray, List.set_cons_zero, List.set_cons_succ])
    repeat ((first | refine tk 0 ?_ rfl ?_ ?_ | refine tk 1 ?_ rfl ?_ ?_ | refine tk 2 ?_ rfl ?_ ?_ | refine tk 4 ?_ rfl ?_ ?_ | refine tk 5 ?_ rfl ?_ ?_); rotate_left; (intro wy hSw; (try dsimp only at hSw); (go_simp <;> with_reducible rfl)); (try simp only [List.getElem_toArray, List.getElem_cons_zero, List.getElem_cons_succ, Act.put, List.setIfInBounds_toArray, List.set_cons_zero, List.set_cons_succ]))
    refine wpT_done (by kernel_rfl) ?_
    have co := R1.out.o.cell (i := 9) rfl
    have fo := R1.out.o.free 9
    go_wp2_with fail
    clear co fo
    go_roundw
    case rel => exact ⟨j + 1, by omega, by go_num, hid (by rw [← HZK.out, EZ.out]; exact R1.out.put 9 _)⟩
    case measure => simp [RowKit.intOf]; omega
   ·obtain rfl : nz = j := by omega
    clear hj hjl
    go_wp2_with fail
    go_roundw
    case rel => exact ⟨k + 1, by omega, by go_num, hid (by rw [← HNK9.out, HW.out]; exact RQ.out)⟩
    case measure => simp [RowKit.intOf]; omega
  --END
 obtain rfl : n6 = k := by omega
 clear hk hlt
 have HTT9 := hid (show catB wElem (y.2.2.2.2.2.2.2.2.2.1.take n6) = catB wElem y.2.2.2.2.2.2.2.2.2.1 from by rw [← HN6.out, List.take_length])
 have zt9 : (catB wElem (y.2.2.2.2.2.2.2.2.2.1.take n6)).size ≤ 3200 := HC9.out n6
 generalize catB wElem (y.2.2.2.2.2.2.2.2.2.1.take n6) = t9 at *
 clear HF hn16 HX9 HC9
 have M6 := R
 clear R
 have HX11 := hid (fun k (hk : k < y.2.2.2.2.2.2.2.2.2.2.1.length) => catB_next wData y.2.2.2.2.2.2.2.2.2.2.1 k hk)
 have HC11 := hid (fun k => catB_size2 wData 100 y.2.2.2.2.2.2.2.2.2.2.1 k (fun x HM => wData_size (GW.out.data.2 x HM)) (Nat.le_trans GW.out.data.1 (by decide)))
 have HF := hid GW.out.data.2
 have hn16 : (n7 : Int) ≤ 16 := by have h1 := GW.out.data.1; have h2 := HN7.out; omega
 have m := M6.out.m.cell (i := 10) rfl
 go_wp2_with fail
 clear m
 go_loopw [21, 181] (fun _ i wr => ∃ k : Nat, k ≤ n7 ∧ i = .int .i64 k ∧ Hid (RS W wr (W.heap.size + 1 + 1) W.heap.size (W.heap.size + 1) [.string ⟨#[]⟩, .string t1, .string t2, .string t3, .string ⟨#[]⟩, .string ⟨#[]⟩, .string t6, .string t7, .string ⟨#[]⟩, .string t9, .string t10, .string (catB wData (y.2.2.2.2.2.2.2.2.2.2.1.take k))] [.slice a1 n1 k1, .slice a2 n2 k2, .slice a3 n3 k3, .int .i64 y.2.2.2.1, .int .i64 y.2.2.2.2.1, .int .i64 y.2.2.2.2.2.1, .slice a4 n4 k4, .slice a5 n5 k5, .int .i64 y.2.2.2.2.2.2.2.2.1, .slice a6 n6 k6, .slice a7 n7 k7] [.string ⟨#[]⟩, .string ⟨#[]⟩, .string ⟨#[]⟩, .string ⟨#[]⟩, .string ⟨#[]⟩, .string ⟨#[]⟩, .string ⟨#[]⟩, .string ⟨#[]⟩, .string ⟨#[]⟩, .string ⟨#[]⟩, .string ⟨#[]⟩, .string ⟨#[]⟩])) (fun _ i _ => n7 - (RowKit.intOf i).toNat)
 case atStart => exact ⟨0, Nat.zero_le _, rfl, M6⟩
 obtain ⟨k, hk, rfl, R⟩ := hrel
 by_cases hlt : k < n7
 ·have hkl : k < y.2.2.2.2.2.2.2.2.2.2.1.length := by rw [HN7.out]; exact hlt
  have HBW := hid R.out.bel
  obtain ⟨lb, lo, cap', cs, hv, _, _, _, hR, hcc⟩ := sliceR_at K7.out (by decide) k hkl
  rw [HN7.out] at hv
  simp only [Value.slice.injEq] at hv
  obtain ⟨rfl, -, rfl⟩ := hv
  have HNK11 := hid (HX11.out k hkl)
  have hbs11 : (catB wData (y.2.2.2.2.2.2.2.2.2.2.1.take k)).size ≤ 1600 := HC11.out k
  have HFY := hid (HF.out _ (List.getElem_mem hkl))
  generalize catB wData (y.2.2.2.2.2.2.2.2.2.2.1.take k) = b11 at *
  generalize y.2.2.2.2.2.2.2.2.2.2.1[k] = x at *
  clear hkl
  obtain ⟨_, _, rfl, ⟨rfl, _⟩, _, _, rfl, ⟨rfl, _⟩, rfl⟩ := hR
  have y0 : wr.cell? ⟨lb, lo + k * 2, none⟩ = some (.int .i64 x.1) := hcc wr HBW.out 0 (by decide)
  have y1 : wr.cell? ⟨lb, lo + k * 2 + 1, none⟩ = some (.string x.2.1) := hcc wr HBW.out 1 (by decide)
  clear hcc
  --BEGIN
  have MA := hid (R.out.below ((Below.refl _ _).alloc (Nat.le_refl _) (.cells #[.int .i64 x.1, .string x.2.1] 78)))
  have XA := hid (Blk.new wr #[.int .i64 x.1, .string x.2.1] 78 _ rfl)
  obtain ⟨g1, g2, g3⟩ := gData HFY.out
  obtain ⟨PL, hPL⟩ : ∃ PL, placeB x.1 = PL := ⟨_, rfl⟩
  have HP := hid (fun wx (hx : Below W.heap.size W wx) => rplace_any x.1 wx PL hPL.symm)
  have sPL : PL.size ≤ 13 := by rw [← hPL]; exact placeB_size _
  have EPL := hid hPL
  clear hPL
  obtain ⟨U, hU⟩ : ∃ U, numB (x.2.1.size : Int) = U := ⟨_, rfl⟩
  have HU := hid (fun wx (hx : Below W.heap.size W wx) => u_at x.2.1.size (by omega) U hU.symm wx)
  have sU : U.size ≤ 10 := by rw [← hU]; exact numB_size _
  have EU := hid hU
  clear hU
  have HW := hid (show wData x = PL ++ U ++ x.2.1 from by unfold wData; rw [EPL.out, EU.out])
  have q0 : ¬ 9223372036854775807 < PL.size + U.size := by omega
  have q1 : ¬ 9223372036854775807 < PL.size + U.size + x.2.1.size := by omega
  have q2 : ¬ 9223372036854775807 < b11.size + (PL.size + U.size + x.2.1.size) := by omega
  clear sPL sU hbs11 g1 g2 g3
  go_wp2_with fail
  clear y0 y1
  have R0 := hid (MA.out.below (Below.refl _ _).drew)
  have X00 := hid (XA.out.below (Below.refl _ _).drew)
  refine wp_region_tail (S := (fun w' => w'.cell? ⟨(W.heap.size + 1 + 1), 11, none⟩ = some (.string b11) ∧ w'.cell? ⟨wr.heap.size, 0, none⟩ = some (.int .i64 x.1) ∧ w'.cell? ⟨wr.heap.size, 1, none⟩ = some (.string x.2.1) ∧ Hid (RS W w' (W.heap.size + 1 + 1) W.heap.size (W.heap.size + 1) [.string ⟨#[]⟩, .string t1, .string t2, .string t3, .string ⟨#[]⟩, .string ⟨#[]⟩, .string t6, .string t7, .string ⟨#[]⟩, .string t9, .string t10, .string b11] [.slice a1 n1 k1, .slice a2 n2 k2, .slice a3 n3 k3, .int .i64 y.2.2.2.1, .int .i64 y.2.2.2.2.1, .int .i64 y.2.2.2.2.2.1, .slice a4 n4 k4, .slice a5 n5 k5, .int .i64 y.2.2.2.2.2.2.2.2.1, .slice a6 n6 k6, .slice (some ⟨lb, lo, none⟩) n7 k7] [.string ⟨#[]⟩, .string ⟨#[]⟩, .string ⟨#[]⟩, .string ⟨#[]⟩, .string ⟨#[]⟩, .string ⟨#[]⟩, .string ⟨#[]⟩, .string ⟨#[]⟩, .string ⟨#[]⟩, .string ⟨#[]⟩, .string ⟨#[]⟩, .string ⟨#[]⟩]) ∧ Hid (Blk w' wr.heap.size 78 [.int .i64 x.1, .string x.2.1]))) 15 (by kernel_rfl) (by kernel_rfl) ?_ (fun hHeld => ?_)
  ·exact ⟨R0.out.o.cell (i := 11) rfl, X00.out.cell (i := 0) rfl, X00.out.cell (i := 1) rfl, R0, X00⟩
  repeat ((first | refine tk 0 ?_ rfl ?_ ?_ | refine tk 1 ?_ rfl ?_ ?_ | refine tk 2 ?_ rfl ?_ ?_ | refine tk 3 ?_ rfl ?_ ?_ | refine tk 5 ?_ rfl ?_ ?_ | refine tk 6 ?_ rfl ?_ ?_ | refine tk 7 ?_ rfl ?_ ?_ | refine tk 9 ?_ rfl ?_ ?_ | refine tk 10 ?_ rfl ?_ ?_ | refine tk 11 ?_ rfl ?_ ?_ | refine tk 12 ?_ rfl ?_ ?_ | refine tk 13 ?_ rfl ?_ ?_ | refine tk 14 ?_ rfl ?_ ?_); rotate_left; (intro wy hSw; (try dsimp only at hSw); (go_simp <;> with_reducible rfl)); (try simp only [List.getElem_toArray, List.getElem_cons_zero, List.getElem_cons_succ, Act.put, List.setIfInBounds_toArray, List.set_cons_zero, List.set_cons_succ]))
  refine wpT_one (k := 4) rfl (by kernel_rfl) (fun K hK => ?_)
  go_simp
  refine (HP.out _ R0.out.bel).mono ?_
  rintro r e1 ⟨rfl, hb5⟩
  have R1 := hid (R0.out.below hb5)
  have X01 := hid (X00.out.below hb5)
  clear hb5
  go_wp2_with fail
  refine hK.out _ _ ?_ (fun hHeld => ?_)
  ·exact ⟨R1.out.o.cell (i := 11) rfl, X01.out.cell (i := 0) rfl, X01.out.cell (i := 1) rfl, R1, X01⟩
  clear hK K
  (try simp only [Act.put, List.setIfInBounds_toArray, List.set_cons_zero, List.set_cons_succ])
  repeat ((first | refine tk 0 ?_ rfl ?_ ?_ | refine tk 1 ?_ rfl ?_ ?_ | refine tk 2 ?_ rfl ?_ ?_ | refine tk 3 ?_ rfl ?_ ?_ | refine tk 5 ?_ rfl ?_ ?_ | refine tk 6 ?_ rfl ?_ ?_ | refine tk 7 ?_ rfl ?_ ?_ | refine tk 9 ?_ rfl ?_ ?_ | refine tk 10 ?_ rfl ?_ ?_ | refine tk 11 ?_ rfl ?_ ?_ | refine tk 12 ?_ rfl ?_ ?_ | refine tk 13 ?_ rfl ?_ ?_ | refine tk 14 ?_ rfl ?_ ?_); rotate_left; (intro wy hSw; (try dsimp only at hSw); (go_simp <;> with_reducible rfl)); (try simp only [List.getElem_toArray, List.getElem_cons_zero, List.getElem_cons_succ, Act.put, List.setIfInBounds_toArray, List.set_cons_zero, List.set_cons_succ]))
  refine wpT_one (k := 8) rfl (by kernel_rfl) (fun K hK => ?_)
  go_simp
  refine (HU.out _ R1.out.bel).mono ?_
  rintro r e2 ⟨rfl, hb5⟩
  have R2 := hid (R1.out.below hb5)
  have X02 := hid (X01.out.below hb5)
  clear hb5
  go_wp2_with fail
  refine hK.out _ _ ?_ (fun hHeld => ?_)
  ·exact ⟨R2.out.o.cell (i := 11) rfl, X02.out.cell (i := 0) rfl, X02.out.cell (i := 1) rfl, R2, X02⟩
  clear hK K
  (try simp only [Act.put, List.setIfInBounds_toArray, List.set_cons_zero, List.set_cons_succ])
  repeat ((first | refine tk 0 ?_ rfl ?_ ?_ | refine tk 1 ?_ rfl ?_ ?_ | refine tk 2 ?_ rfl ?_ ?_ | refine tk 3 ?_ rfl ?_ ?_ | refine tk 5 ?_ rfl ?_ ?_ | refine tk 6 ?_ rfl ?_ ?_ | refine tk 7 ?_ rfl ?_ ?_ | refine tk 9 ?_ rfl ?_ ?_ | refine tk 10 ?_ rfl ?_ ?_ | refine tk 11 ?_ rfl ?_ ?_ | refine tk 12 ?_ rfl ?_ ?_ | refine tk 13 ?_ rfl ?_ ?_ | refine tk 14 ?_ rfl ?_ ?_); rotate_left; (intro wy hSw; (try dsimp only at hSw); (go_simp <;> with_reducible rfl)); (try simp only [List.getElem_toArray, List.getElem_cons_zero, List.getElem_cons_succ, Act.put, List.setIfInBounds_toArray, List.set_cons_zero, List.set_cons_succ]))
  refine wpT_done (by kernel_rfl) ?_
  have co := R2.out.o.cell (i := 11) rfl
  have fo := R2.out.o.free 11
  go_wp2_with fail
  clear co fo
  go_roundw
  case rel => exact ⟨k + 1, by omega, by go_num, hid (by rw [← HNK11.out]; exact by rw [HW.out]; exact R2.out.put 11 _)⟩
  case measure => simp [RowKit.intOf]; omega
  --END
 obtain rfl : n7 = k := by omega
 clear hk hlt
 have HTT11 := hid (show catB wData (y.2.2.2.2.2.2.2.2.2.2.1.take n7) = catB wData y.2.2.2.2.2.2.2.2.2.2.1 from by rw [← HN7.out, List.take_length])
 have zt11 : (catB wData (y.2.2.2.2.2.2.2.2.2.2.1.take n7)).size ≤ 1600 := HC11.out n7
 generalize catB wData (y.2.2.2.2.2.2.2.2.2.2.1.take n7) = t11 at *
 clear HF hn16 HX11 HC11
 have M7 := R
 clear R
 have hn1 : (n1 : Int) ≤ 16 := by have h1 := GW.out.typ.1; have h2 := HN1.out; omega
 have hn2 : (n2 : Int) ≤ 16 := by have h1 := GW.out.imp.1; have h2 := HN2.out; omega
 have hn3 : (n3 : Int) ≤ 16 := by have h1 := GW.out.fun_.1; have h2 := HN3.out; omega
 have hn4 : (n4 : Int) ≤ 16 := by have h1 := GW.out.glo.1; have h2 := HN4.out; omega
 have hn5 : (n5 : Int) ≤ 16 := by have h1 := GW.out.exp.1; have h2 := HN5.out; omega
 have hn6 : (n6 : Int) ≤ 16 := by have h1 := GW.out.elem.1; have h2 := HN6.out; omega
 have hn7 : (n7 : Int) ≤ 16 := by have h1 := GW.out.data.1; have h2 := HN7.out; omega
 have m0 := M7.out.m.cell (i := 0) rfl
 have m1 := M7.out.m.cell (i := 1) rfl
 have m2 := M7.out.m.cell (i := 2) rfl
 have m6 := M7.out.m.cell (i := 6) rfl
 have m7 := M7.out.m.cell (i := 7) rfl
 have m9 := M7.out.m.cell (i := 9) rfl
 have m10 := M7.out.m.cell (i := 10) rfl
 have MA := hid (M7.out.below ((Below.refl _ _).alloc (Nat.le_refl _) (.cells #[.int .i64 0, .int .i64 (n1 : Int), .int .i64 (n2 : Int), .int .i64 (n3 : Int), .int .i64 0, .int .i64 0, .int .i64 (n4 : Int), .int .i64 (n5 : Int), .int .i64 0, .int .i64 (n6 : Int), .int .i64 (n3 : Int), .int .i64 (n7 : Int)] 149)))
 have HML := hid (fun k (hk : k < 12) => mzL_le hn1 hn2 hn3 hn4 hn5 hn6 hn7 (k := k) hk)
 have HCL := hid (fun k (hk : k < 12) => ctL_le (t1 := t1) (t2 := t2) (t3 := t3) (t6 := t6) (t7 := t7) (t9 := t9) (t10 := t10) (t11 := t11) (by omega) (by omega) (by omega) (by omega) (by omega) (by omega) (by omega) (by omega) (k := k) hk)
 clear zt1 zt2 zt3 zt6 zt7 zt9 zt10 zt11
 go_wp2_with fail
 clear m0 m1 m2 m6 m7 m9 m10
 go_loopw [23, 24, 227] (fun _ _ i wr => ∃ k : Nat, k ≤ 12 ∧ i = .int .i64 k ∧ Hid (RS W wr (W.heap.size + 1 + 1) W.heap.size (W.heap.size + 1) (stepV (mzL n1 n2 n3 n4 n5 n6 n7) (ctL t1 t2 t3 t6 t7 t9 t10 t11) k) [.slice a1 n1 k1, .slice a2 n2 k2, .slice a3 n3 k3, .int .i64 y.2.2.2.1, .int .i64 y.2.2.2.2.1, .int .i64 y.2.2.2.2.2.1, .slice a4 n4 k4, .slice a5 n5 k5, .int .i64 y.2.2.2.2.2.2.2.2.1, .slice a6 n6 k6, .slice a7 n7 k7] [.string ⟨#[]⟩, .string ⟨#[]⟩, .string ⟨#[]⟩, .string ⟨#[]⟩, .string ⟨#[]⟩, .string ⟨#[]⟩, .string ⟨#[]⟩, .string ⟨#[]⟩, .string ⟨#[]⟩, .string ⟨#[]⟩, .string ⟨#[]⟩, .string ⟨#[]⟩])) (fun _ _ i _ => 12 - (RowKit.intOf i).toNat)
 case atStart => exact ⟨0, by omega, rfl, MA⟩
 obtain ⟨k, hk, rfl, R⟩ := hrel
 by_cases hlt : k < 12
 ·--BEGIN
  have hix := idxI k hlt wr 0 n1 n2 n3 0 0 n4 n5 0 n6 n3 n7
  have hml := HML.out k hlt
  have hcl := HCL.out k hlt
  have HAT := hid (manyL_at (mzL_len n1 n2 n3 n4 n5 n6 n7) (ctL_len t1 t2 t3 t6 t7 t9 t10 t11) hlt)
  have HCE := hid (stepV_cell (mzL_len n1 n2 n3 n4 n5 n6 n7) (ctL_len t1 t2 t3 t6 t7 t9 t10 t11) hlt)
  have HST := hid (stepV_set (mzL_len n1 n2 n3 n4 n5 n6 n7) (ctL_len t1 t2 t3 t6 t7 t9 t10 t11) hlt)
  have HSK := hid (stepV_skip (mzL_len n1 n2 n3 n4 n5 n6 n7) (ctL_len t1 t2 t3 t6 t7 t9 t10 t11) hlt)
  rw [show [(0 : Int), (n1 : Int), (n2 : Int), (n3 : Int), 0, 0, (n4 : Int), (n5 : Int), 0, (n6 : Int), (n3 : Int), (n7 : Int)] = (mzL n1 n2 n3 n4 n5 n6 n7) from rfl] at hix
  generalize (mzL n1 n2 n3 n4 n5 n6 n7).getD k 0 = mz at *
  generalize (ctL t1 t2 t3 t6 t7 t9 t10 t11).getD k ⟨#[]⟩ = ck at *
  have hk12 : (k : Int) < 12 := by omega
  obtain ⟨hm0, hm16⟩ := hml
  by_cases hp : 0 < mz
  ·have hd : decide (0 < mz) = true := decide_eq_true hp
   have HNV := hid (show (stepV (mzL n1 n2 n3 n4 n5 n6 n7) (ctL t1 t2 t3 t6 t7 t9 t10 t11) k).set k (.string (numB mz ++ ck)) = stepV (mzL n1 n2 n3 n4 n5 n6 n7) (ctL t1 t2 t3 t6 t7 t9 t10 t11) (k + 1) from by rw [← HST.out, HAT.out, if_pos hp])
   obtain ⟨U, hU⟩ : ∃ U, numB mz = U := ⟨_, rfl⟩
   have HU := hid (fun wx (hx : Below W.heap.size W wx) => u_at mz (by omega) U hU.symm wx)
   have sU : U.size ≤ 10 := by rw [← hU]; exact numB_size _
   have EU := hid hU
   clear hU
   have q0 : ¬ 9223372036854775807 < U.size + ck.size := by omega
   clear sU hcl HAT HST HSK
   go_wp2_with fail
   have R0 := hid (R.out.below (Below.refl _ _).drew)
   refine wp_region_tail (S := (fun w' => w'.cell? ⟨(W.heap.size + 1 + 1), k, none⟩ = some (.string ck) ∧ Hid (RS W w' (W.heap.size + 1 + 1) W.heap.size (W.heap.size + 1) (stepV (mzL n1 n2 n3 n4 n5 n6 n7) (ctL t1 t2 t3 t6 t7 t9 t10 t11) k) [.slice a1 n1 k1, .slice a2 n2 k2, .slice a3 n3 k3, .int .i64 y.2.2.2.1, .int .i64 y.2.2.2.2.1, .int .i64 y.2.2.2.2.2.1, .slice a4 n4 k4, .slice a5 n5 k5, .int .i64 y.2.2.2.2.2.2.2.2.1, .slice a6 n6 k6, .slice a7 n7 k7] [.string ⟨#[]⟩, .string ⟨#[]⟩, .string ⟨#[]⟩, .string ⟨#[]⟩, .string ⟨#[]⟩, .string ⟨#[]⟩, .string ⟨#[]⟩, .string ⟨#[]⟩, .string ⟨#[]⟩, .string ⟨#[]⟩, .string ⟨#[]⟩, .string ⟨#[]⟩]))) 8 (by kernel_rfl) (by kernel_rfl) ?_ (fun hHeld => ?_)
   ·exact ⟨R0.out.o.cell (i := k) HCE.out, R0⟩
   repeat ((first | refine tk 0 ?_ rfl ?_ ?_ | refine tk 1 ?_ rfl ?_ ?_ | refine tk 3 ?_ rfl ?_ ?_ | refine tk 4 ?_ rfl ?_ ?_ | refine tk 5 ?_ rfl ?_ ?_ | refine tk 6 ?_ rfl ?_ ?_ | refine tk 7 ?_ rfl ?_ ?_); rotate_left; (intro wy hSw; (try dsimp only at hSw); (go_simp <;> with_reducible rfl)); (try simp only [List.getElem_toArray, List.getElem_cons_zero, List.getElem_cons_succ, Act.put, List.setIfInBounds_toArray, List.set_cons_zero, List.set_cons_succ]))
   refine wpT_one (k := 2) rfl (by kernel_rfl) (fun K hK => ?_)
   go_simp
   refine (HU.out _ R0.out.bel).mono ?_
   rintro r e1 ⟨rfl, hb5⟩
   have R1 := hid (R0.out.below hb5)
   clear hb5
   go_wp2_with fail
   refine hK.out _ _ ?_ (fun hHeld => ?_)
   ·exact ⟨R1.out.o.cell (i := k) HCE.out, R1⟩
   clear hK K
   (try simp only [Act.put, List.setIfInBounds_toArray, List.set_cons_zero, List.set_cons_succ])
   repeat ((first | refine tk 0 ?_ rfl ?_ ?_ | refine tk 1 ?_ rfl ?_ ?_ | refine tk 3 ?_ rfl ?_ ?_ | refine tk 4 ?_ rfl ?_ ?_ | refine tk 5 ?_ rfl ?_ ?_ | refine tk 6 ?_ rfl ?_ ?_ | refine tk 7 ?_ rfl ?_ ?_); rotate_left; (intro wy hSw; (try dsimp only at hSw); (go_simp <;> with_reducible rfl)); (try simp only [List.getElem_toArray, List.getElem_cons_zero, List.getElem_cons_succ, Act.put, List.setIfInBounds_toArray, List.set_cons_zero, List.set_cons_succ]))
   refine wpT_done (by kernel_rfl) ?_
   have co := R1.out.o.cell (i := k) HCE.out
   have fo := R1.out.o.free k
   go_wp2_with fail
   clear co fo
   go_roundw
   case rel => exact ⟨k + 1, by omega, by go_num, hid (by rw [← HNV.out, EU.out]; exact R1.out.put k _)⟩
   case measure => simp [RowKit.intOf]; omega
  ·have hd : decide (0 < mz) = false := decide_eq_false hp
   have HNV := hid (HSK.out (by rw [HAT.out, if_neg hp]))
   clear hcl HAT HST HSK HCE
   go_wp2_with fail
   go_roundw
   case rel => exact ⟨k + 1, by omega, by go_num, hid (by rw [← HNV.out]; exact R.out)⟩
   case measure => simp [RowKit.intOf]; omega
  --END
 obtain rfl : 12 = k := by omega
 clear hk hlt
 have N9 := R.out
 rw [stp_end (listB_of HN1.out HTT1.out) (listB_of HN2.out HTT2.out) (listB_of HN3.out HTT3.out) (listB_of HN4.out HTT6.out) (listB_of HN5.out HTT7.out) (listB_of HN6.out HTT9.out) (listB_of HN3.out HTT10.out) (listB_of HN7.out HTT11.out)] at N9
 have M9 := hid N9
 clear N9 R HML HCL
 have m := M9.out.m.cell (i := 3) rfl
 go_upto_if 244 with fail
 clear m
 go_cut [] from 242 to 254 (fun wy => Hid (RS W wy (W.heap.size + 1 + 1) W.heap.size (W.heap.size + 1) [.string ⟨#[]⟩, .string (listB wSig y.1), .string (listB wImport y.2.1), .string (listB wFunc y.2.2.1), .string (tabB y), .string ⟨#[]⟩, .string (listB wGlobal y.2.2.2.2.2.2.1), .string (listB wExport y.2.2.2.2.2.2.2.1), .string ⟨#[]⟩, .string (listB wElem y.2.2.2.2.2.2.2.2.2.1), .string (listB wCode y.2.2.1), .string (listB wData y.2.2.2.2.2.2.2.2.2.2.1)] [.slice a1 n1 k1, .slice a2 n2 k2, .slice a3 n3 k3, .int .i64 y.2.2.2.1, .int .i64 y.2.2.2.2.1, .int .i64 y.2.2.2.2.2.1, .slice a4 n4 k4, .slice a5 n5 k5, .int .i64 y.2.2.2.2.2.2.2.2.1, .slice a6 n6 k6, .slice a7 n7 k7] [.string ⟨#[]⟩, .string ⟨#[]⟩, .string ⟨#[]⟩, .string ⟨#[]⟩, .string ⟨#[]⟩, .string ⟨#[]⟩, .string ⟨#[]⟩, .string ⟨#[]⟩, .string ⟨#[]⟩, .string ⟨#[]⟩, .string ⟨#[]⟩, .string ⟨#[]⟩]))
 case first =>
  by_cases hpos : 0 < y.2.2.2.1
  ·have hd : decide (0 < y.2.2.2.1) = true := decide_eq_true hpos
   rw [hd]
   have HCZ := hid (show tabB y = _ from if_pos hpos)
   have hub := GW.out.tab
   obtain ⟨U1, hU1⟩ : ∃ U1, numB 1 = U1 := ⟨_, rfl⟩
   have HU1 := hid (fun wx (hx : Below W.heap.size W wx) => u_at 1 (by omega) U1 hU1.symm wx)
   have sU1 : U1.size ≤ 10 := by rw [← hU1]; exact numB_size _
   have EU1 := hid hU1
   clear hU1
   obtain ⟨C1, hC1⟩ : ∃ C1, S [byteOf 112] = C1 := ⟨_, rfl⟩
   have HC1 := hid (fun wx (hx : Below W.heap.size W wx) => chr_at 112 C1 hC1.symm wx)
   have sC1 : C1.size ≤ 1 := by rw [← hC1]; exact Nat.le_of_eq (S_size _)
   have EC1 := hid hC1
   clear hC1
   obtain ⟨C0, hC0⟩ : ∃ C0, S [byteOf 0] = C0 := ⟨_, rfl⟩
   have HC0 := hid (fun wx (hx : Below W.heap.size W wx) => chr_at 0 C0 hC0.symm wx)
   have sC0 : C0.size ≤ 1 := by rw [← hC0]; exact Nat.le_of_eq (S_size _)
   have EC0 := hid hC0
   clear hC0
   obtain ⟨UT, hUT⟩ : ∃ UT, numB y.2.2.2.1 = UT := ⟨_, rfl⟩
   have HT := hid (fun wx (hx : Below W.heap.size W wx) => u_at y.2.2.2.1 (by omega) UT hUT.symm wx)
   have sUT : UT.size ≤ 10 := by rw [← hUT]; exact numB_size _
   have EUT := hid hUT
   clear hUT
   have q0 : ¬ 9223372036854775807 < U1.size + C1.size := by omega
   have q1 : ¬ 9223372036854775807 < U1.size + C1.size + C0.size := by omega
   have q2 : ¬ 9223372036854775807 < U1.size + C1.size + C0.size + UT.size := by omega
   have HV := hid (show tabB y = U1 ++ C1 ++ C0 ++ UT from by rw [HCZ.out, EUT.out, ← EU1.out, ← EC1.out, ← EC0.out]; exact congrArg (fun z => z ++ UT) (by decide +kernel))
   clear sU1 sC1 sC0 sUT hub hpos
   go_wp2_with fail
   have R0 := hid (M9.out.below (Below.refl _ _).drew)
   refine wp_region_tail (S := (fun w' => w'.cell? ⟨W.heap.size, 3, none⟩ = some (.int .i64 y.2.2.2.1) ∧ Hid (RS W w' (W.heap.size + 1 + 1) W.heap.size (W.heap.size + 1) [.string ⟨#[]⟩, .string (listB wSig y.1), .string (listB wImport y.2.1), .string (listB wFunc y.2.2.1), .string ⟨#[]⟩, .string ⟨#[]⟩, .string (listB wGlobal y.2.2.2.2.2.2.1), .string (listB wExport y.2.2.2.2.2.2.2.1), .string ⟨#[]⟩, .string (listB wElem y.2.2.2.2.2.2.2.2.2.1), .string (listB wCode y.2.2.1), .string (listB wData y.2.2.2.2.2.2.2.2.2.2.1)] [.slice a1 n1 k1, .slice a2 n2 k2, .slice a3 n3 k3, .int .i64 y.2.2.2.1, .int .i64 y.2.2.2.2.1, .int .i64 y.2.2.2.2.2.1, .slice a4 n4 k4, .slice a5 n5 k5, .int .i64 y.2.2.2.2.2.2.2.2.1, .slice a6 n6 k6, .slice a7 n7 k7] [.string ⟨#[]⟩, .string ⟨#[]⟩, .string ⟨#[]⟩, .string ⟨#[]⟩, .string ⟨#[]⟩, .string ⟨#[]⟩, .string ⟨#[]⟩, .string ⟨#[]⟩, .string ⟨#[]⟩, .string ⟨#[]⟩, .string ⟨#[]⟩, .string ⟨#[]⟩]))) 10 (by kernel_rfl) (by kernel_rfl) ?_ (fun hHeld => ?_)
   ·exact ⟨R0.out.m.cell (i := 3) rfl, R0⟩
   repeat ((first | refine tk 2 ?_ rfl ?_ ?_ | refine tk 4 ?_ rfl ?_ ?_ | refine tk 5 ?_ rfl ?_ ?_ | refine tk 6 ?_ rfl ?_ ?_ | refine tk 8 ?_ rfl ?_ ?_ | refine tk 9 ?_ rfl ?_ ?_); rotate_left; (intro wy hSw; (try dsimp only at hSw); (go_simp <;> with_reducible rfl)); (try simp only [List.getElem_toArray, List.getElem_cons_zero, List.getElem_cons_succ, Act.put, List.setIfInBounds_toArray, List.set_cons_zero, List.set_cons_succ]))
   refine wpT_one (k := 0) rfl (by kernel_rfl) (fun K hK => ?_)
   go_simp
   refine (HU1.out _ R0.out.bel).mono ?_
   rintro r e1 ⟨rfl, hb5⟩
   have R1 := hid (R0.out.below hb5)
   clear hb5
   go_wp2_with fail
   refine hK.out _ _ ?_ (fun hHeld => ?_)
   ·exact ⟨R1.out.m.cell (i := 3) rfl, R1⟩
   clear hK K
   (try simp only [Act.put, List.setIfInBounds_toArray, List.set_cons_zero, List.set_cons_succ])
   repeat ((first | refine tk 2 ?_ rfl ?_ ?_ | refine tk 4 ?_ rfl ?_ ?_ | refine tk 5 ?_ rfl ?_ ?_ | refine tk 6 ?_ rfl ?_ ?_ | refine tk 8 ?_ rfl ?_ ?_ | refine tk 9 ?_ rfl ?_ ?_); rotate_left; (intro wy hSw; (try dsimp only at hSw); (go_simp <;> with_reducible rfl)); (try simp only [List.getElem_toArray, List.getElem_cons_zero, List.getElem_cons_succ, Act.put, List.setIfInBounds_toArray, List.set_cons_zero, List.set_cons_succ]))
   refine wpT_one (k := 1) rfl (by kernel_rfl) (fun K hK => ?_)
   go_simp
   refine (HC1.out _ R1.out.bel).mono ?_
   rintro r e2 ⟨rfl, hb5⟩
   have R2 := hid (R1.out.below hb5)
   clear hb5
   go_wp2_with fail
   refine hK.out _ _ ?_ (fun hHeld => ?_)
   ·exact ⟨R2.out.m.cell (i := 3) rfl, R2⟩
   clear hK K
   (try simp only [Act.put, List.setIfInBounds_toArray, List.set_cons_zero, List.set_cons_succ])
   repeat ((first | refine tk 2 ?_ rfl ?_ ?_ | refine tk 4 ?_ rfl ?_ ?_ | refine tk 5 ?_ rfl ?_ ?_ | refine tk 6 ?_ rfl ?_ ?_ | refine tk 8 ?_ rfl ?_ ?_ | refine tk 9 ?_ rfl ?_ ?_); rotate_left; (intro wy hSw; (try dsimp only at hSw); (go_simp <;> with_reducible rfl)); (try simp only [List.getElem_toArray, List.getElem_cons_zero, List.getElem_cons_succ, Act.put, List.setIfInBounds_toArray, List.set_cons_zero, List.set_cons_succ]))
   refine wpT_one (k := 3) rfl (by kernel_rfl) (fun K hK => ?_)
   go_simp
   refine (HC0.out _ R2.out.bel).mono ?_
   rintro r e3 ⟨rfl, hb5⟩
   have R3 := hid (R2.out.below hb5)
   clear hb5
   go_wp2_with fail
   refine hK.out _ _ ?_ (fun hHeld => ?_)
   ·exact ⟨R3.out.m.cell (i := 3) rfl, R3⟩
   clear hK K
   (try simp only [Act.put, List.setIfInBounds_toArray, List.set_cons_zero, List.set_cons_succ])
   repeat ((first | refine tk 2 ?_ rfl ?_ ?_ | refine tk 4 ?_ rfl ?_ ?_ | refine tk 5 ?_ rfl ?_ ?_ | refine tk 6 ?_ rfl ?_ ?_ | refine tk 8 ?_ rfl ?_ ?_ | refine tk 9 ?_ rfl ?_ ?_); rotate_left; (intro wy hSw; (try dsimp only at hSw); (go_simp <;> with_reducible rfl)); (try simp only [List.getElem_toArray, List.getElem_cons_zero, List.getElem_cons_succ, Act.put, List.setIfInBounds_toArray, List.set_cons_zero, List.set_cons_succ]))
   refine wpT_one (k := 7) rfl (by kernel_rfl) (fun K hK => ?_)
   go_simp
   refine (HT.out _ R3.out.bel).mono ?_
   rintro r e4 ⟨rfl, hb5⟩
   have R4 := hid (R3.out.below hb5)
   clear hb5
   go_wp2_with fail
   refine hK.out _ _ ?_ (fun hHeld => ?_)
   ·exact ⟨R4.out.m.cell (i := 3) rfl, R4⟩
   clear hK K
   (try simp only [Act.put, List.setIfInBounds_toArray, List.set_cons_zero, List.set_cons_succ])
   repeat ((first | refine tk 2 ?_ rfl ?_ ?_ | refine tk 4 ?_ rfl ?_ ?_ | refine tk 5 ?_ rfl ?_ ?_ | refine tk 6 ?_ rfl ?_ ?_ | refine tk 8 ?_ rfl ?_ ?_ | refine tk 9 ?_ rfl ?_ ?_); rotate_left; (intro wy hSw; (try dsimp only at hSw); (go_simp <;> with_reducible rfl)); (try simp only [List.getElem_toArray, List.getElem_cons_zero, List.getElem_cons_succ, Act.put, List.setIfInBounds_toArray, List.set_cons_zero, List.set_cons_succ]))
   refine wpT_done (by kernel_rfl) ?_
   have co := R4.out.o.cell (i := 4) rfl
   have fo := R4.out.o.free 4
   go_wp2_with fail
   go_meet
   exact hid (by rw [HV.out]; exact R4.out.put 4 _)
  ·have hd : decide (0 < y.2.2.2.1) = false := decide_eq_false hpos
   rw [hd]
   have HCZ := hid (show tabB y = ⟨#[]⟩ from if_neg hpos)
   clear hpos
   go_wp2_with fail
   go_meet
   exact hid (by rw [HCZ.out]; exact M9.out)
 case rest =>
 have MB := hcut
 clear hcut
 have m := MB.out.m.cell (i := 5) rfl
 go_upto_if 257 with fail
 clear m
 go_cut [] from 255 to 269 (fun wy => Hid (RS W wy (W.heap.size + 1 + 1) W.heap.size (W.heap.size + 1) [.string ⟨#[]⟩, .string (listB wSig y.1), .string (listB wImport y.2.1), .string (listB wFunc y.2.2.1), .string (tabB y), .string (memB y), .string (listB wGlobal y.2.2.2.2.2.2.1), .string (listB wExport y.2.2.2.2.2.2.2.1), .string ⟨#[]⟩, .string (listB wElem y.2.2.2.2.2.2.2.2.2.1), .string (listB wCode y.2.2.1), .string (listB wData y.2.2.2.2.2.2.2.2.2.2.1)] [.slice a1 n1 k1, .slice a2 n2 k2, .slice a3 n3 k3, .int .i64 y.2.2.2.1, .int .i64 y.2.2.2.2.1, .int .i64 y.2.2.2.2.2.1, .slice a4 n4 k4, .slice a5 n5 k5, .int .i64 y.2.2.2.2.2.2.2.2.1, .slice a6 n6 k6, .slice a7 n7 k7] [.string ⟨#[]⟩, .string ⟨#[]⟩, .string ⟨#[]⟩, .string ⟨#[]⟩, .string ⟨#[]⟩, .string ⟨#[]⟩, .string ⟨#[]⟩, .string ⟨#[]⟩, .string ⟨#[]⟩, .string ⟨#[]⟩, .string ⟨#[]⟩, .string ⟨#[]⟩]))
 case first =>
  by_cases hpos : 0 < y.2.2.2.2.2.1
  ·have hd : decide (0 < y.2.2.2.2.2.1) = true := decide_eq_true hpos
   rw [hd]
   have HCZ := hid (show memB y = _ from if_pos hpos)
   obtain ⟨p1, p2, p3⟩ := GW.out.pag
   obtain ⟨U1, hU1⟩ : ∃ U1, numB 1 = U1 := ⟨_, rfl⟩
   have HU1 := hid (fun wx (hx : Below W.heap.size W wx) => u_at 1 (by omega) U1 hU1.symm wx)
   have sU1 : U1.size ≤ 10 := by rw [← hU1]; exact numB_size _
   have EU1 := hid hU1
   clear hU1
   obtain ⟨C1, hC1⟩ : ∃ C1, S [byteOf 1] = C1 := ⟨_, rfl⟩
   have HC1 := hid (fun wx (hx : Below W.heap.size W wx) => chr_at 1 C1 hC1.symm wx)
   have sC1 : C1.size ≤ 1 := by rw [← hC1]; exact Nat.le_of_eq (S_size _)
   have EC1 := hid hC1
   clear hC1
   obtain ⟨UP, hUP⟩ : ∃ UP, numB y.2.2.2.2.1 = UP := ⟨_, rfl⟩
   have HP := hid (fun wx (hx : Below W.heap.size W wx) => u_at y.2.2.2.2.1 (by omega) UP hUP.symm wx)
   have sUP : UP.size ≤ 10 := by rw [← hUP]; exact numB_size _
   have EUP := hid hUP
   clear hUP
   obtain ⟨UQ, hUQ⟩ : ∃ UQ, numB y.2.2.2.2.2.1 = UQ := ⟨_, rfl⟩
   have HQ := hid (fun wx (hx : Below W.heap.size W wx) => u_at y.2.2.2.2.2.1 (by omega) UQ hUQ.symm wx)
   have sUQ : UQ.size ≤ 10 := by rw [← hUQ]; exact numB_size _
   have EUQ := hid hUQ
   clear hUQ
   have q0 : ¬ 9223372036854775807 < U1.size + C1.size := by omega
   have q1 : ¬ 9223372036854775807 < U1.size + C1.size + UP.size := by omega
   have q2 : ¬ 9223372036854775807 < U1.size + C1.size + UP.size + UQ.size := by omega
   have HV := hid (show memB y = U1 ++ C1 ++ UP ++ UQ from by rw [HCZ.out, EUP.out, EUQ.out, ← EU1.out, ← EC1.out]; exact congrArg (fun z => z ++ UP ++ UQ) (by decide +kernel))
   clear sU1 sC1 sUP sUQ p1 p2 p3 hpos
   go_wp2_with fail
   have R0 := hid (MB.out.below (Below.refl _ _).drew)
   refine wp_region_tail (S := (fun w' => w'.cell? ⟨W.heap.size, 4, none⟩ = some (.int .i64 y.2.2.2.2.1) ∧ w'.cell? ⟨W.heap.size, 5, none⟩ = some (.int .i64 y.2.2.2.2.2.1) ∧ Hid (RS W w' (W.heap.size + 1 + 1) W.heap.size (W.heap.size + 1) [.string ⟨#[]⟩, .string (listB wSig y.1), .string (listB wImport y.2.1), .string (listB wFunc y.2.2.1), .string (tabB y), .string ⟨#[]⟩, .string (listB wGlobal y.2.2.2.2.2.2.1), .string (listB wExport y.2.2.2.2.2.2.2.1), .string ⟨#[]⟩, .string (listB wElem y.2.2.2.2.2.2.2.2.2.1), .string (listB wCode y.2.2.1), .string (listB wData y.2.2.2.2.2.2.2.2.2.2.1)] [.slice a1 n1 k1, .slice a2 n2 k2, .slice a3 n3 k3, .int .i64 y.2.2.2.1, .int .i64 y.2.2.2.2.1, .int .i64 y.2.2.2.2.2.1, .slice a4 n4 k4, .slice a5 n5 k5, .int .i64 y.2.2.2.2.2.2.2.2.1, .slice a6 n6 k6, .slice a7 n7 k7] [.string ⟨#[]⟩, .string ⟨#[]⟩, .string ⟨#[]⟩, .string ⟨#[]⟩, .string ⟨#[]⟩, .string ⟨#[]⟩, .string ⟨#[]⟩, .string ⟨#[]⟩, .string ⟨#[]⟩, .string ⟨#[]⟩, .string ⟨#[]⟩, .string ⟨#[]⟩]))) 12 (by kernel_rfl) (by kernel_rfl) ?_ (fun hHeld => ?_)
   ·exact ⟨R0.out.m.cell (i := 4) rfl, R0.out.m.cell (i := 5) rfl, R0⟩
   repeat ((first | refine tk 2 ?_ rfl ?_ ?_ | refine tk 3 ?_ rfl ?_ ?_ | refine tk 4 ?_ rfl ?_ ?_ | refine tk 6 ?_ rfl ?_ ?_ | refine tk 7 ?_ rfl ?_ ?_ | refine tk 8 ?_ rfl ?_ ?_ | refine tk 10 ?_ rfl ?_ ?_ | refine tk 11 ?_ rfl ?_ ?_); rotate_left; (intro wy hSw; (try dsimp only at hSw); (go_simp <;> with_reducible rfl)); (try simp only [List.getElem_toArray, List.getElem_cons_zero, List.getElem_cons_succ, Act.put, List.setIfInBounds_toArray, List.set_cons_zero, List.set_cons_succ]))
   refine wpT_one (k := 0) rfl (by kernel_rfl) (fun K hK => ?_)
   go_simp
   refine (HU1.out _ R0.out.bel).mono ?_
   rintro r e1 ⟨rfl, hb5⟩
   have R1 := hid (R0.out.below hb5)
   clear hb5
   go_wp2_with fail
   refine hK.out _ _ ?_ (fun hHeld => ?_)
   ·exact ⟨R1.out.m.cell (i := 4) rfl, R1.out.m.cell (i := 5) rfl, R1⟩
   clear hK K
   (try simp only [Act.put, List.setIfInBounds_toArray, List.set_cons_zero, List.set_cons_succ])
   repeat ((first | refine tk 2 ?_ rfl ?_ ?_ | refine tk 3 ?_ rfl ?_ ?_ | refine tk 4 ?_ rfl ?_ ?_ | refine tk 6 ?_ rfl ?_ ?_ | refine tk 7 ?_ rfl ?_ ?_ | refine tk 8 ?_ rfl ?_ ?_ | refine tk 10 ?_ rfl ?_ ?_ | refine tk 11 ?_ rfl ?_ ?_); rotate_left; (intro wy hSw; (try dsimp only at hSw); (go_simp <;> with_reducible rfl)); (try simp only [List.getElem_toArray, List.getElem_cons_zero, List.getElem_cons_succ, Act.put, List.setIfInBounds_toArray, List.set_cons_zero, List.set_cons_succ]))
   refine wpT_one (k := 1) rfl (by kernel_rfl) (fun K hK => ?_)
   go_simp
   refine (HC1.out _ R1.out.bel).mono ?_
   rintro r e2 ⟨rfl, hb5⟩
   have R2 := hid (R1.out.below hb5)
   clear hb5
   go_wp2_with fail
   refine hK.out _ _ ?_ (fun hHeld => ?_)
   ·exact ⟨R2.out.m.cell (i := 4) rfl, R2.out.m.cell (i := 5) rfl, R2⟩
   clear hK K
   (try simp only [Act.put, List.setIfInBounds_toArray, List.set_cons_zero, List.set_cons_succ])
   repeat ((first | refine tk 2 ?_ rfl ?_ ?_ | refine tk 3 ?_ rfl ?_ ?_ | refine tk 4 ?_ rfl ?_ ?_ | refine tk 6 ?_ rfl ?_ ?_ | refine tk 7 ?_ rfl ?_ ?_ | refine tk 8 ?_ rfl ?_ ?_ | refine tk 10 ?_ rfl ?_ ?_ | refine tk 11 ?_ rfl ?_ ?_); rotate_left; (intro wy hSw; (try dsimp only at hSw); (go_simp <;> with_reducible rfl)); (try simp only [List.getElem_toArray, List.getElem_cons_zero, List.getElem_cons_succ, Act.put, List.setIfInBounds_toArray, List.set_cons_zero, List.set_cons_succ]))
   refine wpT_one (k := 5) rfl (by kernel_rfl) (fun K hK => ?_)
   go_simp
   refine (HP.out _ R2.out.bel).mono ?_
   rintro r e3 ⟨rfl, hb5⟩
   have R3 := hid (R2.out.below hb5)
   clear hb5
   go_wp2_with fail
   refine hK.out _ _ ?_ (fun hHeld => ?_)
   ·exact ⟨R3.out.m.cell (i := 4) rfl, R3.out.m.cell (i := 5) rfl, R3⟩
   clear hK K
   (try simp only [Act.put, List.setIfInBounds_toArray, List.set_cons_zero, List.set_cons_succ])
   repeat ((first | refine tk 2 ?_ rfl ?_ ?_ | refine tk 3 ?_ rfl ?_ ?_ | refine tk 4 ?_ rfl ?_ ?_ | refine tk 6 ?_ rfl ?_ ?_ | refine tk 7 ?_ rfl ?_ ?_ | refine tk 8 ?_ rfl ?_ ?_ | refine tk 10 ?_ rfl ?_ ?_ | refine tk 11 ?_ rfl ?_ ?_); rotate_left; (intro wy hSw; (try dsimp only at hSw); (go_simp <;> with_reducible rfl)); (try simp only [List.getElem_toArray, List.getElem_cons_zero, List.getElem_cons_succ, Act.put, List.setIfInBounds_toArray, List.set_cons_zero, List.set_cons_succ]))
   refine wpT_one (k := 9) rfl (by kernel_rfl) (fun K hK => ?_)
   go_simp
   refine (HQ.out _ R3.out.bel).mono ?_
   rintro r e4 ⟨rfl, hb5⟩
   have R4 := hid (R3.out.below hb5)
   clear hb5
   go_wp2_with fail
   refine hK.out _ _ ?_ (fun hHeld => ?_)
   ·exact ⟨R4.out.m.cell (i := 4) rfl, R4.out.m.cell (i := 5) rfl, R4⟩
   clear hK K
   (try simp only [Act.put, List.setIfInBounds_toArray, List.set_cons_zero, List.set_cons_succ])
   repeat ((first | refine tk 2 ?_ rfl ?_ ?_ | refine tk 3 ?_ rfl ?_ ?_ | refine tk 4 ?_ rfl ?_ ?_ | refine tk 6 ?_ rfl ?_ ?_ | refine tk 7 ?_ rfl ?_ ?_ | refine tk 8 ?_ rfl ?_ ?_ | refine tk 10 ?_ rfl ?_ ?_ | refine tk 11 ?_ rfl ?_ ?_); rotate_left; (intro wy hSw; (try dsimp only at hSw); (go_simp <;> with_reducible rfl)); (try simp only [List.getElem_toArray, List.getElem_cons_zero, List.getElem_cons_succ, Act.put, List.setIfInBounds_toArray, List.set_cons_zero, List.set_cons_succ]))
   refine wpT_done (by kernel_rfl) ?_
   have co := R4.out.o.cell (i := 5) rfl
   have fo := R4.out.o.free 5
   go_wp2_with fail
   go_meet
   exact hid (by rw [HV.out]; exact R4.out.put 5 _)
  ·have hd : decide (0 < y.2.2.2.2.2.1) = false := decide_eq_false hpos
   rw [hd]
   have HCZ := hid (show memB y = ⟨#[]⟩ from if_neg hpos)
   clear hpos
   go_wp2_with fail
   go_meet
   exact hid (by rw [HCZ.out]; exact MB.out)
 case rest =>
 have MC := hcut
 clear hcut
 have m := MC.out.m.cell (i := 8) rfl
 go_upto_if 272 with fail
 clear m
 go_cut [] from 270 to 277 (fun wy => Hid (RS W wy (W.heap.size + 1 + 1) W.heap.size (W.heap.size + 1) [.string ⟨#[]⟩, .string (listB wSig y.1), .string (listB wImport y.2.1), .string (listB wFunc y.2.2.1), .string (tabB y), .string (memB y), .string (listB wGlobal y.2.2.2.2.2.2.1), .string (listB wExport y.2.2.2.2.2.2.2.1), .string (begB y), .string (listB wElem y.2.2.2.2.2.2.2.2.2.1), .string (listB wCode y.2.2.1), .string (listB wData y.2.2.2.2.2.2.2.2.2.2.1)] [.slice a1 n1 k1, .slice a2 n2 k2, .slice a3 n3 k3, .int .i64 y.2.2.2.1, .int .i64 y.2.2.2.2.1, .int .i64 y.2.2.2.2.2.1, .slice a4 n4 k4, .slice a5 n5 k5, .int .i64 y.2.2.2.2.2.2.2.2.1, .slice a6 n6 k6, .slice a7 n7 k7] [.string ⟨#[]⟩, .string ⟨#[]⟩, .string ⟨#[]⟩, .string ⟨#[]⟩, .string ⟨#[]⟩, .string ⟨#[]⟩, .string ⟨#[]⟩, .string ⟨#[]⟩, .string ⟨#[]⟩, .string ⟨#[]⟩, .string ⟨#[]⟩, .string ⟨#[]⟩]))
 case first =>
  by_cases hpos : 0 < y.2.2.2.2.2.2.2.2.1
  ·have hd : decide (0 < y.2.2.2.2.2.2.2.2.1) = true := decide_eq_true hpos
   rw [hd]
   have HCZ := hid (show begB y = _ from if_pos hpos)
   have hub := GW.out.start.2
   have hwr : IntKind.i64.wrap (y.2.2.2.2.2.2.2.2.1 - 1) = y.2.2.2.2.2.2.2.2.1 - 1 := IntWalk.i64_in _ (by omega)
   obtain ⟨UT, hUT⟩ : ∃ UT, numB (y.2.2.2.2.2.2.2.2.1 - 1) = UT := ⟨_, rfl⟩
   have HT := hid (fun wx (hx : Below W.heap.size W wx) => u_at (y.2.2.2.2.2.2.2.2.1 - 1) (by omega) UT hUT.symm wx)
   have sUT : UT.size ≤ 10 := by rw [← hUT]; exact numB_size _
   have EUT := hid hUT
   clear hUT
   have HV := hid (show begB y = UT from by rw [HCZ.out, EUT.out])
   have hp1 : 1 ≤ y.2.2.2.2.2.2.2.2.1 := by omega
   have m := MC.out.m.cell (i := 8) rfl
   clear sUT hpos
   go_wp2_with fail
   clear m
   refine (HT.out _ MC.out.bel).mono ?_
   rintro r e1 ⟨rfl, hb5⟩
   have R1 := hid (MC.out.below hb5)
   clear hb5
   have co := R1.out.o.cell (i := 8) rfl
   have fo := R1.out.o.free 8
   go_wp2_with fail
   go_meet
   exact hid (by rw [HV.out]; exact R1.out.put 8 _)
  ·have hd : decide (0 < y.2.2.2.2.2.2.2.2.1) = false := decide_eq_false hpos
   rw [hd]
   have HCZ := hid (show begB y = ⟨#[]⟩ from if_neg hpos)
   clear hpos
   go_wp2_with fail
   go_meet
   exact hid (by rw [HCZ.out]; exact MC.out)
 case rest =>
 have MD := hcut
 clear hcut
 have c0 := MD.out.o.cell (i := 0) rfl
 have c1 := MD.out.o.cell (i := 1) rfl
 have c2 := MD.out.o.cell (i := 2) rfl
 have c3 := MD.out.o.cell (i := 3) rfl
 have c4 := MD.out.o.cell (i := 4) rfl
 have c5 := MD.out.o.cell (i := 5) rfl
 have c6 := MD.out.o.cell (i := 6) rfl
 have c7 := MD.out.o.cell (i := 7) rfl
 have c8 := MD.out.o.cell (i := 8) rfl
 have c9 := MD.out.o.cell (i := 9) rfl
 have c10 := MD.out.o.cell (i := 10) rfl
 have c11 := MD.out.o.cell (i := 11) rfl
 have d0 := MD.out.r.cell (i := 0) rfl
 have f0 := MD.out.r.free 0
 have d1 := MD.out.r.cell (i := 1) rfl
 have f1 := MD.out.r.free 1
 have d2 := MD.out.r.cell (i := 2) rfl
 have f2 := MD.out.r.free 2
 have d3 := MD.out.r.cell (i := 3) rfl
 have f3 := MD.out.r.free 3
 have d4 := MD.out.r.cell (i := 4) rfl
 have f4 := MD.out.r.free 4
 have d5 := MD.out.r.cell (i := 5) rfl
 have f5 := MD.out.r.free 5
 have d6 := MD.out.r.cell (i := 6) rfl
 have f6 := MD.out.r.free 6
 have d7 := MD.out.r.cell (i := 7) rfl
 have f7 := MD.out.r.free 7
 have d8 := MD.out.r.cell (i := 8) rfl
 have f8 := MD.out.r.free 8
 have d9 := MD.out.r.cell (i := 9) rfl
 have f9 := MD.out.r.free 9
 have d10 := MD.out.r.cell (i := 10) rfl
 have f10 := MD.out.r.free 10
 have d11 := MD.out.r.cell (i := 11) rfl
 have f11 := MD.out.r.free 11
 go_wp2_with fail
 have z := res12 MD.out.r rfl (.string ⟨#[]⟩) (.string (listB wSig y.1)) (.string (listB wImport y.2.1)) (.string (listB wFunc y.2.2.1)) (.string (tabB y)) (.string (memB y)) (.string (listB wGlobal y.2.2.2.2.2.2.1)) (.string (listB wExport y.2.2.2.2.2.2.2.1)) (.string (begB y)) (.string (listB wElem y.2.2.2.2.2.2.2.2.2.1)) (.string (listB wCode y.2.2.1)) (.string (listB wData y.2.2.2.2.2.2.2.2.2.2.1))
 have z0 := z.cell (i := 0) rfl
 have z1 := z.cell (i := 1) rfl
 have z2 := z.cell (i := 2) rfl
 have z3 := z.cell (i := 3) rfl
 have z4 := z.cell (i := 4) rfl
 have z5 := z.cell (i := 5) rfl
 have z6 := z.cell (i := 6) rfl
 have z7 := z.cell (i := 7) rfl
 have z8 := z.cell (i := 8) rfl
 have z9 := z.cell (i := 9) rfl
 have z10 := z.cell (i := 10) rfl
 have z11 := z.cell (i := 11) rfl
 refine bodyPost_ret (v := .agg (secVals y)) (by simp [results, Tryz.results33, go_sem, secVals, z0, z1, z2, z3, z4, z5, z6, z7, z8, z9, z10, z11]) rfl ?_
 exact ⟨by rw [HFI.out], below12 MD.out.bel (by omega) _ _ _ _ _ _ _ _ _ _ _ _⟩
end Go.Proofs.YthoalneknadheaaGreatDoor
