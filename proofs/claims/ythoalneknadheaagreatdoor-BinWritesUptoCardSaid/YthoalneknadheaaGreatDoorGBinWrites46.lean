/-
  MODULES AS BYTES, the reference's writer: codeBytes. Conditions: 16 locals at most, of bytes; the body's bytes as NestWrite gives them.
-/
import Derived.Test.YthoalneknadheaaGreatDoorGBinWrites2
import Derived.Test.YthoalneknadheaaGreatDoorGBinWrites30
import Derived.Test.YthoalneknadheaaGreatDoorGBinWrites39
namespace Go.Proofs.YthoalneknadheaaGreatDoor
open Go.RowKit Go.Lib

set_option maxRecDepth 100000 in
set_option maxHeartbeats 4000000 in
theorem rcode_any (W w : World) (t : Int) (la : Option Addr) (lc : Nat) (L : List Int) (ba : Option Addr) (bn bc : Nat) (B : ByteArray) (ec : Int) (hb : Below W.heap.size W w) (hl : Ints W .u8 (.slice la L.length lc) L) (hlen : L.length ≤ 16) (hy : ∀ z ∈ L, 0 ≤ z ∧ z ≤ 255) (hB : B.size ≤ 1000000000)
  (hNW : ∀ wx, Below W.heap.size W wx → Calls Tryz.prog 130 #[.slice ba bn bc] wx fun e w' => e = .returned (.tuple #[.string B, .int .i64 ec]) ∧ Below wx.heap.size wx w') :
  Calls Tryz.prog 98 #[.agg #[.int .i64 t, .slice la L.length lc, .slice ba bn bc]] w fun e w' => e = .returned (.string (codeB L B)) ∧ Below w.heap.size w w' := by
 have HNW := hid hNW
 have HL := hid hl
 have HB := hid hb
 have HY := hid hy
 have HBS := hid hB
 obtain ⟨N, hN⟩ : ∃ N, L.length = N := ⟨_, rfl⟩
 have HLN := hid hN
 have HRS := hid (fun (c i : Nat) (h : i < N) (hc : c ≤ i) => runs_stepN L N c i hN h hc)
 have HRE := hid (fun f => (by rw [← hN]; exact runs_end L f : runsB f (L.drop N) = []))
 obtain ⟨R, hR⟩ : ∃ R, runsB N L = R := ⟨_, rfl⟩
 have HR := hid hR
 have HFI := hid (show codeB L B = numB (numB R.length ++ catB wRun R ++ B).size ++ (numB R.length ++ catB wRun R ++ B) from by unfold codeB codeAll; rw [hN, hR])
 have HRL := hid (show R.length ≤ 16 from by rw [← hR]; have := runsB_len N L; omega)
 have HRZ := hid (show (catB wRun R).size ≤ 200 from by rw [← hR]; have := runs_size N L; omega)
 rw [hN] at HL hlen
 rw [hN]
 have hN16 : (N : Int) ≤ 16 := by omega
 have BM := hid (show Blk (w.alloc (.cells #[.int .i64 t, .slice la N lc, .slice ba bn bc] 59)) w.heap.size 59 [.int .i64 t, .slice la N lc, .slice ba bn bc] from Blk.new w #[.int .i64 t, .slice la N lc, .slice ba bn bc] 59 _ rfl)
 have BB := hid ((Below.refl w.heap.size w).alloc (Nat.le_refl _) (.cells #[.int .i64 t, .slice la N lc, .slice ba bn bc] 59))
 clear hNW hl hb hy hB hN hR hlen
 go_enter Tryz.func98, Tryz.ntmps98
 go_wp2_with fail
 go_loopw [3, 4, 5, 6] (fun g c f _ wr => ∃ (k i : Nat) (b : ByteArray), k ≤ i ∧ i ≤ N ∧ g = .int .i64 k ∧ c = .string b ∧ f = .int .i64 i ∧ Hid (b ++ catB wRun (runsB (N - k) (L.drop i)) = catB wRun R) ∧ Hid (k + (runsB (N - k) (L.drop i)).length = R.length) ∧ Hid (Blk wr w.heap.size 59 [.int .i64 t, .slice la N lc, .slice ba bn bc]) ∧ Hid (Below w.heap.size w wr)) (fun _ _ f _ _ => N - (RowKit.intOf f).toNat)
 case atStart => exact ⟨0, 0, ⟨#[]⟩, Nat.le_refl _, Nat.zero_le _, rfl, rfl, rfl, hid (by rw [nil_ba]; show catB wRun (runsB N L) = _; rw [HR.out]), hid (by show 0 + (runsB N L).length = _; rw [HR.out, Nat.zero_add]), BM, BB⟩
 case round =>
  obtain ⟨k, i, b, hk, hi, rfl, rfl, rfl, HB1, HK1, BK, BW⟩ := hrel
  have c1 := BK.out.cell (i := 1) rfl
  by_cases hlt : i < N
  ·obtain ⟨m, x, hxm, hr1, hr2, hr3, hr4⟩ := HRS.out k i hlt hk
   have HR1 := hid hr1
   have HR3 := hid hr3
   have HR4 := hid hr4
   have hx8 := HY.out x hxm
   clear hr1 hr3 hr4 hxm
   rcases HL.out.open with ⟨_, _, _, e, _⟩ | ⟨lb, lo, cap', hv, _, _, _, _⟩
   ·have := HLN.out; rw [e] at this; simp at this; omega
   simp only [Value.slice.injEq] at hv
   obtain ⟨rfl, -, rfl⟩ := hv
   have HCC := hid (show ∀ wx, Below W.heap.size W wx → ∀ j y, L[j]? = some y → wx.cell? ⟨lb, lo + j, none⟩ = some (.int .u8 y) from by
    intro wx hx j y hj
    obtain ⟨hjl, rfl⟩ := List.getElem?_eq_some_iff.1 hj
    have hI := L1.below HL.out hx
    rcases hI.open with ⟨_, _, _, e, _⟩ | ⟨lb2, lo2, cap2, hv2, _, _, _, hc2⟩
    ·rw [e] at hjl; simp at hjl
    simp only [Value.slice.injEq] at hv2
    obtain ⟨hv3, -, -⟩ := hv2
    cases hv3
    exact hc2 j hjl)
   go_wp2_with fail
   clear c1
   go_loopw [6] (fun tp wq => ∃ j : Nat, 1 ≤ j ∧ j ≤ m + 1 ∧ tp = .int .i64 (j : Int) ∧ Hid (Blk wq w.heap.size 59 [.int .i64 t, .slice (some ⟨lb, lo, none⟩) N lc, .slice ba bn bc]) ∧ Hid (Below w.heap.size w wq)) (fun tp _ => N - (RowKit.intOf tp).toNat)
   case atStart => exact ⟨1, by omega, by omega, rfl, BK, BW⟩
   case round =>
    obtain ⟨j, hj0, hj, rfl, BQ, BX⟩ := hrel
    have BQN := hid (fun q => BQ.out.below (bel_drewN (Below.refl _ _) q))
    have BXN := hid (fun q => bel_drewN BX.out q)
    have HWD := hid (HB.out.trans (BX.out.mono HB.out.size))
    have c1 := BQ.out.cell (i := 1) rfl
    have yi := HCC.out _ HWD.out (i + 0) x (HR3.out 0 (by omega))
    rw [Nat.add_zero] at yi
    obtain ⟨p, hp⟩ : ∃ p, i + j = p := ⟨_, rfl⟩
    have HP := hid hp
    have hsum : (i : Int) + (j : Int) = (p : Int) := by omega
    have hwr : IntKind.i64.wrap ((i : Int) + (j : Int)) = (p : Int) := by rw [hsum]; exact IntWalk.i64_in _ (by omega)
    by_cases hjm : j ≤ m
    ·have yp := HCC.out _ HWD.out (i + j) x (HR3.out j hjm)
     rw [hp] at yp
     have hpN : (p : Int) < (N : Int) := by omega
     have hiN : (i : Int) < (N : Int) := by omega
     have hlt1 : decide ((p : Int) < (N : Int)) = true := decide_eq_true hpN
     have hxx : (x == x) = true := by simp
     have hp9 : (p : Int) ≤ 16 := by omega
     have hj9 : (j : Int) ≤ 16 := by omega
     have hjN : j < N := by omega
     have HJM := hid hjm
     clear hp hr2 hk hi hj hjm hj0
     go_wp2_with fail
     go_quiet (fail)
     clear hwr hsum
     go_wp2_with fail
     go_roundw
     case rel => exact ⟨j + 1, by omega, by have := HJM.out; omega, by go_num, hid (BQN.out _), hid (BXN.out _)⟩
     case measure => simp [RowKit.intOf]; omega
    ·obtain rfl : j = m + 1 := by omega
     have hR2 := HB1.out
     rw [HR1.out] at hR2
     have HB2 := hid (show b ++ wRun (m + 1, x) ++ catB wRun (runsB (N - (k + 1)) (L.drop p)) = catB wRun R from by rw [← hp, ba_assoc]; exact hR2)
     have hK2 := HK1.out
     rw [HR1.out] at hK2
     have HK2 := hid (show k + 1 + (runsB (N - (k + 1)) (L.drop p)).length = R.length from by rw [← hp]; simp only [List.length_cons] at hK2; omega)
     have hbz : b.size ≤ 200 := by
      have h1 := HRZ.out
      rw [← hR2, ba_size] at h1
      omega
     have hkk : (k : Int) ≤ 16 := by have := HRL.out; omega
     have HNM := hid (fun wx => ru_any (m + 1) (by omega) wx)
     obtain ⟨M, hM⟩ : ∃ M : Int, ((m + 1 : Nat) : Int) = M := ⟨_, rfl⟩
     rw [hM] at HNM hsum hwr
     rw [hM]
     have HM := hid hM
     have HCH := hid (fun wx => (chr_any x wx).mono (fun e w' (h : e = .returned (.string (S [byteOf x])) ∧ Below wx.heap.size wx w') => (show e = .returned (.string (oneB x)) ∧ Below wx.heap.size wx w' from h)))
     have hM16 : M ≤ 16 := by omega
     have hM0 : 0 ≤ M := by omega
     clear hR2 hK2 hM
     have hpN' : p ≤ N := by omega
     have hki : k + 1 ≤ p := by omega
     have hiN : (i : Int) < (N : Int) := by omega
     have hnn := numB_size M
     have hcat1 : ¬ 9223372036854775807 < (numB M).size + (oneB x).size := by rw [oneB_size]; omega
     have hcat2 : ¬ 9223372036854775807 < b.size + ((numB M).size + (oneB x).size) := by rw [oneB_size]; omega
     have hip : i < p := by omega
     have hwx : IntKind.i64.wrap x = x := IntWalk.i64_in _ (by omega)
     by_cases hend : p < N
     ·obtain ⟨y, hy⟩ : ∃ y, L[p]? = some y := ⟨_, List.getElem?_eq_getElem (by rw [HLN.out]; exact hend)⟩
      have yp := HCC.out _ HWD.out p y hy
      have hne : (y == x) = false := by
       rw [beq_eq_false_iff_ne]
       intro e
       exact HR4.out (by rw [hp, hy, e])
      have hpN : (p : Int) < (N : Int) := by omega
      have hlt1 : decide ((p : Int) < (N : Int)) = true := decide_eq_true hpN
      clear hp hr2 hk hi hj hjm hy hend hj0
      go_wp2_with fail
      go_quiet (fail)
      clear hwr
      go_wp2_with fail
      have BD := hid ((BQN.out nq).below (Below.refl _ _).drew)
      have XD := hid (BXN.out nq).drew
      generalize wr.drewN nq = wz at *
      refine wp_region_tail (S := (fun w' => w'.cell? ⟨w.heap.size, 1, none⟩ = some (.slice (some ⟨lb, lo, none⟩) N lc) ∧ w'.cell? ⟨lb, lo + i, none⟩ = some (.int .u8 x) ∧ Hid (Blk w' w.heap.size 59 [.int .i64 t, .slice (some ⟨lb, lo, none⟩) N lc, .slice ba bn bc]) ∧ Hid (Below w.heap.size w w'))) 12 (by kernel_rfl) (by kernel_rfl) ?_ (fun hHeld => ?_)
      ·exact ⟨BD.out.cell (i := 1) rfl, HCC.out _ (HB.out.trans (XD.out.mono HB.out.size)) i x (HR3.out 0 (Nat.zero_le _)), BD, XD⟩
      repeat ((first | refine tk 0 ?_ rfl ?_ ?_ | refine tk 1 ?_ rfl ?_ ?_ | refine tk 3 ?_ rfl ?_ ?_ | refine tk 4 ?_ rfl ?_ ?_ | refine tk 5 ?_ rfl ?_ ?_ | refine tk 6 ?_ rfl ?_ ?_ | refine tk 7 ?_ rfl ?_ ?_ | refine tk 8 ?_ rfl ?_ ?_ | refine tk 10 ?_ rfl ?_ ?_ | refine tk 11 ?_ rfl ?_ ?_); rotate_left; (intro wy hSw; (try dsimp only at hSw); (go_simp <;> with_reducible rfl)); (try simp only [List.getElem_toArray, List.getElem_cons_zero, List.getElem_cons_succ, Act.put, List.setIfInBounds_toArray, List.set_cons_zero, List.set_cons_succ]))
      refine wpT_one (k := 2) rfl (by kernel_rfl) (fun K hK => ?_)
      go_simp
      refine (HNM.out _).mono ?_
      rintro r w5 ⟨rfl, hb5⟩
      have BE := hid (BD.out.below hb5)
      have XE := hid (XD.out.trans (hb5.mono XD.out.size))
      clear hb5
      go_wp2_with fail
      refine hK.out _ _ ?_ (fun hHeld => ?_)
      ·exact ⟨BE.out.cell (i := 1) rfl, HCC.out _ (HB.out.trans (XE.out.mono HB.out.size)) i x (HR3.out 0 (Nat.zero_le _)), BE, XE⟩
      clear hK K
      (try simp only [Act.put, List.setIfInBounds_toArray, List.set_cons_zero, List.set_cons_succ])
      repeat ((first | refine tk 0 ?_ rfl ?_ ?_ | refine tk 1 ?_ rfl ?_ ?_ | refine tk 3 ?_ rfl ?_ ?_ | refine tk 4 ?_ rfl ?_ ?_ | refine tk 5 ?_ rfl ?_ ?_ | refine tk 6 ?_ rfl ?_ ?_ | refine tk 7 ?_ rfl ?_ ?_ | refine tk 8 ?_ rfl ?_ ?_ | refine tk 10 ?_ rfl ?_ ?_ | refine tk 11 ?_ rfl ?_ ?_); rotate_left; (intro wy hSw; (try dsimp only at hSw); (go_simp <;> with_reducible rfl)); (try simp only [List.getElem_toArray, List.getElem_cons_zero, List.getElem_cons_succ, Act.put, List.setIfInBounds_toArray, List.set_cons_zero, List.set_cons_succ]))
      refine wpT_one (k := 9) rfl (by kernel_rfl) (fun K hK => ?_)
      go_simp
      refine (HCH.out _).mono ?_
      rintro r w6 ⟨rfl, hb6⟩
      have BF := hid (BE.out.below hb6)
      have XF := hid (XE.out.trans (hb6.mono XE.out.size))
      clear hb6
      go_wp2_with fail
      refine hK.out _ _ ?_ (fun hHeld => ?_)
      ·exact ⟨BF.out.cell (i := 1) rfl, HCC.out _ (HB.out.trans (XF.out.mono HB.out.size)) i x (HR3.out 0 (Nat.zero_le _)), BF, XF⟩
      clear hK K
      (try simp only [Act.put, List.setIfInBounds_toArray, List.set_cons_zero, List.set_cons_succ])
      repeat ((first | refine tk 0 ?_ rfl ?_ ?_ | refine tk 1 ?_ rfl ?_ ?_ | refine tk 3 ?_ rfl ?_ ?_ | refine tk 4 ?_ rfl ?_ ?_ | refine tk 5 ?_ rfl ?_ ?_ | refine tk 6 ?_ rfl ?_ ?_ | refine tk 7 ?_ rfl ?_ ?_ | refine tk 8 ?_ rfl ?_ ?_ | refine tk 10 ?_ rfl ?_ ?_ | refine tk 11 ?_ rfl ?_ ?_); rotate_left; (intro wy hSw; (try dsimp only at hSw); (go_simp <;> with_reducible rfl)); (try simp only [List.getElem_toArray, List.getElem_cons_zero, List.getElem_cons_succ, Act.put, List.setIfInBounds_toArray, List.set_cons_zero, List.set_cons_succ]))
      refine wpT_done (by kernel_rfl) ?_
      go_wp2_with fail
      go_roundw
      case rel => exact ⟨k + 1, p, _, hki, hpN', by go_num, rfl, rfl, hid (by rw [show b ++ (numB M ++ oneB x) = b ++ wRun (m + 1, x) from by unfold wRun; rw [HM.out]]; exact HB2.out), HK2, BF, XF⟩
      case measure => have := HP.out; simp [RowKit.intOf]; omega
     ·have hlt1 : decide ((p : Int) < (N : Int)) = false := decide_eq_false (by omega)
      have hlt2 : decide (p < N) = false := decide_eq_false hend
      clear hp hr2 hk hi hj hjm hend hj0
      go_wp2_with fail
      go_quiet (fail)
      clear hwr
      go_wp2_with fail
      have BD := hid ((BQN.out nq).below (Below.refl _ _).drew)
      have XD := hid (BXN.out nq).drew
      generalize wr.drewN nq = wz at *
      refine wp_region_tail (S := (fun w' => w'.cell? ⟨w.heap.size, 1, none⟩ = some (.slice (some ⟨lb, lo, none⟩) N lc) ∧ w'.cell? ⟨lb, lo + i, none⟩ = some (.int .u8 x) ∧ Hid (Blk w' w.heap.size 59 [.int .i64 t, .slice (some ⟨lb, lo, none⟩) N lc, .slice ba bn bc]) ∧ Hid (Below w.heap.size w w'))) 12 (by kernel_rfl) (by kernel_rfl) ?_ (fun hHeld => ?_)
      ·exact ⟨BD.out.cell (i := 1) rfl, HCC.out _ (HB.out.trans (XD.out.mono HB.out.size)) i x (HR3.out 0 (Nat.zero_le _)), BD, XD⟩
      repeat ((first | refine tk 0 ?_ rfl ?_ ?_ | refine tk 1 ?_ rfl ?_ ?_ | refine tk 3 ?_ rfl ?_ ?_ | refine tk 4 ?_ rfl ?_ ?_ | refine tk 5 ?_ rfl ?_ ?_ | refine tk 6 ?_ rfl ?_ ?_ | refine tk 7 ?_ rfl ?_ ?_ | refine tk 8 ?_ rfl ?_ ?_ | refine tk 10 ?_ rfl ?_ ?_ | refine tk 11 ?_ rfl ?_ ?_); rotate_left; (intro wy hSw; (try dsimp only at hSw); (go_simp <;> with_reducible rfl)); (try simp only [List.getElem_toArray, List.getElem_cons_zero, List.getElem_cons_succ, Act.put, List.setIfInBounds_toArray, List.set_cons_zero, List.set_cons_succ]))
      refine wpT_one (k := 2) rfl (by kernel_rfl) (fun K hK => ?_)
      go_simp
      refine (HNM.out _).mono ?_
      rintro r w5 ⟨rfl, hb5⟩
      have BE := hid (BD.out.below hb5)
      have XE := hid (XD.out.trans (hb5.mono XD.out.size))
      clear hb5
      go_wp2_with fail
      refine hK.out _ _ ?_ (fun hHeld => ?_)
      ·exact ⟨BE.out.cell (i := 1) rfl, HCC.out _ (HB.out.trans (XE.out.mono HB.out.size)) i x (HR3.out 0 (Nat.zero_le _)), BE, XE⟩
      clear hK K
      (try simp only [Act.put, List.setIfInBounds_toArray, List.set_cons_zero, List.set_cons_succ])
      repeat ((first | refine tk 0 ?_ rfl ?_ ?_ | refine tk 1 ?_ rfl ?_ ?_ | refine tk 3 ?_ rfl ?_ ?_ | refine tk 4 ?_ rfl ?_ ?_ | refine tk 5 ?_ rfl ?_ ?_ | refine tk 6 ?_ rfl ?_ ?_ | refine tk 7 ?_ rfl ?_ ?_ | refine tk 8 ?_ rfl ?_ ?_ | refine tk 10 ?_ rfl ?_ ?_ | refine tk 11 ?_ rfl ?_ ?_); rotate_left; (intro wy hSw; (try dsimp only at hSw); (go_simp <;> with_reducible rfl)); (try simp only [List.getElem_toArray, List.getElem_cons_zero, List.getElem_cons_succ, Act.put, List.setIfInBounds_toArray, List.set_cons_zero, List.set_cons_succ]))
      refine wpT_one (k := 9) rfl (by kernel_rfl) (fun K hK => ?_)
      go_simp
      refine (HCH.out _).mono ?_
      rintro r w6 ⟨rfl, hb6⟩
      have BF := hid (BE.out.below hb6)
      have XF := hid (XE.out.trans (hb6.mono XE.out.size))
      clear hb6
      go_wp2_with fail
      refine hK.out _ _ ?_ (fun hHeld => ?_)
      ·exact ⟨BF.out.cell (i := 1) rfl, HCC.out _ (HB.out.trans (XF.out.mono HB.out.size)) i x (HR3.out 0 (Nat.zero_le _)), BF, XF⟩
      clear hK K
      (try simp only [Act.put, List.setIfInBounds_toArray, List.set_cons_zero, List.set_cons_succ])
      repeat ((first | refine tk 0 ?_ rfl ?_ ?_ | refine tk 1 ?_ rfl ?_ ?_ | refine tk 3 ?_ rfl ?_ ?_ | refine tk 4 ?_ rfl ?_ ?_ | refine tk 5 ?_ rfl ?_ ?_ | refine tk 6 ?_ rfl ?_ ?_ | refine tk 7 ?_ rfl ?_ ?_ | refine tk 8 ?_ rfl ?_ ?_ | refine tk 10 ?_ rfl ?_ ?_ | refine tk 11 ?_ rfl ?_ ?_); rotate_left; (intro wy hSw; (try dsimp only at hSw); (go_simp <;> with_reducible rfl)); (try simp only [List.getElem_toArray, List.getElem_cons_zero, List.getElem_cons_succ, Act.put, List.setIfInBounds_toArray, List.set_cons_zero, List.set_cons_succ]))
      refine wpT_done (by kernel_rfl) ?_
      go_wp2_with fail
      go_roundw
      case rel => exact ⟨k + 1, p, _, hki, hpN', by go_num, rfl, rfl, hid (by rw [show b ++ (numB M ++ oneB x) = b ++ wRun (m + 1, x) from by unfold wRun; rw [HM.out]]; exact HB2.out), HK2, BF, XF⟩
      case measure => have := HP.out; simp [RowKit.intOf]; omega
  ·obtain rfl : i = N := by omega
   have HB2 := hid (show b = catB wRun R from by have := HB1.out; rw [HRE.out] at this; rwa [show catB wRun [] = (⟨#[]⟩ : ByteArray) from rfl, ba_nil] at this)
   have HK2 := hid (show k = R.length from by have := HK1.out; rw [HRE.out] at this; simpa using this)
   have c2 := BK.out.cell (i := 2) rfl
   have hk16 : (k : Int) ≤ 16 := by have := HRL.out; have := HK2.out; omega
   go_wp2_with fail
   refine (HNW.out _ (HB.out.trans (BW.out.mono HB.out.size))).mono ?_
   rintro r w2 ⟨rfl, hb2⟩
   have B2 := hid (BW.out.trans (hb2.mono BW.out.size))
   clear hb2 c1 c2
   have h1 := numB_size k
   have h2 : b.size ≤ 200 := by rw [HB2.out]; exact HRZ.out
   have h3 := HBS.out
   have g1 : ¬ 9223372036854775807 < (numB k).size + b.size := by omega
   have g2 : ¬ 9223372036854775807 < (numB k ++ b).size + B.size := by rw [ba_size]; omega
   have g3 : (numB k ++ b ++ B).size ≤ 2000000000 := by rw [ba_size, ba_size]; omega
   clear h1 h2 h3
   go_wp2_with fail
   refine (ru_any k (by omega) _).mono ?_
   rintro r w3 ⟨rfl, hb3⟩
   have B3 := hid (B2.out.trans (hb3.mono B2.out.size))
   clear hb3
   have HAL := hid (show numB k ++ b ++ B = numB R.length ++ catB wRun R ++ B from by rw [HK2.out, HB2.out])
   go_wp2_with fail
   clear g1 g2
   rw [show (((numB k).size : Int) + (b.size : Int) + (B.size : Int)) = ((numB k ++ b ++ B).size : Nat) from by rw [ba_size, ba_size]; omega]
   generalize numB k ++ b ++ B = ALL at *
   refine (ru_any ALL.size (by omega) _).mono ?_
   rintro r w4 ⟨rfl, hb4⟩
   have B4 := hid (B3.out.trans (hb4.mono B3.out.size))
   clear hb4
   have g5 : ¬ 9223372036854775807 < (numB ALL.size).size + ALL.size := by have := numB_size ALL.size; omega
   go_wp2_with fail
   go_ret
   exact ⟨by rw [HFI.out, HAL.out]; rfl, B4.out⟩
end Go.Proofs.YthoalneknadheaaGreatDoor
