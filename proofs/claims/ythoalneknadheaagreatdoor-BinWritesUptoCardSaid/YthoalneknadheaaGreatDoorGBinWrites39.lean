/-
  MODULES AS BYTES, the program's writer: code. Conditions: 16 locals at most, of bytes; the body's bytes as nest.Write gives them.
-/
import Derived.Test.YthoalneknadheaaGreatDoorGBinWrites4
import Derived.Test.YthoalneknadheaaGreatDoorGBinWrites20
import Derived.Deep.RegionHeld3
namespace Go.Proofs.YthoalneknadheaaGreatDoor
open Go.RowKit Go.Lib

theorem bel_drewN {B : Nat} {a w : World} (h : Below B a w) (n : Nat) : Below B a (w.drewN n) := h.trans ⟨rfl, rfl, rfl, Nat.le_refl _, fun _ _ => rfl⟩
set_option maxRecDepth 100000 in
set_option maxHeartbeats 4000000 in
theorem code_any (W w : World) (t : Int) (la : Option Addr) (lc : Nat) (L : List Int) (ba : Option Addr) (bn bc : Nat) (B : ByteArray) (ec : Int) (hb : Below W.heap.size W w) (hl : Ints W .u8 (.slice la L.length lc) L) (hlen : L.length ≤ 16) (hy : ∀ z ∈ L, 0 ≤ z ∧ z ≤ 255) (hB : B.size ≤ 1000000000)
    (hNW : ∀ wx, Below W.heap.size W wx → Calls Tryz.prog 87 #[.slice ba bn bc] wx fun e w' => e = .returned (.tuple #[.string B, .int .i64 ec]) ∧ Below wx.heap.size wx w') :
    Calls Tryz.prog 29 #[.agg #[.int .i64 t, .slice la L.length lc, .slice ba bn bc]] w fun e w' => e = .returned (.string (codeB L B)) ∧ Below w.heap.size w w' := by
  have HNW := hid hNW
  have HL := hid hl
  have HB := hid hb
  have HY := hid hy
  have HBS := hid hB
  obtain ⟨N, hN⟩ : ∃ N, L.length = N := ⟨_, rfl⟩
  have HLN := hid hN
  have HRS := hid (fun (c i : Nat) (h : i < N) (hc : c ≤ i) => runs_stepN L N c i hN h hc)
  have HRE := hid (fun f => (by rw [← hN]; exact runs_end L f : runsB f (L.drop N) = []))
  obtain ⟨R, hR⟩ : ∃ R, runsB N L = R := ⟨_, rfl⟩
  have HR := hid hR
  have HFI := hid (show codeB L B = numB (numB R.length ++ catB wRun R ++ B).size ++ (numB R.length ++ catB wRun R ++ B) from by unfold codeB codeAll; rw [hN, hR])
  have HRL := hid (show R.length ≤ 16 from by rw [← hR]; have := runsB_len N L; omega)
  have HRZ := hid (show (catB wRun R).size ≤ 200 from by rw [← hR]; have := runs_size N L; omega)
  rw [hN] at HL hlen
  rw [hN]
  have hN16 : (N : Int) ≤ 16 := by omega
  have BM := hid (show Blk (w.alloc (.cells #[.int .i64 t, .slice la N lc, .slice ba bn bc] 59)) w.heap.size 59 [.int .i64 t, .slice la N lc, .slice ba bn bc] from Blk.new w #[.int .i64 t, .slice la N lc, .slice ba bn bc] 59 _ rfl)
  have BB := hid ((Below.refl w.heap.size w).alloc (Nat.le_refl _) (.cells #[.int .i64 t, .slice la N lc, .slice ba bn bc] 59))
  clear hNW hl hb hy hB hN hR hlen
  go_enter Tryz.func29, Tryz.ntmps29
  go_wp2_with fail
  go_loopw [3, 4, 5, 6] (fun g c f _ wr => ∃ (k i : Nat) (b : ByteArray), k ≤ i ∧ i ≤ N ∧ g = .string b ∧ c = .int .i64 k ∧ f = .int .i64 i ∧ Hid (b ++ catB wRun (runsB (N - k) (L.drop i)) = catB wRun R) ∧ Hid (k + (runsB (N - k) (L.drop i)).length = R.length) ∧ Hid (Blk wr w.heap.size 59 [.int .i64 t, .slice la N lc, .slice ba bn bc]) ∧ Hid (Below w.heap.size w wr)) (fun _ _ f _ _ => N - (RowKit.intOf f).toNat)
  case atStart => exact ⟨0, 0, ⟨#[]⟩, Nat.le_refl _, Nat.zero_le _, rfl, rfl, rfl, hid (by rw [nil_ba]; show catB wRun (runsB N L) = _; rw [HR.out]), hid (by show 0 + (runsB N L).length = _; rw [HR.out, Nat.zero_add]), BM, BB⟩
  case round =>
    obtain ⟨k, i, b, hk, hi, rfl, rfl, rfl, HB1, HK1, BK, BW⟩ := hrel
    have c1 := BK.out.cell (i := 1) rfl
    by_cases hlt : i < N
    · obtain ⟨m, x, hxm, hr1, hr2, hr3, hr4⟩ := HRS.out k i hlt hk
      have HR1 := hid hr1
      have HR3 := hid hr3
      have HR4 := hid hr4
      have hx8 := HY.out x hxm
      clear hr1 hr3 hr4 hxm
      rcases HL.out.open with ⟨_, _, _, e, _⟩ | ⟨lb, lo, cap', hv, _, _, _, _⟩
      · have := HLN.out; rw [e] at this; simp at this; omega
      simp only [Value.slice.injEq] at hv
      obtain ⟨rfl, -, rfl⟩ := hv
      have HCC := hid (show ∀ wx, Below W.heap.size W wx → ∀ j y, L[j]? = some y → wx.cell? ⟨lb, lo + j, none⟩ = some (.int .u8 y) from by
        intro wx hx j y hj
        obtain ⟨hjl, rfl⟩ := List.getElem?_eq_some_iff.1 hj
        have hI := L1.below HL.out hx
        rcases hI.open with ⟨_, _, _, e, _⟩ | ⟨lb2, lo2, cap2, hv2, _, _, _, hc2⟩
        · rw [e] at hjl; simp at hjl
        simp only [Value.slice.injEq] at hv2
        obtain ⟨hv3, -, -⟩ := hv2
        cases hv3
        exact hc2 j hjl)
      go_wp2_with fail
      clear c1
      go_loopw [6] (fun tp wq => ∃ j : Nat, j ≤ m + 1 ∧ tp = .int .i64 ((i + j : Nat) : Int) ∧ Hid (Blk wq w.heap.size 59 [.int .i64 t, .slice (some ⟨lb, lo, none⟩) N lc, .slice ba bn bc]) ∧ Hid (Below w.heap.size w wq)) (fun tp _ => N - (RowKit.intOf tp).toNat)
      case atStart => exact ⟨0, by omega, rfl, BK, BW⟩
      case round =>
        obtain ⟨j, hj, rfl, BQ, BX⟩ := hrel
        have BQN := hid (fun q => BQ.out.below (bel_drewN (Below.refl _ _) q))
        have BXN := hid (fun q => bel_drewN BX.out q)
        have HWD := hid (HB.out.trans (BX.out.mono HB.out.size))
        have c1 := BQ.out.cell (i := 1) rfl
        have yi := HCC.out _ HWD.out (i + 0) x (HR3.out 0 (by omega))
        rw [Nat.add_zero] at yi
        obtain ⟨p, hp⟩ : ∃ p, i + j = p := ⟨_, rfl⟩
        have HP := hid hp
        rw [hp]
        by_cases hjm : j ≤ m
        · have yp := HCC.out _ HWD.out (i + j) x (HR3.out j hjm)
          rw [hp] at yp
          have hpN : (p : Int) < (N : Int) := by omega
          have hiN : (i : Int) < (N : Int) := by omega
          have hlt1 : decide ((p : Int) < (N : Int)) = true := decide_eq_true hpN
          have hxx : (x == x) = true := by simp
          have hp9 : (p : Int) ≤ 16 := by omega
          have HJM := hid hjm
          clear hp hr2 hk hi hj hjm
          go_wp2_with fail
          go_quiet (fail)
          go_wp2_with fail
          go_roundw
          case rel => exact ⟨j + 1, by have := HJM.out; omega, by rw [← HP.out]; go_num, hid (BQN.out _), hid (BXN.out _)⟩
          case measure => simp [RowKit.intOf]; omega
        · obtain rfl : j = m + 1 := by omega
          have hR2 := HB1.out
          rw [HR1.out] at hR2
          have HB2 := hid (show b ++ wRun (m + 1, x) ++ catB wRun (runsB (N - (k + 1)) (L.drop p)) = catB wRun R from by rw [← hp, ba_assoc]; exact hR2)
          have hK2 := HK1.out
          rw [HR1.out] at hK2
          have HK2 := hid (show k + 1 + (runsB (N - (k + 1)) (L.drop p)).length = R.length from by rw [← hp]; simp only [List.length_cons] at hK2; omega)
          have hbz : b.size ≤ 200 := by
            have h1 := HRZ.out
            rw [← hR2, ba_size] at h1
            omega
          have HNM := hid (fun wx => num_any (m + 1) (by omega) wx)
          obtain ⟨M, hM⟩ : ∃ M : Int, ((m + 1 : Nat) : Int) = M := ⟨_, rfl⟩
          rw [hM] at HNM
          have HM := hid hM
          have hq : (p : Int) - (i : Int) = M := by omega
          have hwM : IntKind.i64.wrap M = M := IntWalk.i64_in _ (by omega)
          have hqn := hid (show m + 1 ≤ 16 from by omega)
          clear hR2 hK2
          have hpN' : p ≤ N := by omega
          have hki : k + 1 ≤ p := by omega
          have hiN : (i : Int) < (N : Int) := by omega
          have hnn := numB_size M
          have hcv := fun wz : World => conv_bytes (Ints.made' wz .u8 5 [x] wz.heap.size rfl (by simp))
          simp only [List.length_cons, List.length_nil, List.map_cons, List.map_nil, Nat.zero_add] at hcv
          rw [byte_one hx8] at hcv
          have hcx := hid (show ∀ wa wb : World, Below (wa.alloc (.cells #[.int .u8 x] 5)).heap.size (wa.alloc (.cells #[.int .u8 x] 5)) wb → (convert 40 9 (.slice (some ⟨wa.heap.size, 0, none⟩) 1 1)).run Tryz.prog wb = .ok (.string (oneB x)) wb from by
            intro wa wb h
            have hi := L1.below (Ints.made' wa .u8 5 [x] wa.heap.size rfl (by simp)) h
            have hc := conv_bytes hi
            simp only [List.length_cons, List.length_nil, List.map_cons, List.map_nil, Nat.zero_add] at hc
            rw [byte_one hx8] at hc
            exact hc)
          have hcat1 : ¬ 9223372036854775807 < (numB M).size + (oneB x).size := by rw [oneB_size]; omega
          have hcat2 : ¬ 9223372036854775807 < b.size + ((numB M).size + (oneB x).size) := by rw [oneB_size]; omega
          by_cases hend : p < N
          · obtain ⟨y, hy⟩ : ∃ y, L[p]? = some y := ⟨_, List.getElem?_eq_getElem (by rw [HLN.out]; exact hend)⟩
            have yp := HCC.out _ HWD.out p y hy
            have hne : (y == x) = false := by
              rw [beq_eq_false_iff_ne]
              intro e
              exact HR4.out (by rw [hp, hy, e])
            have hpN : (p : Int) < (N : Int) := by omega
            have hlt1 : decide ((p : Int) < (N : Int)) = true := decide_eq_true hpN
            clear hp hr2 hk hi hj hjm hy hend hM
            go_wp2_with fail
            go_quiet (fail)
            go_wp2_with fail
            have BD := hid ((BQN.out nq).below (Below.refl _ _).drew)
            have XD := hid (BXN.out nq).drew
            have BA := hid (((BQN.out nq).below ((Below.refl _ _).alloc (Nat.le_refl _) (.cells #[.int .u8 x] 5))).below (Below.refl _ _).drew)
            have XA := hid ((BXN.out nq).alloc (BXN.out nq).size (.cells #[.int .u8 x] 5)).drew
            generalize wr.drewN nq = wz at *
            have hcd := hcx.out wz _ (Below.refl _ _).drew
            have s1 := BD.out.cell (i := 1) rfl
            have s2 := HCC.out _ (HB.out.trans (XD.out.mono HB.out.size)) (i + 0) x (HR3.out 0 (Nat.zero_le _))
            rw [Nat.add_zero] at s2
            go_region_with (first | (go_at_call 19; refine (HNM.out _).mono ?_; rintro r w5 ⟨rfl, hb5⟩; (first | (have BE := hid (BD.out.below hb5); have XE := hid (XD.out.trans (hb5.mono XD.out.size))) | (have BE := hid (BA.out.below hb5); have XE := hid (XA.out.trans (hb5.mono XA.out.size)); have hc5 := hcx.out wz w5 ((Below.refl _ _).drew.trans hb5))); have t1 := BE.out.cell (i := 1) rfl; have t2 := HCC.out _ (HB.out.trans (XE.out.mono HB.out.size)) i x (HR3.out 0 (Nat.zero_le _)); have BF := hid (BE.out.below ((Below.refl _ _).alloc (Nat.le_refl _) (.cells #[.int .u8 x] 5))); have XF := hid (XE.out.alloc XE.out.size (.cells #[.int .u8 x] 5)); clear hb5))
            all_goals
              go_wp2_with fail
              go_roundw
              case rel => exact ⟨k + 1, p, _, hki, hpN', rfl, by go_num, rfl, hid (by rw [show b ++ (numB M ++ oneB x) = b ++ wRun (m + 1, x) from by unfold wRun; rw [HM.out]]; exact HB2.out), HK2, (by first | exact BF | exact BE), (by first | exact XF | exact XE)⟩
              case measure => have := HP.out; simp [RowKit.intOf]; omega
          · have hlt1 : decide ((p : Int) < (N : Int)) = false := decide_eq_false (by omega)
            have hlt2 : decide (p < N) = false := decide_eq_false hend
            clear hp hr2 hk hi hj hjm hend hM
            go_wp2_with fail
            go_quiet (fail)
            go_wp2_with fail
            have BD := hid ((BQN.out nq).below (Below.refl _ _).drew)
            have XD := hid (BXN.out nq).drew
            have BA := hid (((BQN.out nq).below ((Below.refl _ _).alloc (Nat.le_refl _) (.cells #[.int .u8 x] 5))).below (Below.refl _ _).drew)
            have XA := hid ((BXN.out nq).alloc (BXN.out nq).size (.cells #[.int .u8 x] 5)).drew
            generalize wr.drewN nq = wz at *
            have hcd := hcx.out wz _ (Below.refl _ _).drew
            have s1 := BD.out.cell (i := 1) rfl
            have s2 := HCC.out _ (HB.out.trans (XD.out.mono HB.out.size)) (i + 0) x (HR3.out 0 (Nat.zero_le _))
            rw [Nat.add_zero] at s2
            go_region_with (first | (go_at_call 19; refine (HNM.out _).mono ?_; rintro r w5 ⟨rfl, hb5⟩; (first | (have BE := hid (BD.out.below hb5); have XE := hid (XD.out.trans (hb5.mono XD.out.size))) | (have BE := hid (BA.out.below hb5); have XE := hid (XA.out.trans (hb5.mono XA.out.size)); have hc5 := hcx.out wz w5 ((Below.refl _ _).drew.trans hb5))); have t1 := BE.out.cell (i := 1) rfl; have t2 := HCC.out _ (HB.out.trans (XE.out.mono HB.out.size)) i x (HR3.out 0 (Nat.zero_le _)); have BF := hid (BE.out.below ((Below.refl _ _).alloc (Nat.le_refl _) (.cells #[.int .u8 x] 5))); have XF := hid (XE.out.alloc XE.out.size (.cells #[.int .u8 x] 5)); clear hb5))
            all_goals
              go_wp2_with fail
              go_roundw
              case rel => exact ⟨k + 1, p, _, hki, hpN', rfl, by go_num, rfl, hid (by rw [show b ++ (numB M ++ oneB x) = b ++ wRun (m + 1, x) from by unfold wRun; rw [HM.out]]; exact HB2.out), HK2, (by first | exact BF | exact BE), (by first | exact XF | exact XE)⟩
              case measure => have := HP.out; simp [RowKit.intOf]; omega
    · obtain rfl : i = N := by omega
      have HB2 := hid (show b = catB wRun R from by have := HB1.out; rw [HRE.out] at this; rwa [show catB wRun [] = (⟨#[]⟩ : ByteArray) from rfl, ba_nil] at this)
      have HK2 := hid (show k = R.length from by have := HK1.out; rw [HRE.out] at this; simpa using this)
      have c2 := BK.out.cell (i := 2) rfl
      have hk16 : (k : Int) ≤ 16 := by have := HRL.out; have := HK2.out; omega
      go_wp2_with fail
      refine (HNW.out _ (HB.out.trans (BW.out.mono HB.out.size))).mono ?_
      rintro r w2 ⟨rfl, hb2⟩
      have B2 := hid (BW.out.trans (hb2.mono BW.out.size))
      clear hb2 c1 c2
      have h1 := numB_size k
      have h2 : b.size ≤ 200 := by rw [HB2.out]; exact HRZ.out
      have h3 := HBS.out
      have g1 : ¬ 9223372036854775807 < (numB k).size + b.size := by omega
      have g2 : ¬ 9223372036854775807 < (numB k ++ b).size + B.size := by rw [ba_size]; omega
      have g3 : (numB k ++ b ++ B).size ≤ 2000000000 := by rw [ba_size, ba_size]; omega
      clear h1 h2 h3
      go_wp2_with fail
      refine (num_any k (by omega) _).mono ?_
      rintro r w3 ⟨rfl, hb3⟩
      have B3 := hid (B2.out.trans (hb3.mono B2.out.size))
      clear hb3
      have HAL := hid (show numB k ++ b ++ B = numB R.length ++ catB wRun R ++ B from by rw [HK2.out, HB2.out])
      go_wp2_with fail
      clear g1 g2
      rw [show (((numB k).size : Int) + (b.size : Int) + (B.size : Int)) = ((numB k ++ b ++ B).size : Nat) from by rw [ba_size, ba_size]; omega]
      generalize numB k ++ b ++ B = ALL at *
      refine (num_any ALL.size (by omega) _).mono ?_
      rintro r w4 ⟨rfl, hb4⟩
      have B4 := hid (B3.out.trans (hb4.mono B3.out.size))
      clear hb4
      have g5 : ¬ 9223372036854775807 < (numB ALL.size).size + ALL.size := by have := numB_size ALL.size; omega
      go_wp2_with fail
      go_ret
      exact ⟨by rw [HFI.out, HAL.out]; rfl, B4.out⟩
end Go.Proofs.YthoalneknadheaaGreatDoor
