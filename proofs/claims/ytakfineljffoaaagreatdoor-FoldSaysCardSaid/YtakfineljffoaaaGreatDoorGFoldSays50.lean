/-
  BODIES: the reference's NestMatch and NestCheck. Condition: the library's variable that strings.Contains reads holds some number.
-/
import Derived.Test.YtakfineljffoaaaGreatDoorGFoldSays35
import Derived.Test.YtakfineljffoaaaGreatDoorGFoldSays36
import Derived.Test.YtakfineljffoaaaGreatDoorGFoldSays37
import Derived.Test.YtakfineljffoaaaGreatDoorGFoldSays38
import Derived.Test.YtakfineljffoaaaGreatDoorGFoldSays39
import Derived.Test.YtakfineljffoaaaGreatDoorGFoldSays44
import Derived.Test.YtakfineljffoaaaGreatDoorGFoldSays48
import Derived.Test.YtakfineljffoaaaGreatDoorGFoldSays49
namespace Go.Proofs.YtakfineljffoaaaGreatDoor
open Go.RowKit Go.Lib
attribute [local go_sem ↓] Go.wp_at_zero Go.wp_at_succ

theorem ints_none (w : World) : Ints w .i64 (.slice none 0 0) [] := ⟨none, 0, rfl, by simp, by simp, by simp, .inl rfl⟩
theorem nc_all (l : List It) (h : ¬ 200 < l.length) : ncM l = (allM itC It.op l).1 := by
  unfold ncM
  rw [if_neg h]
  exact (all_laws l).1
theorem mk_all (l : List It) (h : (allM itC It.op l).1 = 0) : mkM l = (allM itC It.op l).2 := (all_laws (c := itC) l).2 h _ ⟨by simp, by simp⟩
set_option maxRecDepth 100000 in
set_option maxHeartbeats 4000000 in
theorem rnmatch_any (w : World) (v : Value) (l : List It) (hok : ∀ x ∈ l, ItOk x) (h : BodS w v l) (hM : MaxL w) :
    Calls Tryz.prog 76 #[v] w fun e w' => ∃ va vb, e = .returned (.tuple #[va, vb, .int .i64 (ncM l)]) ∧ Ints w' .i64 va (if ncM l = 0 then (mkM l).1 else []) ∧ Ints w' .i64 vb (if ncM l = 0 then (mkM l).2 else []) ∧ Below w.heap.size w w' := by
  by_cases hbig : 200 < l.length
  · have hn : ncM l = 2 := by unfold ncM; rw [if_pos hbig]
    rw [hn]
    simp only [show ¬ ((2 : Int) = 0) from by decide, if_false]
    obtain ⟨css, _, ⟨ao, cap, rfl, _⟩, _⟩ := h
    have hb2 : (200 : Int) < (l.length : Int) := by omega
    go_enter Tryz.func76, Tryz.ntmps76
    go_wp2_with fail
    go_ret3
    exact ⟨_, _, rfl, ints_none _, ints_none _, Below.refl _ _⟩
  · rw [nc_all l hbig]
    have hb2 : ¬ (200 : Int) < (l.length : Int) := by omega
    have HB := hid (show Below w.heap.size w (w.alloc (.cells #[v, .slice none 0 0, .slice none 0 0] 158)) from (Below.refl _ _).alloc (Nat.le_refl _) _)
    by_cases h0 : 0 < l.length
    · obtain ⟨b, off, cap, rfl, hcap, hrow⟩ := h.rows h0
      have HA := hid (rall_any w l hok (by omega) h0 hM b off cap hcap hrow _ HB.out w.heap.size (Blk.new w _ _ _ rfl) (Nat.le_refl _) (fun E cE S cS => rseq_any w l hok (by omega) hM b off cap hcap w.heap.size E cE S cS hrow 12 0 (by omega)))
      have hmk := mk_all l
      generalize mkM l = mk at *
      generalize allM itC It.op l = fin at *
      obtain ⟨E0, m0⟩ := fin
      simp only at HA hmk ⊢
      by_cases he : E0 = 0
      · have hm := hmk he
        subst hm
        subst he
        simp only [if_true]
        clear hok h hM hrow hmk
        go_enter Tryz.func76, Tryz.ntmps76
        go_wp2_with fail
        refine HA.out.mono ?_
        rintro r w2 ⟨rfl, ⟨E, cE, S, cS, g1⟩, g2⟩
        have K2 := hid g1
        have B2 := hid g2
        clear g1 g2
        have mk1 := K2.out.blk.cell (i := 1) rfl
        have mk2 := K2.out.blk.cell (i := 2) rfl
        have mk1d : w2.drew.cell? ⟨w.heap.size, 1, none⟩ = some (.slice (some ⟨E, 0, none⟩) l.length cE) := mk1
        have mk2d : w2.drew.cell? ⟨w.heap.size, 2, none⟩ = some (.slice (some ⟨S, 0, none⟩) l.length cS) := mk2
        go_wp2_with fail
        go_region_law (fail)
        all_goals
          go_wp2_with fail
          go_ret3
          exact ⟨_, _, rfl, K2.out.drew.en.ints, K2.out.drew.el.ints, drew_bel' (n := 1) B2.out⟩
      · have he2 : (E0 != 0) = true := by simpa using he
        simp only [if_neg he]
        clear hok h hM hrow hmk he
        go_enter Tryz.func76, Tryz.ntmps76
        go_wp2_with fail
        refine HA.out.mono ?_
        rintro r w2 ⟨rfl, _, g2⟩
        have B2 := hid g2
        clear g2
        go_wp2_with fail
        go_ret3
        exact ⟨_, _, rfl, ints_none _, ints_none _, B2.out⟩
    · have hl : l = [] := List.length_eq_zero_iff.1 (by omega)
      subst hl
      rw [show (allM itC It.op ([] : List It)).1 = 3 from rfl]
      simp only [show ¬ ((3 : Int) = 0) from by decide, if_false]
      obtain ⟨css, _, ⟨ao, cap, rfl, _⟩, _⟩ := h
      have HA := hid (rall_nil (w.alloc (.cells #[.slice ao 0 cap, .slice none 0 0, .slice none 0 0] 158)) w.heap.size ao cap (Blk.new w _ _ _ rfl))
      clear hok hM
      go_enter Tryz.func76, Tryz.ntmps76
      go_wp2_with fail
      refine HA.out.mono ?_
      rintro r w2 ⟨rfl, rfl⟩
      go_wp2_with fail
      go_ret3
      exact ⟨_, _, rfl, ints_none _, ints_none _, HB.out⟩
set_option maxRecDepth 100000 in
set_option maxHeartbeats 1000000 in
theorem rncheck_any (w : World) (v : Value) (l : List It) (hok : ∀ x ∈ l, ItOk x) (h : BodS w v l) (hM : MaxL w) :
    Calls Tryz.prog 42 #[v] w fun e w' => e = .returned (.int .i64 (ncM l)) ∧ Below w.heap.size w w' := by
  have HA := hid (rnmatch_any w v l hok h hM)
  obtain ⟨css, _, ⟨ao, cap, rfl, _⟩, _⟩ := h
  generalize ncM l = E at *
  clear hok hM
  go_enter Tryz.func42, Tryz.ntmps42
  go_wp2_with fail
  refine HA.out.mono ?_
  rintro r w2 ⟨va, vb, rfl, _, _, g2⟩
  have B2 := hid g2
  clear g2
  go_wp2_with fail
  go_ret
  exact ⟨rfl, B2.out⟩
end Go.Proofs.YtakfineljffoaaaGreatDoor
namespace Go.Proofs.YtakfineljffoaaaGreatDoor
open Go.RowKit Go.Lib

theorem instead_any (w : World) (v : Value) (x : It) (t : List It) (h : IPre w v x t) : IPost w v x t := by
 by_cases h1 : x.op = 1
 ·exact instead_nop w v x t h h1
 cases t with
 | nil => exact instead_end w v x h h1
 | cons y t =>
  by_cases h65 : x.op = 65
  ·exact instead_65 w v x y t h h65
  by_cases h66 : x.op = 66
  ·exact instead_66 w v x y t h h66
  by_cases h32 : x.op = 32
  ·exact instead_32 w v x y t h h32
  by_cases h35 : x.op = 35
  ·exact instead_35 w v x y t h h35
  by_cases h0 : x.op = 0
  ·exact instead_0 w v x y t h h0
  by_cases h12 : x.op = 12
  ·exact instead_12 w v x y t h h12
  by_cases h14 : x.op = 14
  ·exact instead_14 w v x y t h h14
  by_cases h15 : x.op = 15
  ·exact instead_15 w v x y t h h15
  by_cases h33 : x.op = 33
  ·exact instead_33 w v x y t h h33
  exact instead_none w v x y t h (by omega)
theorem copy_ins (W w : World) (v : Value) (l : List It) (h : BodS W v l) (hW : Below W.heap.size W w) (hl : l.length ≤ 200) :
  Calls Tryz.prog 44 #[v] w fun e w' => ∃ v', e = .returned v' ∧ OwnF W w' W.heap.size v' l ∧ Below W.heap.size W w' := by
 have HB := hid h
 have HL := hid hl
 have HW := hid hW
 clear h hl hW
 go_enter Tryz.func44, Tryz.ntmps44
 go_wp2_with (at_builtin; go_must (refine app_bod (W := W) (base := W.heap.size) (l := []) (m := l) rfl _ _ rfl rfl rfl (OwnF.nil _ _ _) HB.out HW.out (by have := HL.out; simp only [List.length_nil]; omega) HW.out.size ?_); intro v' w' ho hb2 hl2)
 go_ret
 exact ⟨_, rfl, ho, bel_tr2 HW.out hb2 (Nat.le_refl _)⟩
theorem fb_wrap {i q : Nat} (h : i + q ≤ 200) : wrap64 ((i : Int) + 1) = ((i + 1 : Nat) : Int) ∧ IntKind.i64.wrap ((i : Int) + (q : Int)) = (i : Int) + (q : Int) := ⟨by unfold wrap64; omega, IntWalk.i64_in _ (by omega)⟩
set_option maxRecDepth 100000 in
set_option maxHeartbeats 16000000 in
theorem foldbody_any (w : World) (v : Value) (l : List It) (hok : ∀ z ∈ l, ItOk z) (hM : MaxL w) (h : BodS w v l) :
  Calls Tryz.prog 9 #[v] w fun e w' => BdPost w l e w' := by
 have HN := hid (rncheck_any w v l hok h hM)
 by_cases hz : ncM l = 0
 ·have hfit := fits_of hz
  have h200 := (body_seg hz).1
  have hne : l ≠ [] := by
   rintro rfl
   exact absurd hfit (by simp [Fits, run])
  have HOK := hid hok
  have HF := hid hfit
  have HPE := hid (fun (e : Ending) (w' : World) (h1 : Below w.heap.size w w') (h2 : ∃ v', e = .returned (.tuple #[v', .int .i64 0]) ∧ BodS w' v' (foldM oM pM l)) => show BdPost w l e w' from ⟨h1, by rw [if_pos hz]; exact h2⟩)
  rw [hz] at HN
  obtain ⟨ao0, cp0, hv0⟩ : ∃ ao cp, v = .slice ao l.length cp := by
   obtain ⟨css, _, ⟨ao, cap', hv, _⟩, _⟩ := h
   exact ⟨ao, cap', hv⟩
  subst hv0
  have HB0 := hid h
  have hl2 : l.length ≤ 200 := h200
  clear hok hM h hfit hne hz h200
  go_enter Tryz.func9, Tryz.ntmps9
  go_wp2_with fail
  refine HN.out.mono ?_
  rintro r w1 ⟨rfl, hb1⟩
  have B1 := hid hb1
  have HBD := hid (HB0.out.below hb1)
  clear hb1 HN
  go_wp2_with fail
  go_loopw [0, 5] (fun lv av wr => ∃ (lc : List It) (ao : Option Addr) (n cp i : Nat), n = lc.length ∧ n ≤ 200 ∧ i ≤ n ∧ lv = .slice ao n cp ∧ av = .int .i64 i ∧ Hid (Below w.heap.size w wr) ∧ Hid (BodS wr (.slice ao n cp) lc) ∧ Hid (Fits lc) ∧ Hid (∀ z ∈ lc, ItOk z) ∧ Hid (foldM oM pM lc = foldM oM pM l) ∧ Hid (placeM oM pM lc (lc.length - i) i = placeM oM pM lc lc.length 0)) (fun lv av _ => slLen lv * 1000 + (1000 - (RowKit.intOf av).toNat))
  case atStart => exact ⟨l, ao0, l.length, cp0, 0, rfl, hl2, Nat.zero_le _, rfl, rfl, B1, HBD, HF, HOK, hid rfl, hid rfl⟩
  case round =>
   obtain ⟨lc, ao, n, cp, i, hn, hn2, hi, rfl, rfl, BL, HB, HF2, HO2, HFM, HP⟩ := hrel
   have HL := hid hn
   clear hn
   by_cases hlt : i < n
   ·have hlt2 : (i : Int) < (n : Int) := by omega
    have hil := hid (show i < lc.length by have := HL.out; omega)
    obtain ⟨k, st, hrun⟩ := fits_at HF2.out hil.out
    obtain ⟨x0, t0, hlc⟩ : ∃ x0 t0, lc = x0 :: t0 := by
     cases lc with
     | nil => exact absurd HF2.out (by simp [Fits, run])
     | cons x0 t0 => exact ⟨x0, t0, rfl⟩
    obtain ⟨b, off, n', cap', hv, -⟩ := BodS.one (hlc ▸ HB.out)
    simp only [Value.slice.injEq] at hv
    obtain ⟨rfl, rfl, rfl⟩ := hv
    have hcap : n ≤ cp := by
     obtain ⟨css, _, ⟨ao, cap', hv, h5, _⟩, _⟩ := HB.out
     simp only [Value.slice.injEq] at hv
     have := HL.out
     omega
    clear hlc x0 t0
    obtain ⟨o, ho, hsl⟩ := run_lo elem_insv b off n cp i .i64 (i : Int) rfl hi
    have hsh := fun w => run_hi elem_insv b off n cp i .i64 (i : Int) rfl (by omega) w
    have HBD2 := hid (HB.out.drop i (by have := hil.out; omega) ho)
    have HBT := hid (HB.out.take i (by have := hil.out; omega))
    obtain ⟨x, t, hxt⟩ : ∃ x t, lc.drop i = x :: t := ⟨_, _, List.drop_eq_getElem_cons hil.out⟩
    have hlen : (x :: t).length ≤ 200 := by rw [← hxt, List.length_drop]; have := HL.out; omega
    have hlenq := hid (show (x :: t).length = n - i by rw [← hxt, List.length_drop, HL.out])
    rw [hxt] at HBD2 hrun
    have hoks : ∀ z ∈ x :: t, ItOk z := fun z hz => HO2.out z (List.mem_of_mem_drop (hxt ▸ hz))
    have HI := hid (instead_any _ _ x t ⟨hoks, ⟨k, st, hrun⟩, HBD2.out, hlen⟩)
    unfold IPost at HI
    have HXT := hid hxt
    have HRUN := hid hrun
    clear hoks hlen hxt hrun ho
    go_wp2_with fail
    refine HI.out.mono ?_
    rintro r w2 ⟨an, m, cn, N, rfl, hb2, hq⟩
    have B2 := hid (bel_tr BL.out hb2)
    cases hr : ruleM oM pM (x :: t) with
    | none =>
     rw [hr] at hq
     simp only at hq
     subst hq
     have HB2 := hid (HB.out.below hb2)
     have HP2 := hid ((place_none hil.out (show ruleM oM pM (lc.drop i) = none by rw [HXT.out]; exact hr)).symm.trans HP.out)
     have hwk : wrap64 ((i : Int) + 1) = ((i + 1 : Nat) : Int) := (fb_wrap (i := i) (q := 0) (by omega)).1
     clear hb2 hr HI
     go_wp2_with fail
     go_roundw
     case rel => exact ⟨lc, _, n, cp, i + 1, HL.out, hn2, by omega, rfl, by go_num, B2, HB2, HF2, HO2, HFM, HP2⟩
     case measure => simp [RowKit.intOf]; omega
    | some q =>
     rw [hr] at hq
     obtain ⟨q1, q2⟩ := q
     simp only at hq
     obtain ⟨rfl, hbod⟩ := hq
     have HOKR := hid (rule_ok numR HRUN.out hr)
     have HST := hid (step_is hil.out (show ruleM oM pM (lc.drop i) = some (q1, q2) by rw [HXT.out]; exact hr) HP.out)
     simp only at HST
     have hin : i + q1 ≤ n := by
      have h1 := HOKR.out.1
      rw [hlenq.out] at h1
      simp only at h1
      omega
     have hq2 : q2.length ≤ 200 ∧ 0 < q1 := by
      have h1 := HOKR.out.2.1
      simp only at h1
      omega
     have hqp : (0 : Int) < (q1 : Int) := by omega
     obtain ⟨o3, ho3, hs3⟩ := run_lo elem_insv b off n cp (i + q1) .i64 ((i : Int) + (q1 : Int)) (by simp) hin
     have HBE := hid ((HB.out.drop (i + q1) (by have := HL.out; omega) ho3).below hb2)
     have HBS := hid (HBT.out.below hb2)
     have HBN := hid hbod
     have hltn : (lc.take i).length ≤ 200 := by rw [List.length_take]; omega
     have hlte : (lc.drop (i + q1)).length ≤ 200 := by rw [List.length_drop]; have := HL.out; omega
     have HEQ := hid (show lc.take i ++ (q2 ++ lc.drop (i + q1)) = lc.take i ++ q2 ++ lc.drop (i + q1) by rw [List.append_assoc])
     have HSO := hid (step_ok (o := oM) (p := pM) numR HF2.out HST.out)
     have HGO := hid ((fold_go (o := oM) (p := pM) numR HF2.out HST.out).symm.trans HFM.out)
     have HIT := hid (step_items HST.out HO2.out)
     generalize lc.take i = la at *
     generalize lc.drop (i + q1) = lz at *
     have HLN := hid (show la.length ≤ 200 ∧ q2.length ≤ 200 ∧ lz.length ≤ 200 from ⟨hltn, hq2.1, hlte⟩)
     have HCP := hid (fun (wx : World) (hb : Below w2.heap.size w2 wx) => copy_ins w2 wx _ la HBS.out hb hltn)
     obtain ⟨hwk, hwq⟩ := fb_wrap (i := i) (q := q1) (by omega)
     clear hbod hb2 hr HI hltn hlte ho3 HOKR HP HST hq2
     go_wp2_with fail
     refine wp_region_tail (S := (fun w' => Below w2.heap.size w2 w')) 12 (by kernel_rfl) (by kernel_rfl) ?_ (fun hHeld => ?_)
     ·(repeat (first | exact Below.refl _ _ | assumption | refine bel_al ?_ _ | refine Below.drew ?_ | refine bel_dn ?_ _ | refine bel_set ?_ (Nat.le_refl _) _))
     refine tk 0 ?_ rfl ?_ ?_
     rotate_left
     ·intro wy hSw; (try dsimp only at hSw); (go_simp <;> with_reducible rfl)
     (try simp only [List.getElem_toArray, List.getElem_cons_zero, List.getElem_cons_succ, Act.put, List.setIfInBounds_toArray, List.set_cons_zero, List.set_cons_succ])
     refine tk 1 ?_ rfl ?_ ?_
     rotate_left
     ·intro wy hSw; (try dsimp only at hSw); (go_simp <;> with_reducible rfl)
     (try simp only [List.getElem_toArray, List.getElem_cons_zero, List.getElem_cons_succ, Act.put, List.setIfInBounds_toArray, List.set_cons_zero, List.set_cons_succ])
     refine tk 2 ?_ rfl ?_ ?_
     rotate_left
     ·intro wy hSw; (try dsimp only at hSw); (go_simp <;> with_reducible rfl)
     (try simp only [List.getElem_toArray, List.getElem_cons_zero, List.getElem_cons_succ, Act.put, List.setIfInBounds_toArray, List.set_cons_zero, List.set_cons_succ])
     refine tk 4 ?_ rfl ?_ ?_
     rotate_left
     ·intro wy hSw; (try dsimp only at hSw); (go_simp <;> with_reducible rfl)
     (try simp only [List.getElem_toArray, List.getElem_cons_zero, List.getElem_cons_succ, Act.put, List.setIfInBounds_toArray, List.set_cons_zero, List.set_cons_succ])
     refine tk 6 ?_ rfl ?_ ?_
     rotate_left
     ·intro wy hSw; (try dsimp only at hSw); (go_simp <;> with_reducible rfl)
     (try simp only [List.getElem_toArray, List.getElem_cons_zero, List.getElem_cons_succ, Act.put, List.setIfInBounds_toArray, List.set_cons_zero, List.set_cons_succ])
     refine tk 7 ?_ rfl ?_ ?_
     rotate_left
     ·intro wy hSw; (try dsimp only at hSw); (go_simp <;> with_reducible rfl)
     (try simp only [List.getElem_toArray, List.getElem_cons_zero, List.getElem_cons_succ, Act.put, List.setIfInBounds_toArray, List.set_cons_zero, List.set_cons_succ])
     refine tk 8 ?_ rfl ?_ ?_
     rotate_left
     ·intro wy hSw; (try dsimp only at hSw); (go_simp <;> with_reducible rfl)
     (try simp only [List.getElem_toArray, List.getElem_cons_zero, List.getElem_cons_succ, Act.put, List.setIfInBounds_toArray, List.set_cons_zero, List.set_cons_succ])
     refine tk 9 ?_ rfl ?_ ?_
     rotate_left
     ·intro wy hSw; (try dsimp only at hSw); (go_simp <;> with_reducible rfl)
     (try simp only [List.getElem_toArray, List.getElem_cons_zero, List.getElem_cons_succ, Act.put, List.setIfInBounds_toArray, List.set_cons_zero, List.set_cons_succ])
     refine tk 10 ?_ rfl ?_ ?_
     rotate_left
     ·intro wy hSw; (try dsimp only at hSw); (go_simp <;> with_reducible rfl)
     (try simp only [List.getElem_toArray, List.getElem_cons_zero, List.getElem_cons_succ, Act.put, List.setIfInBounds_toArray, List.set_cons_zero, List.set_cons_succ])
     refine wpT_one (k := 3) rfl (by kernel_rfl) (fun K hK => ?_)
     go_simp
     refine (HCP.out _ (by (repeat (first | exact Below.refl _ _ | assumption | refine bel_al ?_ _ | refine Below.drew ?_ | refine bel_dn ?_ _ | refine bel_set ?_ (Nat.le_refl _) _)))).mono ?_
     rintro r w5 ⟨v5, rfl, ho5, h25⟩
     have HO5 := hid ho5
     clear ho5
     refine hK.out _ _ ?_ (fun hHeld => ?_)
     ·exact h25
     clear hK K
     (try simp only [Act.put, List.setIfInBounds_toArray, List.set_cons_zero, List.set_cons_succ])
     refine wpT_one (k := 5) rfl (by kernel_rfl) (fun K hK => ?_)
     refine step_bod (W := w2) (base := w2.heap.size) (l := la) (m := q2) rfl _ _ rfl rfl rfl (HO5.out.below (by (repeat (first | exact Below.refl _ _ | assumption | refine bel_al ?_ _ | refine Below.drew ?_ | refine bel_dn ?_ _ | refine bel_set ?_ (Nat.le_refl _) _)))) HBN.out (by (repeat (first | exact Below.refl _ _ | assumption | refine bel_al ?_ _ | refine Below.drew ?_ | refine bel_dn ?_ _ | refine bel_set ?_ (Nat.le_refl _) _))) (by have := HLN.out; omega) h25.size ?_
     intro v6 w6 ho6 hb6 hl6
     have HO6 := hid ho6
     have h26 := bel_tr2 (w := w2) (by (repeat (first | exact Below.refl _ _ | assumption | refine bel_al ?_ _ | refine Below.drew ?_ | refine bel_dn ?_ _ | refine bel_set ?_ (Nat.le_refl _) _))) hb6 (Nat.le_refl _)
     clear ho6 hb6
     refine hK.out _ _ ?_ (fun hHeld => ?_)
     ·exact h26
     clear hK K
     (try simp only [Act.put, List.setIfInBounds_toArray, List.set_cons_zero, List.set_cons_succ])
     refine wpT_one (k := 11) rfl (by kernel_rfl) (fun K hK => ?_)
     refine step_bod (W := w2) (base := w2.heap.size) (l := la ++ q2) (m := lz) rfl _ _ rfl rfl rfl (HO6.out.below (by (repeat (first | exact Below.refl _ _ | assumption | refine bel_al ?_ _ | refine Below.drew ?_ | refine bel_dn ?_ _ | refine bel_set ?_ (Nat.le_refl _) _)))) HBE.out (by (repeat (first | exact Below.refl _ _ | assumption | refine bel_al ?_ _ | refine Below.drew ?_ | refine bel_dn ?_ _ | refine bel_set ?_ (Nat.le_refl _) _))) (by have := HLN.out; rw [List.length_append]; omega) h26.size ?_
     intro v7 w7 ho7 hb7 hl7
     have h27 := bel_tr2 (w := w2) (by (repeat (first | exact Below.refl _ _ | assumption | refine bel_al ?_ _ | refine Below.drew ?_ | refine bel_dn ?_ _ | refine bel_set ?_ (Nat.le_refl _) _))) hb7 (Nat.le_refl _)
     have HB7 := hid (ho7.bod h27)
     obtain ⟨ao7, cp7, hv7⟩ := ho7.sl
     generalize hn7 : (la ++ q2 ++ lz).length = n7 at hv7
     subst hv7
     have HN7 := hid hn7
     have B7 := hid (bel_tr B2.out h27)
     rw [HEQ.out] at HSO HGO HIT
     clear ho7 hb7 hl7 hn7
     refine hK.out _ _ ?_ (fun hHeld => ?_)
     ·exact h27
     clear hK K
     (try simp only [Act.put, List.setIfInBounds_toArray, List.set_cons_zero, List.set_cons_succ])
     refine wpT_done (by kernel_rfl) ?_
     simp only [List.drop_succ_cons, List.drop_zero]
     go_wp2_with fail
     go_roundw
     case rel => exact ⟨la ++ q2 ++ lz, ao7, n7, cp7, 0, HN7.out.symm, by have := HSO.out.2; have := HN7.out; have := HL.out; omega, Nat.zero_le _, rfl, by go_num, B7, HB7, hid HSO.out.1, HIT, HGO, hid rfl⟩
     case measure =>
      have h1 := HSO.out.2
      rw [HN7.out, ← HL.out] at h1
      simp [RowKit.intOf, slLen]
      omega
   ·have hlt2 : ¬ (i : Int) < (n : Int) := by omega
    have HNO := hid (step_no ((place_end (show ¬ i < lc.length by have := HL.out; omega)).symm.trans HP.out).symm)
    have HST := hid (fold_stop (o := oM) (p := pM) HNO.out)
    go_wp2_with fail
    refine bodyPost_ret (v := .tuple #[.slice ao n cp, .int .i64 0]) (by simp [results, Tryz.results9, go_sem]) rfl ?_
    exact HPE.out _ _ BL.out ⟨_, rfl, by rw [← HFM.out, HST.out]; exact HB.out⟩
 ·have HPE := hid (fun (w' : World) (h1 : Below w.heap.size w w') => show BdPost w l (.returned (.tuple #[.slice none 0 0, .int .i64 (ncM l)])) w' from ⟨h1, by rw [if_neg hz]⟩)
  have hz2 : (ncM l != 0) = true := by simpa using hz
  generalize ncM l = E at *
  clear hz hok hM h
  go_enter Tryz.func9, Tryz.ntmps9
  go_wp2_with fail
  refine HN.out.mono ?_
  rintro r w1 ⟨rfl, hb1⟩
  go_wp2_with fail
  refine bodyPost_ret (v := .tuple #[.slice none 0 0, .int .i64 E]) (by simp [results, Tryz.results9, go_sem]) rfl ?_
  exact HPE.out _ hb1
end Go.Proofs.YtakfineljffoaaaGreatDoor
