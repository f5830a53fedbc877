/-
  BODIES: the bodies' check by the reference, and its Read. Conditions: as each theorem says. Printed by a program of mine.
-/
import Derived.Test.YtakfineljffoaaaGreatDoorGBinReads19
import Derived.Test.YtakfineljffoaaaGreatDoorGBinReads20
import Derived.Test.YtakfineljffoaaaGreatDoorGBinReads3
import Derived.Test.YtakfineljffoaaaGreatDoorGBinReads8
import Derived.Test.YtakfineljffoaaaGreatDoorGBinReads15
import Derived.Test.YtakfineljffoaaaGreatDoorGBinReads16
import Derived.Test.YtakfineljffoaaaGreatDoorGBinReads21
import Derived.Test.YtakfineljffoaaaGreatDoorGBinReads23
import Derived.Test.YtakfineljffoaaaGreatDoorGBinReads26
import Derived.Test.YtakfineljffoaaaGreatDoorGBinReads27
import Derived.Test.YtakfineljffoaaaGreatDoorGBinReads34
import Derived.Test.YtakfineljffoaaaGreatDoorGBinReads35
import Derived.Test.YtakfineljffoaaaGreatDoorGBinReads37
import Derived.Test.YtakfineljffoaaaGreatDoorGBinReads38
import Derived.Deep.Upon
import Derived.Deep.RegionHeld3
namespace Go.Proofs.YtakfineljffoaaaGreatDoor
open Go.RowKit Go.Lib
attribute [local go_sem ↓] Go.wp_at_zero Go.wp_at_succ

theorem ints_none (w : World) : Ints w .i64 (.slice none 0 0) [] := ⟨none, 0, rfl, by simp, by simp, by simp, .inl rfl⟩
theorem nc_all (l : List It) (h : ¬ 200 < l.length) : ncM l = (allM itC It.op l).1 := by
  unfold ncM
  rw [if_neg h]
  exact (all_laws l).1
theorem mk_all (l : List It) (h : (allM itC It.op l).1 = 0) : mkM l = (allM itC It.op l).2 := (all_laws (c := itC) l).2 h _ ⟨by simp, by simp⟩
set_option maxRecDepth 100000 in
set_option maxHeartbeats 4000000 in
theorem rnmatch_any (w : World) (v : Value) (l : List It) (hok : ∀ x ∈ l, ItOk x) (h : BodS w v l) (hM : MaxL w) :
    Calls Tryz.prog 76 #[v] w fun e w' => ∃ va vb, e = .returned (.tuple #[va, vb, .int .i64 (ncM l)]) ∧ Ints w' .i64 va (if ncM l = 0 then (mkM l).1 else []) ∧ Ints w' .i64 vb (if ncM l = 0 then (mkM l).2 else []) ∧ Below w.heap.size w w' := by
  by_cases hbig : 200 < l.length
  · have hn : ncM l = 2 := by unfold ncM; rw [if_pos hbig]
    rw [hn]
    simp only [show ¬ ((2 : Int) = 0) from by decide, if_false]
    obtain ⟨css, _, ⟨ao, cap, rfl, _⟩, _⟩ := h
    have hb2 : (200 : Int) < (l.length : Int) := by omega
    go_enter Tryz.func76, Tryz.ntmps76
    go_wp2_with fail
    go_ret3
    exact ⟨_, _, rfl, ints_none _, ints_none _, Below.refl _ _⟩
  · rw [nc_all l hbig]
    have hb2 : ¬ (200 : Int) < (l.length : Int) := by omega
    have HB := hid (show Below w.heap.size w (w.alloc (.cells #[v, .slice none 0 0, .slice none 0 0] 158)) from (Below.refl _ _).alloc (Nat.le_refl _) _)
    by_cases h0 : 0 < l.length
    · obtain ⟨b, off, cap, rfl, hcap, hrow⟩ := h.rows h0
      have HA := hid (rall_any w l hok (by omega) h0 hM b off cap hcap hrow _ HB.out w.heap.size (Blk.new w _ _ _ rfl) (Nat.le_refl _) (fun E cE S cS => rseq_any w l hok (by omega) hM b off cap hcap w.heap.size E cE S cS hrow 12 0 (by omega)))
      have hmk := mk_all l
      generalize mkM l = mk at *
      generalize allM itC It.op l = fin at *
      obtain ⟨E0, m0⟩ := fin
      simp only at HA hmk ⊢
      by_cases he : E0 = 0
      · have hm := hmk he
        subst hm
        subst he
        simp only [if_true]
        clear hok h hM hrow hmk
        go_enter Tryz.func76, Tryz.ntmps76
        go_wp2_with fail
        refine HA.out.mono ?_
        rintro r w2 ⟨rfl, ⟨E, cE, S, cS, g1⟩, g2⟩
        have K2 := hid g1
        have B2 := hid g2
        clear g1 g2
        have mk1 := K2.out.blk.cell (i := 1) rfl
        have mk2 := K2.out.blk.cell (i := 2) rfl
        have mk1d : w2.drew.cell? ⟨w.heap.size, 1, none⟩ = some (.slice (some ⟨E, 0, none⟩) l.length cE) := mk1
        have mk2d : w2.drew.cell? ⟨w.heap.size, 2, none⟩ = some (.slice (some ⟨S, 0, none⟩) l.length cS) := mk2
        go_wp2_with fail
        go_region_law (fail)
        all_goals
          go_wp2_with fail
          go_ret3
          exact ⟨_, _, rfl, K2.out.drew.en.ints, K2.out.drew.el.ints, drew_bel' (n := 1) B2.out⟩
      · have he2 : (E0 != 0) = true := by simpa using he
        simp only [if_neg he]
        clear hok h hM hrow hmk he
        go_enter Tryz.func76, Tryz.ntmps76
        go_wp2_with fail
        refine HA.out.mono ?_
        rintro r w2 ⟨rfl, _, g2⟩
        have B2 := hid g2
        clear g2
        go_wp2_with fail
        go_ret3
        exact ⟨_, _, rfl, ints_none _, ints_none _, B2.out⟩
    · have hl : l = [] := List.length_eq_zero_iff.1 (by omega)
      subst hl
      rw [show (allM itC It.op ([] : List It)).1 = 3 from rfl]
      simp only [show ¬ ((3 : Int) = 0) from by decide, if_false]
      obtain ⟨css, _, ⟨ao, cap, rfl, _⟩, _⟩ := h
      have HA := hid (rall_nil (w.alloc (.cells #[.slice ao 0 cap, .slice none 0 0, .slice none 0 0] 158)) w.heap.size ao cap (Blk.new w _ _ _ rfl))
      clear hok hM
      go_enter Tryz.func76, Tryz.ntmps76
      go_wp2_with fail
      refine HA.out.mono ?_
      rintro r w2 ⟨rfl, rfl⟩
      go_wp2_with fail
      go_ret3
      exact ⟨_, _, rfl, ints_none _, ints_none _, HB.out⟩
set_option maxRecDepth 100000 in
set_option maxHeartbeats 1000000 in
theorem rncheck_any (w : World) (v : Value) (l : List It) (hok : ∀ x ∈ l, ItOk x) (h : BodS w v l) (hM : MaxL w) :
    Calls Tryz.prog 42 #[v] w fun e w' => e = .returned (.int .i64 (ncM l)) ∧ Below w.heap.size w w' := by
  have HA := hid (rnmatch_any w v l hok h hM)
  obtain ⟨css, _, ⟨ao, cap, rfl, _⟩, _⟩ := h
  generalize ncM l = E at *
  clear hok hM
  go_enter Tryz.func42, Tryz.ntmps42
  go_wp2_with fail
  refine HA.out.mono ?_
  rintro r w2 ⟨va, vb, rfl, _, _, g2⟩
  have B2 := hid g2
  clear g2
  go_wp2_with fail
  go_ret
  exact ⟨rfl, B2.out⟩
end Go.Proofs.YtakfineljffoaaaGreatDoor
namespace Go.Proofs.YtakfineljffoaaaGreatDoor
open Go.RowKit Go.Lib
attribute [local go_sem ↓] Go.wp_at_zero Go.wp_at_succ

set_option maxRecDepth 100000 in
set_option maxHeartbeats 4000000 in
theorem rnread_any (w : World) (t : ByteArray) (ht : t.size ≤ 140737488351232) (hM : MaxL w) :
    Calls Tryz.prog 94 #[.string t] w fun e w' => RdB w (rlM t 201 [] 0 [(-1, 2)]) e w' := by
  generalize hfin : rlM t 201 [] 0 [(-1, 2)] = fin
  have HFIN := hid (show rlM t (201 - ([] : List It).length) [] 0 [(-1, 2)] = fin from hfin)
  clear hfin
  have HM := hid hM
  clear hM
  unfold RdB
  have O1 := hid (OwnB.nil w w.heap.size)
  have B1 := hid (Below.refl w.heap.size w)
  go_enter Tryz.func94, Tryz.ntmps94
  go_wp2_with fail
  go_loopw [5, 6] (fun i j wr => ∃ (l : List It) (a : Nat) (T : Stk), a ≤ t.size ∧ j = .int .i64 a ∧ l.length ≤ 200 ∧ Hid (OwnB wr w.heap.size i l) ∧ Hid (Way l T) ∧ Hid (∀ x ∈ l, ItOk x) ∧ Hid (Below w.heap.size w wr) ∧ Hid (rlM t (201 - l.length) l a T = fin)) (fun i _ _ => 201 - slLen i)
  case atStart => exact ⟨[], 0, _, Nat.zero_le _, rfl, by simp, O1, hid way_nil, hid (fun x hx => by cases hx), B1, HFIN⟩
  case round =>
    obtain ⟨l, a, T, ha, rfl, hl200, OB, WY, LOK, BL, HF⟩ := hrel
    have HLN := hid OB.out.len
    obtain ⟨css, hits, hown⟩ := OB.out
    obtain ⟨ao, cap, rfl, -⟩ := own_sl hown
    have ITS := hid hits
    have OWN := hid hown
    clear hits hown
    have hf : 201 - l.length = (200 - l.length) + 1 := by omega
    have HF2 := hid (show rlM t (200 - l.length + 1) l a T = fin from by rw [← hf]; exact HF.out)
    have HBAD := hid (fun h => (rl_bad (t := t) (f := 200 - l.length) (a := a) (l := l) (T := T) h).symm.trans HF2.out)
    have HLAR := hid (fun h h2 => (rl_large (t := t) (f := 200 - l.length) (a := a) (l := l) (T := T) h h2).symm.trans HF2.out)
    have HWRO := hid (fun h h2 h3 => (rl_wrong (t := t) (f := 200 - l.length) (a := a) (l := l) (T := T) h h2 h3).symm.trans HF2.out)
    have HOVE := hid (fun h h2 h3 h4 => (rl_over (t := t) (f := 200 - l.length) (a := a) (l := l) (T := T) h h2 h3 h4).symm.trans HF2.out)
    have HNEX := hid (fun h h2 h3 h4 => (rl_next (t := t) (f := 200 - l.length) (a := a) (l := l) (T := T) h h2 h3 h4).symm.trans HF2.out)
    have HWEL := hid (rd_well (left t a))
    have HSTP := hid (rd_step t a ha)
    have HP := hid (fun wx (h : MaxL wx) => rread_any wx (left t a) (by rw [left_size]; omega) h)
    unfold RdP at HP
    unfold rdX at HWRO HOVE HNEX HWEL
    generalize rdI (left t a) = q at *
    obtain ⟨op, ⟨A, C, xs⟩, s⟩ := q
    simp only at HBAD HLAR HWRO HOVE HNEX HWEL HSTP HP
    clear hf HF HF2 HFIN
    have hk1 : (a : Int) ≤ (t.size : Int) := by omega
    have hk0 : (0 : Int) ≤ (a : Int) := by omega
    have hx : ¬ (9223372036854775807 < t.size) := by omega
    have hsz := left_size t a
    by_cases hb : s.2 = 0
    · simp only [if_pos hb] at HP
      obtain ⟨k, hk2, hk3, hk4⟩ := HSTP.out hb
      rw [hk2] at HP
      have HLR2 := hid (HLAR.out hb)
      have HWR2 := hid (HWRO.out hb)
      have HOV2 := hid (HOVE.out hb)
      have HNE2 := hid (HNEX.out hb)
      have HOK := hid (HWEL.out hb)
      rw [← hk3] at HOV2 HNE2
      clear HBAD HLAR HWRO HOVE HNEX HWEL HSTP hb hk2 hk3 hsz
      unfold left at HP
      go_wp2_with fail
      refine (HP.out _ (HM.out.below BL.out)).mono ?_
      rintro r w2 ⟨u, ⟨rfl, ho⟩, g2⟩
      obtain ⟨au, cu, rfl, -⟩ := own_sl ho
      have hsw := BL.out.size
      have g3 : Below w2.heap.size w2 (w2.alloc (.cells #[.int .u8 op, .int .i64 A, .int .i64 C, .slice au xs.length cu] 97)) := (Below.refl _ _).alloc (Nat.le_refl _) _
      have g4 : Below wr.heap.size wr (w2.alloc (.cells #[.int .u8 op, .int .i64 A, .int .i64 C, .slice au xs.length cu] 97)) := g2.trans (g3.mono g2.size)
      have X3 := hid (Blk.new w2 #[.int .u8 op, .int .i64 A, .int .i64 C, .slice au xs.length cu] 97 _ rfl)
      have U3 := hid (show OwnI (w2.alloc (.cells #[.int .u8 op, .int .i64 A, .int .i64 C, .slice au xs.length cu] 97)) w.heap.size .i64 2 (.slice au xs.length cu) xs from own_mono' (OwnI.below ho g3) hsw)
      have K3 := hid (KI.below g4)
      have IT3 := hid (ITS.out.ki K3.out)
      have OW3 := hid (K3.out.own (.inl rfl) OWN.out)
      have B3 := hid (BL.out.trans (g4.mono hsw))
      clear ho g2 g3 g4 hsw
      have x0 := X3.out.cell (i := 0) rfl
      have x1 := X3.out.cell (i := 1) rfl
      have x2 := X3.out.cell (i := 2) rfl
      have x3 := X3.out.cell (i := 3) rfl
      by_cases h200 : l.length = 200
      · have hz : ((l.length : Int) == 200) = true := by rw [h200]; rfl
        have HR := hid (HLR2.out h200)
        have HO := hid (OwnB.nil (w2.alloc (.cells #[.int .u8 op, .int .i64 A, .int .i64 C, .slice au xs.length cu] 97)) w.heap.size)
        clear h200
        go_wp2_with fail
        go_ret3
        have hr := HR.out
        subst hr
        exact ⟨_, rfl, HO.out, B3.out⟩
      · have hz : ((l.length : Int) == 200) = false := by simp; omega
        have HW3 := hid (HWR2.out h200)
        have HO3 := hid (HOV2.out h200)
        have HN3 := hid (HNE2.out h200)
        have hlt : l.length < 200 := by omega
        have HCK := hid (WY.out.check (x := ⟨op, A, C, xs⟩) HOK.out.2.1 hlt)
        have HWN := hid (fun h3 h4 => WY.out.next (x := ⟨op, A, C, xs⟩) HOK.out.2.1 h3 h4)
        have HER := hid (wn_errs T op l.length)
        have LOK2 := hid (show ∀ x ∈ l ++ [(⟨op, A, C, xs⟩ : It)], ItOk x from fun x hx => by
          rcases List.mem_append.1 hx with h | h
          · exact LOK.out x h
          · rw [List.mem_singleton.1 h]; exact HOK.out.1)
        simp only at HCK HWN
        clear h200 HLR2 HWR2 HOV2 HNE2
        generalize wnext (T, false) op l.length = nx at *
        obtain ⟨⟨is, e⟩, T2, ov2⟩ := nx
        simp only at HCK HWN HER HW3 HO3 HN3
        have hsz4 := B3.out.size
        go_wp2_with (at_builtin; go_must (refine app_one elem_insv (base := w.heap.size) (cs := [.int .u8 op, .int .i64 A, .int .i64 C, .slice au xs.length cu]) rfl _ _ rfl rfl rfl (by simp) OW3.out rfl (by intro c hc; simp at hc; rcases hc with rfl | rfl | rfl | rfl <;> rfl) (by omega) (by omega) hsz4 ?_); intro v' w5 ho hb2 hg)
        have O5 := hid (OwnB.push IT3.out OW3.out U3.out hg.1 ho)
        have B5 := hid (B3.out.trans hb2)
        have HL5 := hid O5.out.len
        obtain ⟨ao5, cap5, rfl, -⟩ := own_sl ho
        have HNC := hid (rncheck_any w5 _ _ LOK2.out O5.out.bod (HM.out.below B5.out))
        clear ho hb2 hg hsz4
        by_cases he : e = 0
        · subst he
          have HO4 := hid (HO3.out rfl)
          have HN4 := hid (HN3.out rfl)
          have HW4 := hid (HWN.out rfl)
          cases ov2 with
          | true =>
            have hc : ncM (l ++ [(⟨op, A, C, xs⟩ : It)]) = 0 := by rw [HCK.out]; rfl
            rw [hc] at HNC
            have HR := hid (HO4.out rfl)
            clear hc HCK HWN HER HW3 HO3 HN3 HO4 HN4 HW4
            go_wp2_with fail
            refine HNC.out.mono ?_
            rintro r w6 ⟨rfl, g1⟩
            have B6 := hid (B5.out.trans (g1.mono B5.out.size))
            have O6 := hid (O5.out.below g1)
            clear g1
            go_wp2_with fail
            go_ret3
            have hr := HR.out
            subst hr
            exact ⟨_, rfl, O6.out, B6.out⟩
          | false =>
            have hc : ncM (l ++ [(⟨op, A, C, xs⟩ : It)]) = 3 := by rw [HCK.out]; rfl
            rw [hc] at HNC
            have HR := hid (HN4.out rfl)
            have HW5 := hid (HW4.out rfl)
            clear hc HCK HWN HER HW3 HO3 HN3 HO4 HN4 HW4
            go_wp2_with fail
            refine HNC.out.mono ?_
            rintro r w6 ⟨rfl, g1⟩
            have B6 := hid (B5.out.trans (g1.mono B5.out.size))
            have O6 := hid (O5.out.below g1)
            clear g1
            go_wp2_with fail
            go_roundw
            case rel =>
              refine ⟨l ++ [⟨op, A, C, xs⟩], a + k, T2, hk4, by go_num, by simp; omega, O6, HW5, LOK2, B6, hid ?_⟩
              rw [show 201 - (l ++ [(⟨op, A, C, xs⟩ : It)]).length = 200 - l.length by simp]
              exact HR.out
            case measure => rw [HL5.out, HLN.out]; simp; omega
        · have hc : ncM (l ++ [(⟨op, A, C, xs⟩ : It)]) = e := by rw [HCK.out, if_pos he]
          rw [hc] at HNC
          have he0 : (e == 0) = false := by simpa using he
          have he3 : (e == 3) = false := by
            have := HER.out
            simp; omega
          have HR := hid (HW3.out he)
          clear hc he HCK HWN HER HW3 HO3 HN3
          go_wp2_with fail
          refine HNC.out.mono ?_
          rintro r w6 ⟨rfl, g1⟩
          have B6 := hid (B5.out.trans (g1.mono B5.out.size))
          have HO := hid (OwnB.nil w6 w.heap.size)
          clear g1
          go_wp2_with fail
          go_ret3
          have hr := HR.out
          subst hr
          exact ⟨_, rfl, HO.out, B6.out⟩
    · simp only [if_neg hb] at HP
      have hbn : (s.2 != 0) = true := by simpa using hb
      have HR := hid (HBAD.out hb)
      clear hb
      unfold left at HP
      go_wp2_with fail
      refine (HP.out _ (HM.out.below BL.out)).mono ?_
      rintro r w2 ⟨u, rfl, g2⟩
      have B2 := hid ((BL.out.trans (g2.mono BL.out.size)).alloc (Nat.le_trans BL.out.size g2.size) (.cells #[.int .u8 0, .int .i64 0, .int .i64 0, .slice none 0 0] 97))
      have HO := hid (OwnB.nil (w2.alloc (.cells #[.int .u8 0, .int .i64 0, .int .i64 0, .slice none 0 0] 97)) w.heap.size)
      clear g2
      go_wp2_with fail
      go_ret3
      have hr := HR.out
      subst hr
      exact ⟨_, rfl, HO.out, B2.out⟩
end Go.Proofs.YtakfineljffoaaaGreatDoor
namespace Go.Proofs.YtakfineljffoaaaGreatDoor
open Go.RowKit Go.Lib

/-- a function's code being read: the piece's cursor D, the function's block X -/
structure CX (w0 w : World) (D X : Nat) (all : Int) (s : SB) (u v : Value) : Prop where
  cu : CuB w D all s
  x : Blk w X 66 [.int .i64 0, u, v]
  tt : Touch (fun k => k = D ∨ k = X) w0 w
  ne : D ≠ X
section
variable {w0 w w' : World} {D X : Nat} {all : Int} {s s' : SB} {u v : Value}
theorem CX.next (h : CX w0 w D X all s u v) (g : CuB w' D all s') (ht : ToC D w w') : CX w0 w' D X all s' u v := ⟨g, h.x.touch ht (fun e => h.ne e.symm), h.tt.trans (ht.mono (fun _ _ e => .inl e)), h.ne⟩
theorem CX.below (h : CX w0 w D X all s u v) (hb : Below w.heap.size w w') : CX w0 w' D X all s u v := ⟨h.cu.below hb, h.x.below hb, h.tt.trans (Touch.of_below hb), h.ne⟩
theorem CX.setV (h : CX w0 w D X all s u v) (v' : Value) : CX w0 (w.setCell ⟨X, 2, none⟩ v') D X all s u v' := ⟨h.cu.other (a := ⟨X, 2, none⟩) (fun e => h.ne e.symm) v', h.x.set 2 v', h.tt.trans (Touch.setCell (a := ⟨X, 2, none⟩) (.inr rfl) v'), h.ne⟩
theorem CX.pushK {u' : Value} {xs ys : List Int} (h : CX w0 w D X all s u v) (ho : OwnI w w0.heap.size .u8 68 u xs) (hg : w.grownBy w' u.ownBlock) (ho' : OwnI w' w0.heap.size .u8 68 u' ys) :
    (w'.cell? ⟨X, 1, none⟩ = some u ∧ w'.frozen? ⟨X, 1, none⟩ = false) ∧ CX w0 (w'.setCell ⟨X, 1, none⟩ u') D X all s u' v ∧ OwnI (w'.setCell ⟨X, 1, none⟩ u') w0.heap.size .u8 68 u' ys := by
  have k : KT 68 w w' := KT.grown hg ho
  have hx := k.blk h.x rfl
  have k2 : KT 66 w' (w'.setCell ⟨X, 1, none⟩ u') := KT.set hx u'
  have h1 : Touch (fun k => k = D ∨ k = X) w0 w' := h.tt.trans' (Touch.grown (F := fun j => w0.heap.size ≤ j) hg (fun j hj => (World.ownsRow.lt ho j hj).1)) (fun i hi e => by omega)
  exact ⟨⟨hx.cell (i := 1) rfl, hx.free 1⟩, ⟨(k.blk h.cu rfl).other (a := ⟨X, 1, none⟩) (fun e => h.ne e.symm) u', hx.set 1 u', h1.trans (Touch.setCell (a := ⟨X, 1, none⟩) (.inr rfl) u'), h.ne⟩, k2.own ho' rfl⟩
end
/-- the instructions read off what is left, by the reference -/
theorem rnread_at (t : ByteArray) (ht : t.size ≤ 140737488351232) : ∃ q : Int × Nat × List It, (∀ xs, codC xs (t, 0) = codZ xs q (t, 0)) ∧ q.2.1 ≤ t.size ∧
    ∀ wx, MaxL wx → Calls Tryz.prog 94 #[.string t] wx fun e w' => RdB wx q e w' :=
  ⟨rlM t 201 [] 0 [(-1, 2)], fun xs => by unfold codC; rw [if_pos rfl], rl_le t 201 [] 0 [(-1, 2)], fun wx hM => rnread_any wx t ht hM⟩
theorem codZ_skip (xs : List Int) (q : Int × Nat × List It) (t : ByteArray) : codZ xs q (t, 0) = ((xs, q.2.2), (skipM q.2.1 q.1 (t, 0)).2) := by
  have e : (skipM q.2.1 q.1 (t, 0)).2 = if q.1 ≠ 0 then (t, q.1) else (t.extract q.2.1 t.size, 0) := by
    unfold skipM
    rw [if_neg (show ¬ ((t, (0 : Int)).2 ≠ 0) from fun h => h rfl)]
    split <;> rfl
  rw [e]
  rfl
theorem codC_bad {xs : List Int} {s : SB} (h : s.2 ≠ 0) : codC xs s = ((xs, []), s) := if_neg h
set_option maxRecDepth 100000 in
set_option maxHeartbeats 8000000 in
theorem ccode1_any (WW w : World) (D X : Nat) (all : Int) (s : SB) (hM : MaxL WW) (hW : Below WW.heap.size WW w) (hWD : WW.heap.size ≤ D) (hWX : WW.heap.size ≤ X) (hne : D ≠ X) (h : CuB w D all s) (hs : okSc s) (hx : Blk w X 66 [.int .i64 0, .slice none 0 0, .slice none 0 0]) :
    Calls Tryz.prog 93 #[.pointer (some ⟨D, 0, none⟩), .pointer (some ⟨X, 0, none⟩)] w fun e w' => e = .returned (.tuple #[]) ∧ ∃ u v, CX w w' D X all (codA s).2 u v ∧ OwnI w' w.heap.size .u8 68 u (codA s).1.1 ∧ OwnB w' w.heap.size v (codA s).1.2 := by
  have A0 := hid (show CX w w D X all s (.slice none 0 0) (.slice none 0 0) from ⟨h, hx, Touch.refl _ _, hne⟩)
  have S0 := hid hs
  have HML := hid (fun (wx : World) (ht : Touch (fun k => k = D ∨ k = X) w wx) => hM.below (hW.trans (ht.below hW.size (fun k hk => by rcases hk with rfl | rfl; exact hWD; exact hWX))))
  clear h hx hs hM hW hWD hWX hne
  obtain ⟨P, hP⟩ : ∃ P, codA s = P := ⟨_, rfl⟩
  have HM0 := hid hP.symm
  rw [hP]
  clear hP
  have hcf := cntM_facts 16 (by decide) s
  go_enter Tryz.func93, Tryz.ntmps93
  go_wp2_with fail
  refine (ccount_any _ D all s 16 A0.out.cu S0.out).mono ?_
  rintro r w1 ⟨hr, h1, t1⟩
  have hle := cnt_le 16 (by decide) s
  obtain ⟨v1, s1, hv1⟩ : ∃ vz sz, cntM 16 s = (vz, sz) := ⟨_, _, rfl⟩
  have HM1 := hid (show P = codB v1.toNat [] s1 from HM0.out.trans (by unfold codA; rw [hv1]))
  rw [hv1] at hr h1 hle
  rw [hv1] at hcf
  subst hr
  have A1 := hid (A0.out.next h1 t1)
  have S1 := hid (S0.out.le hle)
  clear h1 t1 hle hv1
  obtain ⟨N, rfl⟩ := Int.eq_ofNat_of_zero_le hcf.1
  have hN : N ≤ 16 := by have := hcf.2.1; omega
  have HM1 := hid (show P = codB N [] s1 from HM1.out)
  have O1 := hid (OwnI.nil w1 w.heap.size .u8 68)
  clear hcf
  go_wp2_with fail
  go_loopw [11] (fun i wr => ∃ (j : Nat) (u : Value) (xs : List Int) (sz : SB), j ≤ N ∧ i = .int .i64 j ∧ xs.length ≤ 16 ∧ Hid (okSc sz) ∧ Hid (P = codB (N - j) xs sz) ∧ Hid (CX w wr D X all sz u (.slice none 0 0)) ∧ Hid (OwnI wr w.heap.size .u8 68 u xs)) (fun i _ => N - (RowKit.intOf i).toNat)
  case atStart => exact ⟨0, _, [], s1, Nat.zero_le _, rfl, Nat.zero_le _, S1, HM1, A1, O1⟩
  case round =>
    clear A0 A1 O1 HM1 S1 HM0
    obtain ⟨j, u, xs, s6, hj, rfl, hxl, S6, HM6, A6, O6⟩ := hrel
    by_cases hlt : j < N
    · have HM6 := hid (show P = LB (N - (j + 1)) (grpM xs s6) from HM6.out.trans (by rw [show N - j = N - (j + 1) + 1 by omega, codB_succ]))
      obtain ⟨bo, cbp, rfl, _⟩ := own_sl O6.out
      have HXL := hid hxl
      have hnf := numM_facts s6
      clear hxl
      go_wp2_with fail
      refine (cnum_any _ D all s6 A6.out.cu S6.out).mono ?_
      rintro r w7 ⟨hr, h7, t7⟩
      have hle := num_le s6
      obtain ⟨v7, s7, hv7⟩ : ∃ vz sz, numM s6 = (vz, sz) := ⟨_, _, rfl⟩
      have HM7 := hid (show P = LB (N - (j + 1)) (grpA xs v7 s7) from HM6.out.trans (by unfold grpM; rw [hv7]))
      rw [hv7] at hr h7 hle
      rw [hv7] at hnf
      subst hr
      have A7 := hid (A6.out.next h7 t7)
      have S7 := hid (S6.out.le hle)
      have O7 := hid ((KT.touch A6.out.cu t7).own O6.out rfl)
      clear h7 t7 hle hv7
      obtain ⟨N7, rfl⟩ := Int.eq_ofNat_of_zero_le hnf.1
      have hn7 : (N7 : Int) < 4294967296 := hnf.2.1
      clear hnf
      go_wp2_with fail
      refine (ckind_any _ D all s7 A7.out.cu S7.out).mono ?_
      rintro r w8 ⟨hr, h8, t8⟩
      have hle := knd_le s7
      obtain ⟨v8, s8, hv8⟩ : ∃ vz sz, kndM s7 = (vz, sz) := ⟨_, _, rfl⟩
      have HM8 := hid (show P = LB (N - (j + 1)) (grpB xs N7 v8 s8) from HM7.out.trans (by unfold grpA; rw [hv8]))
      rw [hv8] at hr h8 hle
      subst hr
      have A8 := hid (A7.out.next h8 t8)
      have S8 := hid (S7.out.le hle)
      have O8 := hid ((KT.touch A7.out.cu t8).own O7.out rfl)
      clear h8 t8 hle hv8
      have x1 := A8.out.x.cell (i := 1) rfl
      have hxl := HXL.out
      go_wp2_with fail
      clear hxl
      refine (csay_as _ D all s8 _ (decide (16 < (xs.length : Int) + N7)) 2 A8.out.cu (by first | rfl | (rw [Bool.eq_iff_iff]; simp <;> omega))).mono ?_
      rintro r w9 ⟨hr, h9, t9⟩
      have hle := say_le (decide (16 < (xs.length : Int) + N7)) 2 s8
      obtain ⟨s9, hv9⟩ : ∃ sz, sayM (decide (16 < (xs.length : Int) + N7)) 2 s8 = sz := ⟨_, rfl⟩
      have HM9 := hid (show P = LB (N - (j + 1)) (grpC xs N7 v8 s9) from HM8.out.trans (by unfold grpB; rw [hv9]))
      rw [hv9] at h9 hle
      subst hr
      have A9 := hid (A8.out.next h9 t9)
      have S9 := hid (S8.out.le hle)
      have O9 := hid ((KT.touch A8.out.cu t9).own O8.out rfl)
      have HQ := hid (fun hz : s9.2 = 0 => show (xs.length : Int) + N7 ≤ 16 from by
        rw [← hv9] at hz
        exact Classical.byContradiction fun hc => by
          by_cases hb8 : s8.2 = 0
          · rw [show decide (16 < (xs.length : Int) + N7) = true from decide_eq_true (by omega), say_yes hb8] at hz
            exact absurd hz (by show (2 : Int) ≠ 0; decide)
          · rw [say_on hb8] at hz
            exact hb8 hz)
      clear h9 t9 hle hv9
      clear x1 A6 A7 O6 O7 A8 O8
      by_cases hz9 : s9.2 = 0
      · have hx7 : xs.length + N7 ≤ 16 := by have := HQ.out hz9; omega
        have HX7 := hid hx7
        have HM9 := hid (show P = LB (N - (j + 1)) (xs ++ List.replicate N7 v8, s9) from HM9.out.trans (by unfold grpC; rw [if_pos hz9, Int.toNat_natCast]))
        have hN7 : N7 ≤ 16 := by omega
        have hz2 : (s9.2 == 0) = true := by simpa using hz9
        have HZ9 := hid hz9
        clear hx7 HQ hz9
        go_wp2_with fail
        go_loopw [5] (fun i wr => ∃ (l : Nat) (u : Value), l ≤ N7 ∧ i = .int .i64 l ∧ Hid (CX w wr D X all s9 u (.slice none 0 0)) ∧ Hid (OwnI wr w.heap.size .u8 68 u (xs ++ List.replicate l v8))) (fun i _ => N7 - (RowKit.intOf i).toNat)
        case atStart => exact ⟨0, _, Nat.zero_le _, rfl, A9, hid (by rw [List.replicate_zero, List.append_nil]; exact O9.out)⟩
        case round =>
          clear A9 O9
          obtain ⟨l, u, hl, rfl, A9, O9⟩ := hrel
          have d2 := A9.out.cu.cell (i := 2) rfl
          by_cases hlt3 : l < N7
          · obtain ⟨ys, hys⟩ : ∃ ys, xs ++ List.replicate l v8 = ys := ⟨_, rfl⟩
            have hyl : ys.length ≤ 16 := by have := HX7.out; rw [← hys]; simp; omega
            have HYS := hid (show xs ++ List.replicate (l + 1) v8 = ys ++ [v8] from by rw [← hys, List.replicate_succ', List.append_assoc])
            rw [hys] at O9
            obtain ⟨co, ccp, rfl, _⟩ := own_sl O9.out
            have hsz := A9.out.tt.size
            have x1 := A9.out.x.cell (i := 1) rfl
            have HYL := hid hyl
            have hl3 : (l : Int) < (N7 : Int) := by omega
            clear hys hyl
            go_wp2_with (at_builtin; go_must (refine app_int elem_kindv (y := v8) rfl _ _ rfl rfl rfl rfl O9.out (by have := HYL.out; omega) (by have := HYL.out; omega) hsz ?_); intro v' w10 ho hb10 hg; obtain ⟨a10, c10, rfl, _⟩ := own_sl ho; have CP := hid (A9.out.pushK O9.out hg.1 ho); have y0 := CP.out.1.1; have yf := CP.out.1.2; clear ho hb10 hg)
            have C2 := CP.out.2
            rw [show (ys ++ [v8]).length = ys.length + 1 by simp] at C2
            have C2 := hid C2
            clear CP
            go_roundw
            case rel => exact ⟨l + 1, _, hlt3, by go_num, hid C2.out.1, hid (by rw [HYS.out]; exact C2.out.2)⟩
            case measure => simp [RowKit.intOf]; omega
          have hl3 : ¬ (l : Int) < (N7 : Int) := by omega
          have hle : l = N7 := by omega
          have HLE := hid hle
          clear hle
          go_wp2_with fail
          go_roundw
          case rel => exact ⟨j + 1, u, xs ++ List.replicate N7 v8, s9, hlt, by go_num, by have := HX7.out; simp; omega, S9, hid HM9.out, A9, by rw [← HLE.out]; exact O9⟩
          case measure => simp [RowKit.intOf]; omega
      · have HM9 := hid (show P = LB (N - (j + 1)) (xs, s9) from HM9.out.trans (by rw [grpC_st hz9]))
        have hz2 : (s9.2 == 0) = false := by simpa using hz9
        clear HQ hz9
        go_wp2_with fail
        go_loopw [5] (fun i wr => ∃ l : Nat, l ≤ N7 ∧ i = .int .i64 l ∧ Hid (CX w wr D X all s9 (.slice bo xs.length cbp) (.slice none 0 0)) ∧ Hid (OwnI wr w.heap.size .u8 68 (.slice bo xs.length cbp) xs)) (fun i _ => N7 - (RowKit.intOf i).toNat)
        case atStart => exact ⟨0, Nat.zero_le _, rfl, A9, O9⟩
        case round =>
          clear A9 O9
          obtain ⟨l, hl, rfl, A9, O9⟩ := hrel
          have d2 := A9.out.cu.cell (i := 2) rfl
          by_cases hl3 : (l : Int) < (N7 : Int)
          · go_wp2_with fail
            go_roundw
            case rel => exact ⟨j + 1, _, xs, s9, hlt, by go_num, HXL.out, S9, hid HM9.out, A9, O9⟩
            case measure => simp [RowKit.intOf]; omega
          · go_wp2_with fail
            go_roundw
            case rel => exact ⟨j + 1, _, xs, s9, hlt, by go_num, HXL.out, S9, hid HM9.out, A9, O9⟩
            case measure => simp [RowKit.intOf]; omega
    have HM6 := hid (show P = codC xs s6 from HM6.out.trans (by rw [show N - j = 0 by omega]; rfl))
    have d2 := A6.out.cu.cell (i := 2) rfl
    by_cases hz6 : s6.2 = 0
    · have hz2 : (s6.2 == 0) = true := by simpa using hz6
      obtain ⟨t6, b6⟩ := s6
      simp only at hz6
      subst hz6
      have hs6 := S6.out
      unfold okSc at hs6
      obtain ⟨⟨qe, qk, ql⟩, hq1, hq2, hq3⟩ := rnread_at t6 hs6
      have HM7 := hid (show P = codZ xs (qe, qk, ql) (t6, 0) from HM6.out.trans (hq1 xs))
      have HP := hid (hq3 _ (HML.out _ A6.out.tt))
      have d0 := A6.out.cu.cell (i := 0) rfl
      have HQ2 := hid hq2
      clear hq1 hq2 hq3 hs6
      go_wp2_with fail
      refine HP.out.mono ?_
      rintro r w7 ⟨v7, rfl, ho7, hb7⟩
      have A7 := hid (A6.out.below hb7)
      have O7 := hid ((KT.below (bad := 58) hb7).own O6.out rfl)
      have Q7 := hid (show OwnB w7 w.heap.size v7 ql from ho7.mono A6.out.tt.size)
      clear ho7 hb7 d0 d2
      go_wp2_with fail
      refine (cskip_any _ D all (t6, 0) qk qe A7.out.cu (fun _ _ => HQ2.out) S6.out).mono ?_
      rintro r w8 ⟨rfl, h8, t8⟩
      obtain ⟨s8, hs8⟩ : ∃ z, (skipM qk qe (t6, 0)).2 = z := ⟨_, rfl⟩
      have HM8 := hid (show P = ((xs, ql), s8) from HM7.out.trans ((codZ_skip xs (qe, qk, ql) t6).trans (by rw [hs8])))
      rw [hs8] at h8
      have A8 := hid (A7.out.next h8 t8)
      have O8 := hid ((KT.touch A7.out.cu t8).own O7.out rfl)
      have Q8 := hid (Q7.out.ktG (KT.touch A7.out.cu t8) rfl rfl)
      clear h8 t8 hs8
      obtain ⟨css8, -, h8⟩ := Q8.out
      obtain ⟨vo, vc, rfl, _⟩ := own_sl h8
      have x2 := A8.out.x.cell (i := 2) rfl
      have xf := A8.out.x.free
      have A9 := hid (A8.out.setV (.slice vo ql.length vc))
      have O9 := hid ((KT.set (i := 2) A8.out.x (.slice vo ql.length vc)).own O8.out rfl)
      have Q9 := hid (Q8.out.ktG (KT.set (i := 2) A8.out.x (.slice vo ql.length vc)) rfl rfl)
      clear h8
      go_wp2_with fail
      first | go_end0 | refine bodyPost_ret (results_none rfl _ _ _) rfl ?_
      exact ⟨rfl, u, _, by rw [HM8.out]; exact A9.out, by rw [HM8.out]; exact O9.out, by rw [HM8.out]; exact Q9.out⟩
    · have hz2 : (s6.2 == 0) = false := by simpa using hz6
      have HM7 := hid (show P = ((xs, []), s6) from HM6.out.trans (codC_bad hz6))
      clear hz6
      go_wp2_with fail
      first | go_end0 | refine bodyPost_ret (results_none rfl _ _ _) rfl ?_
      exact ⟨rfl, u, .slice none 0 0, by rw [HM7.out]; exact A6.out, by rw [HM7.out]; exact O6.out, by rw [HM7.out]; exact OwnB.nil _ _⟩
end Go.Proofs.YtakfineljffoaaaGreatDoor
namespace Go.Proofs.YtakfineljffoaaaGreatDoor
open Go.RowKit Go.Lib

theorem grp_le (xs : List Int) (s : SB) : (grpM xs s).2.1.size ≤ s.1.size := by
  unfold grpM grpA grpB grpC
  split
  · exact Nat.le_trans (say_le _ _ _) (Nat.le_trans (knd_le _) (num_le _))
  · exact Nat.le_trans (say_le _ _ _) (Nat.le_trans (knd_le _) (num_le _))
theorem codC_le (xs : List Int) (s : SB) : (codC xs s).2.1.size ≤ s.1.size := by
  unfold codC
  split
  · unfold codZ
    simp only
    split
    · exact Nat.le_refl _
    · simp only [ByteArray.size_extract]; omega
  · exact Nat.le_refl _
theorem codB_le (n : Nat) : ∀ (xs : List Int) (s : SB), (codB n xs s).2.1.size ≤ s.1.size := by
  induction n with
  | zero => intro xs s; exact codC_le xs s
  | succ n ih => intro xs s; exact Nat.le_trans (ih _ _) (grp_le xs s)
theorem codA_le (s : SB) : (codA s).2.1.size ≤ s.1.size := Nat.le_trans (codB_le _ _ _) (cnt_le 16 (by decide) s)
theorem with_fst {α : Type} {F : SB → α × SB} {d : α} {s : SB} (h : (pieM s).2.2 = 0) : (withM F d s).1 = (F ((pieM s).1, 0)).1 := by
  unfold withM withB
  rw [if_neg (fun g => g h)]
set_option maxRecDepth 100000 in
theorem enter_code1 (args : Array Value) (wx : World) : (callFunc 93 args).run Tryz.prog wx = .ok (.enter 93 args) wx := by
  first | kernel_rfl | simp [go_sem]
set_option maxRecDepth 100000 in
theorem code_results (W : World) (R : Nat) (a b c : Value) (tmps : Array Value) (h2 : tmps.getD 2 undef = .pointer (some ⟨R, 0, none⟩)) (h : Blk W R 66 [a, b, c]) :
    (results Tryz.f61 tmps).run Tryz.prog W = .ok (.agg #[a, b, c]) W := by
  have q0 := h.cell (i := 0) rfl
  have q1 := h.cell (i := 1) rfl
  have q2 := h.cell (i := 2) rfl
  simp only [Array.getD_eq_getD_getElem?] at h2
  simp [results, Tryz.results61, go_sem, h2, q0, q1, q2]
abbrev fZ : Obj := .cells #[.int .i64 0, .slice none 0 0, .slice none 0 0] 66
set_option maxRecDepth 100000 in
set_option maxHeartbeats 8000000 in
theorem ccode_any (WW w : World) (B : Nat) (all : Int) (s : SB) (hM : MaxL WW) (hW : Below WW.heap.size WW w) (hWB : WW.heap.size ≤ B) (h : CuB w B all s) (hs : okSc s) :
    Calls Tryz.prog 61 #[.pointer (some ⟨B, 0, none⟩)] w fun e w' => ∃ u v, e = .returned (.agg #[.int .i64 0, u, v]) ∧ CuB w' B all (codeM s).2 ∧ OwnI w' w.heap.size .u8 68 u (codeM s).1.1 ∧ OwnB w' w.heap.size v (codeM s).1.2 ∧ ToC B w w' := by
  have hlt := h.lt
  have hmf : ∀ (fn : Go.Fn) (first cap : Array Value) (w : World), (Instr.makeFunc fn first cap).run Tryz.prog w = .ok (.func fn first cap) w := fun _ _ _ _ => rfl
  have B2 : Below w.heap.size w ((w.alloc fZ).alloc fZ) := ((Below.refl _ _).alloc (Nat.le_refl _) _).alloc (by simp) _
  have C2 := hid (h.below B2)
  have R2 := hid ((Blk.new w #[.int .i64 0, .slice none 0 0, .slice none 0 0] 66 _ rfl).alloc fZ)
  have X2 := hid (Blk.new (w.alloc fZ) #[.int .i64 0, .slice none 0 0, .slice none 0 0] 66 (w.heap.size + 1) (by simp))
  have hW2 : Below WW.heap.size WW ((w.alloc fZ).alloc fZ) := hW.trans (B2.mono hW.size)
  have hz2 : ((w.alloc fZ).alloc fZ).heap.size = w.heap.size + 1 + 1 := by simp
  have hWw : WW.heap.size ≤ w.heap.size := hW.size
  have HBL := hid B2
  have HC := hid (cwithin_any (α := Cd) ((w.alloc fZ).alloc fZ) B all s 93 #[.pointer (some ⟨w.heap.size + 1, 0, none⟩)] codA ([], []) (fun k => k = w.heap.size + 1)
    (fun wx => Blk wx w.heap.size 66 [.int .i64 0, .slice none 0 0, .slice none 0 0] ∧ Blk wx (w.heap.size + 1) 66 [.int .i64 0, .slice none 0 0, .slice none 0 0])
    (fun p wx => Blk wx w.heap.size 66 [.int .i64 0, .slice none 0 0, .slice none 0 0] ∧ ∃ u v, Blk wx (w.heap.size + 1) 66 [.int .i64 0, u, v] ∧ OwnI wx w.heap.size .u8 68 u (codA (p, 0)).1.1 ∧ OwnB wx w.heap.size v (codA (p, 0)).1.2)
    enter_code1 C2.out hs (by omega) codA_le ⟨R2.out, X2.out⟩
    (fun wa wb k g => ⟨k.blk g.1 rfl, k.blk g.2 rfl⟩)
    (fun p wa wb k g => by
      obtain ⟨g1, u, v, g2, g3, g4⟩ := g
      exact ⟨k.blk g1 rfl, u, v, k.blk g2 rfl, k.own g3 rfl, g4.ktG k rfl rfl⟩)
    (fun wx D p hD hDB hps g ht hcu => by
      rw [hz2] at hD
      have hbx : Below WW.heap.size WW wx := hW2.trans (ht.below hW2.size (fun k hk => hk ▸ hWB))
      refine (ccode1_any WW wx D (w.heap.size + 1) p.size (p, 0) hM hbx (by omega) (by omega) (by omega) hcu (Nat.le_trans hps hs) g.2).mono ?_
      rintro e w' ⟨rfl, u, v, hX, hu, hv⟩
      have hsz := ht.size
      rw [hz2] at hsz
      exact ⟨rfl, hX.cu, ⟨g.1.touch hX.tt (by omega), u, v, hX.x, own_mono' hu (by omega), hv.mono (by omega)⟩, hX.tt⟩))
  have hc1 : w.heap.size ≠ B := Nat.ne_of_gt hlt
  clear h hs hM hW hWB B2 C2 R2 X2 hW2 hz2 hWw
  have HF := hid (fun hz => with_fst (F := codA) (d := ([], [])) (s := s) hz)
  have HB := hid (fun hz => with_bad (F := codA) (d := ([], [])) (s := s) hz)
  unfold codeM
  obtain ⟨W, hWe⟩ : ∃ W, withM codA ([], []) s = W := ⟨_, rfl⟩
  rw [hWe] at HC HF HB ⊢
  clear hWe
  generalize pieM s = PP at *
  go_enter Tryz.func61, Tryz.ntmps61
  go_wp2_with fail
  refine HC.out.mono ?_
  rintro r w3 ⟨rfl, h3, hor, t3⟩
  have C3 := hid h3
  have T3 := hid (show Touch (fun k => k = B) w w3 from (Touch.of_below HBL.out).trans' t3 (fun i hi e => by rcases e with e | e; exact e; omega))
  have HO : ∃ u v, Blk w3 w.heap.size 66 [.int .i64 0, .slice none 0 0, .slice none 0 0] ∧ Blk w3 (w.heap.size + 1) 66 [.int .i64 0, u, v] ∧ OwnI w3 w.heap.size .u8 68 u W.1.1 ∧ OwnB w3 w.heap.size v W.1.2 := by
    rcases hor with ⟨hz, g1, g2⟩ | ⟨hz, g1, u, v, g2, g3, g4⟩
    · exact ⟨_, _, g1, g2, by rw [HB.out hz]; exact OwnI.nil _ _ _ _, by rw [HB.out hz]; exact OwnB.nil _ _⟩
    · exact ⟨u, v, g1, g2, by rw [HF.out hz]; exact g3, by rw [HF.out hz]; exact g4⟩
  obtain ⟨u, v, hR, hX, hu, hv⟩ := HO
  obtain ⟨au, cu, rfl, _⟩ := own_sl hu
  obtain ⟨css, -, hv2⟩ := id hv
  obtain ⟨av, cv, rfl, _⟩ := own_sl hv2
  have x0 := hX.cell (i := 0) rfl
  have x1 := hX.cell (i := 1) rfl
  have x2 := hX.cell (i := 2) rfl
  have r0 := hR.cell (i := 0) rfl
  have r1 := hR.cell (i := 1) rfl
  have r2 := hR.cell (i := 2) rfl
  have rf := hR.free
  have RF := hid (((hR.set 0 (.int .i64 0)).set 1 (.slice au W.1.1.length cu)).set 2 (.slice av W.1.2.length cv))
  have CF := hid (((C3.out.other (a := ⟨w.heap.size, 0, none⟩) hc1 (.int .i64 0)).other (a := ⟨w.heap.size, 1, none⟩) hc1 (.slice au W.1.1.length cu)).other (a := ⟨w.heap.size, 2, none⟩) hc1 (.slice av W.1.2.length cv))
  have TF := hid (((T3.out.newCell (a := ⟨w.heap.size, 0, none⟩) (Nat.le_refl _) (.int .i64 0)).newCell (a := ⟨w.heap.size, 1, none⟩) (Nat.le_refl _) (.slice au W.1.1.length cu)).newCell (a := ⟨w.heap.size, 2, none⟩) (Nat.le_refl _) (.slice av W.1.2.length cv))
  have k := ((KT.set (i := 0) hR (.int .i64 0)).trans (KT.set (i := 1) (hR.set 0 (.int .i64 0)) (.slice au W.1.1.length cu))).trans (KT.set (i := 2) ((hR.set 0 (.int .i64 0)).set 1 (.slice au W.1.1.length cu)) (.slice av W.1.2.length cv))
  have UF := hid (k.own hu rfl)
  have VF := hid (hv.ktG k rfl rfl)
  clear h3 t3 HC hR hX hu hv hv2 k hor
  go_wp2_with fail
  refine bodyPost_ret (code_results _ w.heap.size _ _ _ _ (by rfl) RF.out) rfl ?_
  exact ⟨_, _, rfl, CF.out, UF.out, VF.out, TF.out⟩
end Go.Proofs.YtakfineljffoaaaGreatDoor
