/-
  BODIES READ: the reference's NestRead. Conditions: lengths in the form's reach; the library's variable that strings.Contains reads holds some number.
-/
import Derived.Test.YtomaiolhaenmhaaGNestReads7
import Derived.Test.YtomaiolhaenmhaaNsB
import Derived.Test.YtomaiolhaenmhaaGNestReads11
import Derived.Test.YtomaiolhaenmhaaGNestReads12
import Derived.Test.YtomaiolhaenmhaaNsV
import Derived.Test.YtomaiolhaenmhaaLawK
import Derived.Deep.RegionHeld3
namespace Go.Proofs.Ytomaiolhaenmhaa
open Go.RowKit Go.Lib
attribute [local go_sem ↓] Go.wp_at_zero Go.wp_at_succ

set_option maxRecDepth 100000 in
set_option maxHeartbeats 4000000 in
theorem rnread_any (w : World) (t : ByteArray) (ht : t.size ≤ 140737488351232) (hM : MaxL w) :
    Calls Try.prog 67 #[.string t] w fun e w' => RdB w (rlM t 201 [] 0 [(-1, 2)]) e w' := by
  generalize hfin : rlM t 201 [] 0 [(-1, 2)] = fin
  have HFIN := hid (show rlM t (201 - ([] : List It).length) [] 0 [(-1, 2)] = fin from hfin)
  clear hfin
  have HM := hid hM
  clear hM
  unfold RdB
  have O1 := hid (OwnB.nil w w.heap.size)
  have B1 := hid (Below.refl w.heap.size w)
  go_enter Try.func67, Try.ntmps67
  go_wp2_with fail
  go_loopw [5, 6] (fun i j wr => ∃ (l : List It) (a : Nat) (T : Stk), a ≤ t.size ∧ j = .int .i64 a ∧ l.length ≤ 200 ∧ Hid (OwnB wr w.heap.size i l) ∧ Hid (Way l T) ∧ Hid (∀ x ∈ l, ItOk x) ∧ Hid (Below w.heap.size w wr) ∧ Hid (rlM t (201 - l.length) l a T = fin)) (fun i _ _ => 201 - slLen i)
  case atStart => exact ⟨[], 0, _, Nat.zero_le _, rfl, by simp, O1, hid way_nil, hid (fun x hx => by cases hx), B1, HFIN⟩
  case round =>
    obtain ⟨l, a, T, ha, rfl, hl200, OB, WY, LOK, BL, HF⟩ := hrel
    have HLN := hid OB.out.len
    obtain ⟨css, hits, hown⟩ := OB.out
    obtain ⟨ao, cap, rfl, -⟩ := own_sl hown
    have ITS := hid hits
    have OWN := hid hown
    clear hits hown
    have hf : 201 - l.length = (200 - l.length) + 1 := by omega
    have HF2 := hid (show rlM t (200 - l.length + 1) l a T = fin from by rw [← hf]; exact HF.out)
    have HBAD := hid (fun h => (rl_bad (t := t) (f := 200 - l.length) (a := a) (l := l) (T := T) h).symm.trans HF2.out)
    have HLAR := hid (fun h h2 => (rl_large (t := t) (f := 200 - l.length) (a := a) (l := l) (T := T) h h2).symm.trans HF2.out)
    have HWRO := hid (fun h h2 h3 => (rl_wrong (t := t) (f := 200 - l.length) (a := a) (l := l) (T := T) h h2 h3).symm.trans HF2.out)
    have HOVE := hid (fun h h2 h3 h4 => (rl_over (t := t) (f := 200 - l.length) (a := a) (l := l) (T := T) h h2 h3 h4).symm.trans HF2.out)
    have HNEX := hid (fun h h2 h3 h4 => (rl_next (t := t) (f := 200 - l.length) (a := a) (l := l) (T := T) h h2 h3 h4).symm.trans HF2.out)
    have HWEL := hid (rd_well (left t a))
    have HSTP := hid (rd_step t a ha)
    have HP := hid (fun wx (h : MaxL wx) => rread_any wx (left t a) (by rw [left_size]; omega) h)
    unfold RdP at HP
    unfold rdX at HWRO HOVE HNEX HWEL
    generalize rdI (left t a) = q at *
    obtain ⟨op, ⟨A, C, xs⟩, s⟩ := q
    simp only at HBAD HLAR HWRO HOVE HNEX HWEL HSTP HP
    clear hf HF HF2 HFIN
    have hk1 : (a : Int) ≤ (t.size : Int) := by omega
    have hk0 : (0 : Int) ≤ (a : Int) := by omega
    have hx : ¬ (9223372036854775807 < t.size) := by omega
    have hsz := left_size t a
    by_cases hb : s.2 = 0
    · simp only [if_pos hb] at HP
      obtain ⟨k, hk2, hk3, hk4⟩ := HSTP.out hb
      rw [hk2] at HP
      have HLR2 := hid (HLAR.out hb)
      have HWR2 := hid (HWRO.out hb)
      have HOV2 := hid (HOVE.out hb)
      have HNE2 := hid (HNEX.out hb)
      have HOK := hid (HWEL.out hb)
      rw [← hk3] at HOV2 HNE2
      clear HBAD HLAR HWRO HOVE HNEX HWEL HSTP hb hk2 hk3 hsz
      unfold left at HP
      go_wp2_with fail
      refine (HP.out _ (HM.out.below BL.out)).mono ?_
      rintro r w2 ⟨u, ⟨rfl, ho⟩, g2⟩
      obtain ⟨au, cu, rfl, -⟩ := own_sl ho
      have hsw := BL.out.size
      have g3 : Below w2.heap.size w2 (w2.alloc (.cells #[.int .u8 op, .int .i64 A, .int .i64 C, .slice au xs.length cu] 90)) := (Below.refl _ _).alloc (Nat.le_refl _) _
      have g4 : Below wr.heap.size wr (w2.alloc (.cells #[.int .u8 op, .int .i64 A, .int .i64 C, .slice au xs.length cu] 90)) := g2.trans (g3.mono g2.size)
      have X3 := hid (Blk.new w2 #[.int .u8 op, .int .i64 A, .int .i64 C, .slice au xs.length cu] 90 _ rfl)
      have U3 := hid (show OwnI (w2.alloc (.cells #[.int .u8 op, .int .i64 A, .int .i64 C, .slice au xs.length cu] 90)) w.heap.size .i64 2 (.slice au xs.length cu) xs from own_mono' (OwnI.below ho g3) hsw)
      have K3 := hid (KI.below g4)
      have IT3 := hid (ITS.out.ki K3.out)
      have OW3 := hid (K3.out.own (.inl rfl) OWN.out)
      have B3 := hid (BL.out.trans (g4.mono hsw))
      clear ho g2 g3 g4 hsw
      have x0 := X3.out.cell (i := 0) rfl
      have x1 := X3.out.cell (i := 1) rfl
      have x2 := X3.out.cell (i := 2) rfl
      have x3 := X3.out.cell (i := 3) rfl
      by_cases h200 : l.length = 200
      · have hz : ((l.length : Int) == 200) = true := by rw [h200]; rfl
        have HR := hid (HLR2.out h200)
        have HO := hid (OwnB.nil (w2.alloc (.cells #[.int .u8 op, .int .i64 A, .int .i64 C, .slice au xs.length cu] 90)) w.heap.size)
        clear h200
        go_wp2_with fail
        go_ret3
        have hr := HR.out
        subst hr
        exact ⟨_, rfl, HO.out, B3.out⟩
      · have hz : ((l.length : Int) == 200) = false := by simp; omega
        have HW3 := hid (HWR2.out h200)
        have HO3 := hid (HOV2.out h200)
        have HN3 := hid (HNE2.out h200)
        have hlt : l.length < 200 := by omega
        have HCK := hid (WY.out.check (x := ⟨op, A, C, xs⟩) HOK.out.2.1 hlt)
        have HWN := hid (fun h3 h4 => WY.out.next (x := ⟨op, A, C, xs⟩) HOK.out.2.1 h3 h4)
        have HER := hid (wn_errs T op l.length)
        have LOK2 := hid (show ∀ x ∈ l ++ [(⟨op, A, C, xs⟩ : It)], ItOk x from fun x hx => by
          rcases List.mem_append.1 hx with h | h
          · exact LOK.out x h
          · rw [List.mem_singleton.1 h]; exact HOK.out.1)
        simp only at HCK HWN
        clear h200 HLR2 HWR2 HOV2 HNE2
        generalize wnext (T, false) op l.length = nx at *
        obtain ⟨⟨is, e⟩, T2, ov2⟩ := nx
        simp only at HCK HWN HER HW3 HO3 HN3
        have hsz4 := B3.out.size
        go_wp2_with (at_builtin; go_must (refine app_one elem_insv (base := w.heap.size) (cs := [.int .u8 op, .int .i64 A, .int .i64 C, .slice au xs.length cu]) rfl _ _ rfl rfl rfl (by simp) OW3.out rfl (by intro c hc; simp at hc; rcases hc with rfl | rfl | rfl | rfl <;> rfl) (by omega) (by omega) hsz4 ?_); intro v' w5 ho hb2 hg)
        have O5 := hid (OwnB.push IT3.out OW3.out U3.out hg.1 ho)
        have B5 := hid (B3.out.trans hb2)
        have HL5 := hid O5.out.len
        obtain ⟨ao5, cap5, rfl, -⟩ := own_sl ho
        have HNC := hid (rncheck_any w5 _ _ LOK2.out O5.out.bod (HM.out.below B5.out))
        clear ho hb2 hg hsz4
        by_cases he : e = 0
        · subst he
          have HO4 := hid (HO3.out rfl)
          have HN4 := hid (HN3.out rfl)
          have HW4 := hid (HWN.out rfl)
          cases ov2 with
          | true =>
            have hc : ncM (l ++ [(⟨op, A, C, xs⟩ : It)]) = 0 := by rw [HCK.out]; rfl
            rw [hc] at HNC
            have HR := hid (HO4.out rfl)
            clear hc HCK HWN HER HW3 HO3 HN3 HO4 HN4 HW4
            go_wp2_with fail
            refine HNC.out.mono ?_
            rintro r w6 ⟨rfl, g1⟩
            have B6 := hid (B5.out.trans (g1.mono B5.out.size))
            have O6 := hid (O5.out.below g1)
            clear g1
            go_wp2_with fail
            go_ret3
            have hr := HR.out
            subst hr
            exact ⟨_, rfl, O6.out, B6.out⟩
          | false =>
            have hc : ncM (l ++ [(⟨op, A, C, xs⟩ : It)]) = 3 := by rw [HCK.out]; rfl
            rw [hc] at HNC
            have HR := hid (HN4.out rfl)
            have HW5 := hid (HW4.out rfl)
            clear hc HCK HWN HER HW3 HO3 HN3 HO4 HN4 HW4
            go_wp2_with fail
            refine HNC.out.mono ?_
            rintro r w6 ⟨rfl, g1⟩
            have B6 := hid (B5.out.trans (g1.mono B5.out.size))
            have O6 := hid (O5.out.below g1)
            clear g1
            go_wp2_with fail
            go_roundw
            case rel =>
              refine ⟨l ++ [⟨op, A, C, xs⟩], a + k, T2, hk4, by go_num, by simp; omega, O6, HW5, LOK2, B6, hid ?_⟩
              rw [show 201 - (l ++ [(⟨op, A, C, xs⟩ : It)]).length = 200 - l.length by simp]
              exact HR.out
            case measure => rw [HL5.out, HLN.out]; simp; omega
        · have hc : ncM (l ++ [(⟨op, A, C, xs⟩ : It)]) = e := by rw [HCK.out, if_pos he]
          rw [hc] at HNC
          have he0 : (e == 0) = false := by simpa using he
          have he3 : (e == 3) = false := by
            have := HER.out
            simp; omega
          have HR := hid (HW3.out he)
          clear hc he HCK HWN HER HW3 HO3 HN3
          go_wp2_with fail
          refine HNC.out.mono ?_
          rintro r w6 ⟨rfl, g1⟩
          have B6 := hid (B5.out.trans (g1.mono B5.out.size))
          have HO := hid (OwnB.nil w6 w.heap.size)
          clear g1
          go_wp2_with fail
          go_ret3
          have hr := HR.out
          subst hr
          exact ⟨_, rfl, HO.out, B6.out⟩
    · simp only [if_neg hb] at HP
      have hbn : (s.2 != 0) = true := by simpa using hb
      have HR := hid (HBAD.out hb)
      clear hb
      unfold left at HP
      go_wp2_with fail
      refine (HP.out _ (HM.out.below BL.out)).mono ?_
      rintro r w2 ⟨u, rfl, g2⟩
      have B2 := hid ((BL.out.trans (g2.mono BL.out.size)).alloc (Nat.le_trans BL.out.size g2.size) (.cells #[.int .u8 0, .int .i64 0, .int .i64 0, .slice none 0 0] 90))
      have HO := hid (OwnB.nil (w2.alloc (.cells #[.int .u8 0, .int .i64 0, .int .i64 0, .slice none 0 0] 90)) w.heap.size)
      clear g2
      go_wp2_with fail
      go_ret3
      have hr := HR.out
      subst hr
      exact ⟨_, rfl, HO.out, B2.out⟩
end Go.Proofs.Ytomaiolhaenmhaa
/-
  SameAll AT troupe/api.Ins, BY ITS CLOSURE: lists whose elements are the same, one by one, are the same. Conditions: readings. Printed by a program of mine.
-/
namespace Go.Proofs.Ytomaiolhaenmhaa
open Go.RowKit Go.Lib
attribute [local go_sem ↓] Go.wp_at_zero Go.wp_at_succ

set_option maxRecDepth 100000 in
set_option maxHeartbeats 2000000 in
theorem sameAll_SaI (w : World) (va vb : Value) (ca cb : List (List Value)) (hl : ca.length = cb.length) (hla : ∀ c ∈ ca, c.length = 4) (hlb : ∀ c ∈ cb, c.length = 4) (ha : Sl w va ca.length ca.flatten) (hb : Sl w vb cb.length cb.flatten)
    (hs : ∀ i (h1 : i < ca.length) (h2 : i < cb.length) (w' : World), Below w.heap.size w w' → Calls Try.prog 51 #[.agg ca[i].toArray, .agg cb[i].toArray] w' fun e w2 => e = .returned (.bool true) ∧ Below w'.heap.size w' w2) :
    Calls Try.prog 136 #[va, vb, .func (.func 51) #[] #[]] w fun e w' => e = .returned (.bool true) ∧ Below w.heap.size w w' := by
  rcases sm_open (s := 4) (by decide) hla ha with ⟨ao, cap, rfl, h0⟩ | ⟨b, off, cap, rfl, h0, hcap, hm, hca⟩
  · have hb0 : cb.length = 0 := by omega
    obtain ⟨ao', cap', rfl, _, _, _, _⟩ := hb
    rw [hb0]
    clear hs hb0 hl hla hlb ha h0
    go_enter Try.func136, Try.ntmps136
    go_wp2
    refine wp_loop_rounds 1 ?_; rw [rounds_succ]; go_wp2
    go_ret
    exact ⟨rfl, Below.refl _ _⟩
  rcases sm_open (s := 4) (by decide) hlb hb with ⟨ao', cap', rfl, h0'⟩ | ⟨b', off', cap', rfl, h0', hcap', hm', hcb⟩
  · omega
  have hne : ((ca.length : Int) != cb.length) = false := by simp [hl]
  have HL := hid hl
  have HCA := hid hca
  have HCB := hid hcb
  have HS := hid hs
  have HLA := hid hla
  have HLB := hid hlb
  clear hl hca hcb hs hla hlb ha hb
  go_enter Try.func136, Try.ntmps136
  go_wp2
  go_loopw [15] (fun i wr => ∃ k : Nat, k ≤ ca.length ∧ i = .int .i64 k ∧ Hid (Below w.heap.size w wr)) (fun i _ => ca.length - (RowKit.intOf i).toNat)
  case atStart => exact ⟨0, Nat.zero_le _, rfl, hid (Below.refl _ _)⟩
  case round =>
    obtain ⟨k, hk, rfl, HB⟩ := hrel
    by_cases hlt : k < ca.length
    · have hlt' : k < cb.length := by have := HL.out; omega
      have hh := HS.out k hlt hlt' wr.drew (below_dr HB.out)
      obtain ⟨c0, c1, c2, c3, hea⟩ := sm_split4 (HLA.out _ (List.getElem_mem hlt))
      obtain ⟨d0, d1, d2, d3, heb⟩ := sm_split4 (HLB.out _ (List.getElem_mem hlt'))
      rw [hea, heb] at hh
      have HH := hid hh
      have HEA := hid hea
      have HEB := hid heb
      have e0 : wr.drew.cell? ⟨b, off + k * 4, none⟩ = some c0 := sm_at HCA.out (below_dr HB.out) hlt HLA.out hea (f := 0) rfl
      have e1 : wr.drew.cell? ⟨b, off + k * 4 + 1, none⟩ = some c1 := sm_at HCA.out (below_dr HB.out) hlt HLA.out hea (f := 1) rfl
      have e2 : wr.drew.cell? ⟨b, off + k * 4 + 2, none⟩ = some c2 := sm_at HCA.out (below_dr HB.out) hlt HLA.out hea (f := 2) rfl
      have e3 : wr.drew.cell? ⟨b, off + k * 4 + 3, none⟩ = some c3 := sm_at HCA.out (below_dr HB.out) hlt HLA.out hea (f := 3) rfl
      have f0 : wr.drew.cell? ⟨b', off' + k * 4, none⟩ = some d0 := sm_at HCB.out (below_dr HB.out) hlt' HLB.out heb (f := 0) rfl
      have f1 : wr.drew.cell? ⟨b', off' + k * 4 + 1, none⟩ = some d1 := sm_at HCB.out (below_dr HB.out) hlt' HLB.out heb (f := 1) rfl
      have f2 : wr.drew.cell? ⟨b', off' + k * 4 + 2, none⟩ = some d2 := sm_at HCB.out (below_dr HB.out) hlt' HLB.out heb (f := 2) rfl
      have f3 : wr.drew.cell? ⟨b', off' + k * 4 + 3, none⟩ = some d3 := sm_at HCB.out (below_dr HB.out) hlt' HLB.out heb (f := 3) rfl
      clear hh hea heb
      have hi0 : (0 : Int) ≤ (k : Int) := by omega
      have hi1 : (k : Int) < (ca.length : Int) := by omega
      have hi2 : (k : Int) < (cb.length : Int) := by omega
      go_wp2_with fail
      go_region_held3 (fun w' => w'.cell? ⟨b, off + k * 4, none⟩ = some c0 ∧ w'.cell? ⟨b, off + k * 4 + 1, none⟩ = some c1 ∧ w'.cell? ⟨b, off + k * 4 + 2, none⟩ = some c2 ∧ w'.cell? ⟨b, off + k * 4 + 3, none⟩ = some c3 ∧ w'.cell? ⟨b', off' + k * 4, none⟩ = some d0 ∧ w'.cell? ⟨b', off' + k * 4 + 1, none⟩ = some d1 ∧ w'.cell? ⟨b', off' + k * 4 + 2, none⟩ = some d2 ∧ w'.cell? ⟨b', off' + k * 4 + 3, none⟩ = some d3) (first | exact ⟨e0, e1, e2, e3, f0, f1, f2, f3⟩ | exact ⟨sm_at HCA.out HB3.out hlt HLA.out HEA.out (f := 0) rfl, sm_at HCA.out HB3.out hlt HLA.out HEA.out (f := 1) rfl, sm_at HCA.out HB3.out hlt HLA.out HEA.out (f := 2) rfl, sm_at HCA.out HB3.out hlt HLA.out HEA.out (f := 3) rfl, sm_at HCB.out HB3.out hlt' HLB.out HEB.out (f := 0) rfl, sm_at HCB.out HB3.out hlt' HLB.out HEB.out (f := 1) rfl, sm_at HCB.out HB3.out hlt' HLB.out HEB.out (f := 2) rfl, sm_at HCB.out HB3.out hlt' HLB.out HEB.out (f := 3) rfl⟩ | go_keep) (first | (go_at_call 51; (with_reducible refine HH.out.mono ?_); rintro r w3 ⟨rfl, h1⟩; have HB3 := hid (HB.out.trans ((below_dr (Below.refl wr.heap.size wr)).trans h1 |>.mono HB.out.size)); clear h1))
      all_goals
        go_wp2_with fail
        go_roundw
        case rel => exact ⟨k + 1, by omega, by go_num, HB3⟩
        case measure => simp [RowKit.intOf]; omega
    · go_wp2
      go_ret
      exact ⟨rfl, HB.out⟩
end Go.Proofs.Ytomaiolhaenmhaa
/-
  BODIES: SameBody at two readings of the same instructions. No condition.
-/
namespace Go.Proofs.Ytomaiolhaenmhaa
open Go.RowKit Go.Lib

theorem ItAt.len {w : World} {cs : List Value} {x : It} (h : ItAt w cs x) : cs.length = 4 := by
  obtain ⟨u, e, _⟩ := h
  rw [e]; rfl
set_option maxRecDepth 100000 in
set_option maxHeartbeats 1000000 in
theorem sameBody_any (w : World) (va vb : Value) (l : List It) (ha : BodS w va l) (hb : BodS w vb l) :
    Calls Try.prog 68 #[va, vb] w fun e w' => e = .returned (.bool true) ∧ Below w.heap.size w w' := by
  obtain ⟨ca, ea, sa, ia⟩ := ha
  obtain ⟨cb, eb, sb, ib⟩ := hb
  have HS := hid (sameAll_SaI w va vb ca cb (by omega) (fun c hc => by
      obtain ⟨i, hi, rfl⟩ := List.getElem_of_mem hc
      exact (ia i hi (by omega)).len) (fun c hc => by
      obtain ⟨i, hi, rfl⟩ := List.getElem_of_mem hc
      exact (ib i hi (by omega)).len) (by rw [ea]; exact sa) (by rw [eb]; exact sb) (fun i h1 h2 w' hbw => by
      obtain ⟨u, e1, t1⟩ := ia i h1 (by omega)
      obtain ⟨u', e2, t2⟩ := ib i h2 (by omega)
      rw [e1, e2]
      exact sameIns_any l[i].op l[i].A l[i].B u u' l[i].tos w' (L1.below t1 hbw) (L1.below t2 hbw)))
  obtain ⟨ao, cap, rfl, -⟩ := sa
  obtain ⟨ao', cap', rfl, -⟩ := sb
  clear ia ib ea eb
  go_enter Try.func68, Try.ntmps68
  go_wp2_with fail
  refine HS.out.mono ?_
  rintro r w1 ⟨rfl, g1⟩
  have HB := hid g1
  clear g1
  go_wp2_with fail
  go_ret
  exact ⟨rfl, HB.out⟩
end Go.Proofs.Ytomaiolhaenmhaa
/-
  THE LAW NestReads: Read is the reference's. Condition: the library's variable that strings.Contains reads holds some number.
-/
namespace Go.Proofs.Ytomaiolhaenmhaa
open Go.RowKit Go.Lib

set_option maxRecDepth 100000 in
set_option maxHeartbeats 2000000 in
theorem law_NestReads (v0 : Value) (x0 : ByteArray) (W : World) (i0 : IsStr W v0 x0) (hM : MaxL W) :
    Calls Try.prog 11 #[v0] W fun e w' => e = .returned (.bool true) ∧ Below W.heap.size W w' := by
  obtain ⟨rfl, h1⟩ := i0
  have P1 := hid (pnread_any W x0 h1)
  have P2 := hid (fun w' (h : Below W.heap.size W w') => rnread_any w' x0 h1 (hM.below h))
  unfold RdB at P1 P2
  generalize rlM x0 201 [] 0 [(-1, 2)] = fin at *
  obtain ⟨E, k, l⟩ := fin
  simp only at P1 P2
  have hk : ((k : Int) == (k : Int)) = true := by simp
  have he : (E == E) = true := by simp
  clear hM
  go_enter Try.func11, Try.ntmps11
  go_wp2_with fail
  refine P1.out.mono ?_
  rintro e w1 ⟨u, rfl, g1, b1⟩
  have O1 := hid g1
  have B1 := hid b1
  clear g1 b1
  go_wp2_with fail
  refine (P2.out _ B1.out).mono ?_
  rintro e w2 ⟨u', rfl, g1, b2⟩
  have B2 := hid (B1.out.trans (b2.mono B1.out.size))
  have HS := hid (sameBody_any w2 u u' l (O1.out.below b2).bod g1.bod)
  clear g1 b2
  go_wp2_with fail
  refine HS.out.mono ?_
  rintro e w3 ⟨rfl, b3⟩
  have B3 := hid (B2.out.trans (b3.mono B2.out.size))
  clear b3
  go_wp2_with fail
  go_ret
  exact ⟨rfl, B3.out⟩
end Go.Proofs.Ytomaiolhaenmhaa
