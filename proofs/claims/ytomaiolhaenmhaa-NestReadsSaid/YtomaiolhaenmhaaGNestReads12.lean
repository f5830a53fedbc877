/-
  BODIES READ: the program's Read. Conditions: lengths in the form's reach.
-/
import Derived.Test.YtomaiolhaenmhaaGNestReads11
namespace Go.Proofs.Ytomaiolhaenmhaa
open Go.RowKit Go.Lib
attribute [local go_sem ↓] Go.wp_at_zero Go.wp_at_succ

/-- what a body's Read gives -/
def RdB (w : World) (fin : Int × Nat × List It) (e : Ending) (w' : World) : Prop := ∃ v, e = .returned (.tuple #[v, .int .i64 fin.2.1, .int .i64 fin.1]) ∧ OwnB w' w.heap.size v fin.2.2 ∧ Below w.heap.size w w'
/-- one instruction read off the text: what both walks take of it -/
theorem rd_step (t : ByteArray) (a : Nat) (ha : a ≤ t.size) : (rdI (left t a)).2.2.2 = 0 → ∃ k : Nat, ((left t a).size : Int) - ((rdI (left t a)).2.2.1.size : Int) = (k : Int) ∧ a + k = t.size - (rdI (left t a)).2.2.1.size ∧ a + k ≤ t.size := by
  intro h
  have h1 := (rd_well _ h).2.2
  rw [left_size] at h1 ⊢
  exact ⟨t.size - a - (rdI (left t a)).2.2.1.size, by omega, by omega, by omega⟩

set_option maxRecDepth 100000 in
set_option maxHeartbeats 4000000 in
theorem pnread_any (w : World) (t : ByteArray) (ht : t.size ≤ 140737488351232) :
    Calls Try.prog 66 #[.string t] w fun e w' => RdB w (rlM t 201 [] 0 [(-1, 2)]) e w' := by
  generalize hfin : rlM t 201 [] 0 [(-1, 2)] = fin
  have HFIN := hid (show (if false = true then (0, 0, []) else rlM t (201 - ([] : List It).length) [] 0 [(-1, 2)]) = fin from hfin)
  clear hfin
  have HBG := hid (begin_any w)
  unfold RdB
  go_enter Try.func66, Try.ntmps66
  go_wp2_with fail
  refine HBG.out.mono ?_
  rintro r w1 ⟨vo, vl, B, rfl, g1, g2⟩
  have W1 := hid g1
  have B1 := hid g2
  have O1 := hid (OwnB.nil w1 w.heap.size)
  clear g1 g2
  go_wp2_with fail
  go_loopw [5, 6] (fun i j wr => ∃ (l : List It) (a : Nat) (T : Stk) (ov : Bool) (vo vl : Value), a ≤ t.size ∧ j = .int .i64 a ∧ l.length ≤ 200 ∧ Hid (OwnB wr w.heap.size i l) ∧ Hid (WkB wr B w.heap.size vo vl (T, ov)) ∧ Hid (Below w.heap.size w wr) ∧ Hid ((if ov = true then (0, a, l) else rlM t (201 - l.length) l a T) = fin)) (fun i _ _ => 201 - slLen i)
  case atStart => exact ⟨[], 0, _, _, vo, vl, Nat.zero_le _, rfl, by simp, O1, W1, B1, HFIN⟩
  case round =>
    obtain ⟨l, a, T, ov, vo, vl, ha, rfl, hl200, OB, WK, BL, HF⟩ := hrel
    have hwo := WK.out.blk.cell (i := 2) rfl
    have HLN := hid OB.out.len
    obtain ⟨css, hits, hown⟩ := OB.out
    obtain ⟨ao, cap, rfl, -⟩ := own_sl hown
    have ITS := hid hits
    have OWN := hid hown
    clear hits hown
    cases ov with
    | true =>
      have HF2 := hid (show (0, a, l) = fin from HF.out)
      go_wp2_with fail
      go_ret3
      have hr := HF2.out
      subst hr
      exact ⟨_, rfl, OB.out, BL.out⟩
    | false =>
      have hf : 201 - l.length = (200 - l.length) + 1 := by omega
      have HF2 := hid (show rlM t (200 - l.length + 1) l a T = fin from by rw [← hf]; exact HF.out)
      have HBAD := hid (fun h => (rl_bad (t := t) (f := 200 - l.length) (a := a) (l := l) (T := T) h).symm.trans HF2.out)
      have HLAR := hid (fun h h2 => (rl_large (t := t) (f := 200 - l.length) (a := a) (l := l) (T := T) h h2).symm.trans HF2.out)
      have HWRO := hid (fun h h2 h3 => (rl_wrong (t := t) (f := 200 - l.length) (a := a) (l := l) (T := T) h h2 h3).symm.trans HF2.out)
      have HOVE := hid (fun h h2 h3 h4 => (rl_over (t := t) (f := 200 - l.length) (a := a) (l := l) (T := T) h h2 h3 h4).symm.trans HF2.out)
      have HNEX := hid (fun h h2 h3 h4 => (rl_next (t := t) (f := 200 - l.length) (a := a) (l := l) (T := T) h h2 h3 h4).symm.trans HF2.out)
      have HWEL := hid (rd_well (left t a))
      have HSTP := hid (rd_step t a ha)
      have HP := hid (fun wx => pread_any wx (left t a) (by rw [left_size]; omega))
      unfold RdP at HP
      unfold rdX at HWRO HOVE HNEX HWEL
      generalize rdI (left t a) = q at *
      obtain ⟨op, ⟨A, C, xs⟩, s⟩ := q
      simp only at HBAD HLAR HWRO HOVE HNEX HWEL HSTP HP
      clear hf HF HF2 HFIN HBG
      have hk1 : (a : Int) ≤ (t.size : Int) := by omega
      have hk0 : (0 : Int) ≤ (a : Int) := by omega
      have hx : ¬ (9223372036854775807 < t.size) := by omega
      have hsz := left_size t a
      by_cases hb : s.2 = 0
      · simp only [if_pos hb] at HP
        obtain ⟨k, hk2, hk3, hk4⟩ := HSTP.out hb
        rw [hk2] at HP
        have HLR2 := hid (HLAR.out hb)
        have HWR2 := hid (HWRO.out hb)
        have HOV2 := hid (HOVE.out hb)
        have HNE2 := hid (HNEX.out hb)
        have HOK := hid (HWEL.out hb).1
        rw [← hk3] at HOV2 HNE2
        clear HBAD HLAR HWRO HOVE HNEX HWEL HSTP hb hk2 hk3 hsz
        unfold left at HP
        go_wp2_with fail
        refine (HP.out _).mono ?_
        rintro r w2 ⟨u, ⟨rfl, ho⟩, g2⟩
        obtain ⟨au, cu, rfl, -⟩ := own_sl ho
        have hsw := BL.out.size
        have g3 : Below w2.heap.size w2 (w2.alloc (.cells #[.int .u8 op, .int .i64 A, .int .i64 C, .slice au xs.length cu] 90)) := (Below.refl _ _).alloc (Nat.le_refl _) _
        have g4 : Below wr.heap.size wr (w2.alloc (.cells #[.int .u8 op, .int .i64 A, .int .i64 C, .slice au xs.length cu] 90)) := g2.trans (g3.mono g2.size)
        have X3 := hid (Blk.new w2 #[.int .u8 op, .int .i64 A, .int .i64 C, .slice au xs.length cu] 90 _ rfl)
        have U3 := hid (show OwnI (w2.alloc (.cells #[.int .u8 op, .int .i64 A, .int .i64 C, .slice au xs.length cu] 90)) w.heap.size .i64 2 (.slice au xs.length cu) xs from own_mono' (OwnI.below ho g3) hsw)
        have W3 := hid (WK.out.below g4)
        have K3 := hid (KI.below g4)
        have IT3 := hid (ITS.out.ki K3.out)
        have OW3 := hid (K3.out.own (.inl rfl) OWN.out)
        have B3 := hid (BL.out.trans (g4.mono hsw))
        clear ho g2 g3 g4 hsw
        have x0 := X3.out.cell (i := 0) rfl
        have x1 := X3.out.cell (i := 1) rfl
        have x2 := X3.out.cell (i := 2) rfl
        have x3 := X3.out.cell (i := 3) rfl
        by_cases h200 : l.length = 200
        · have hz : ((l.length : Int) == 200) = true := by rw [h200]; rfl
          have HR := hid (HLR2.out h200)
          have HO := hid (OwnB.nil (w2.alloc (.cells #[.int .u8 op, .int .i64 A, .int .i64 C, .slice au xs.length cu] 90)) w.heap.size)
          clear h200
          go_wp2_with fail
          go_ret3
          have hr := HR.out
          subst hr
          exact ⟨_, rfl, HO.out, B3.out⟩
        · have hz : ((l.length : Int) == 200) = false := by simp; omega
          have HN := hid (next_any (w2.alloc (.cells #[.int .u8 op, .int .i64 A, .int .i64 C, .slice au xs.length cu] 90)) B w.heap.size vo vl T false op HOK.out.1 A C (.slice au xs.length cu) l.length W3.out)
          have HW3 := hid (HWR2.out h200)
          have HO3 := hid (HOV2.out h200)
          have HN3 := hid (HNE2.out h200)
          have hlt : l.length < 200 := by omega
          clear h200 HLR2 HWR2 HOV2 HNE2
          generalize wnext (T, false) op l.length = nx at *
          obtain ⟨⟨is, e⟩, T2, ov2⟩ := nx
          simp only at HN HW3 HO3 HN3
          go_wp2_with fail
          refine HN.out.mono ?_
          rintro r w4 ⟨rfl, ⟨vo', vl', g1⟩, g2⟩
          have hF : ∀ j, Fw B vo vl j → w.heap.size ≤ j ∧ j < (w2.alloc (.cells #[.int .u8 op, .int .i64 A, .int .i64 C, .slice au xs.length cu] 90)).heap.size := W3.out.feet
          have W4 := hid g1
          have K4 := hid (KI.fw W3.out g2)
          have IT4 := hid (IT3.out.ki K4.out)
          have OW4 := hid (K4.out.own (.inl rfl) OW3.out)
          have U4 := hid (show OwnI w4 w.heap.size .i64 2 (.slice au xs.length cu) xs from K4.out.own (.inr rfl) U3.out)
          have B4 := hid (B3.out.trans (g2.below B3.out.size (fun j hj => (hF j hj).1)))
          have X4 := hid (show Blk w4 w2.heap.size 90 [.int .u8 op, .int .i64 A, .int .i64 C, .slice au xs.length cu] from X3.out.same (K4.out _ _ _ _ (.inl rfl) X3.out))
          clear g1 g2 hF x0 x1 x2 x3
          have x0 := X4.out.cell (i := 0) rfl
          have x1 := X4.out.cell (i := 1) rfl
          have x2 := X4.out.cell (i := 2) rfl
          have x3 := X4.out.cell (i := 3) rfl
          by_cases he : e = 0
          · subst he
            have HO4 := hid (HO3.out rfl)
            have HN4 := hid (HN3.out rfl)
            have hsz4 := B4.out.size
            clear HW3 HO3 HN3
            go_wp2_with (at_builtin; go_must (refine app_one elem_insv (base := w.heap.size) (cs := [.int .u8 op, .int .i64 A, .int .i64 C, .slice au xs.length cu]) rfl _ _ rfl rfl rfl rfl OW4.out rfl (by intro c hc; simp at hc; rcases hc with rfl | rfl | rfl | rfl <;> rfl) (by omega) (by omega) hsz4 ?_); intro v' w5 ho hb2 hg)
            have O5 := hid (OwnB.push IT4.out OW4.out U4.out hg.1 ho)
            have W5 := hid (W4.out.kt (KT.grown hg.1 OW4.out))
            have B5 := hid (B4.out.trans hb2)
            have HL5 := hid O5.out.len
            obtain ⟨ao5, cap5, rfl, -⟩ := own_sl ho
            clear ho hb2 hg hsz4
            go_wp2_with fail
            go_roundw
            case rel =>
              refine ⟨l ++ [⟨op, A, C, xs⟩], a + k, T2, ov2, vo', vl', hk4, by go_num, by simp; omega, O5, W5, B5, hid ?_⟩
              cases ov2 with
              | true => rw [if_pos rfl]; exact HO4.out rfl
              | false =>
                rw [if_neg (by decide), show 201 - (l ++ [(⟨op, A, C, xs⟩ : It)]).length = 200 - l.length by simp]
                exact HN4.out rfl
            case measure => rw [HL5.out, HLN.out]; simp; omega
          · have he2 : (e != 0) = true := by simpa using he
            have HR := hid (HW3.out he)
            have HO := hid (OwnB.nil w4 w.heap.size)
            clear he
            go_wp2_with fail
            go_ret3
            have hr := HR.out
            subst hr
            exact ⟨_, rfl, HO.out, B4.out⟩
      · simp only [if_neg hb] at HP
        have hbn : (s.2 != 0) = true := by simpa using hb
        have HR := hid (HBAD.out hb)
        clear hb
        unfold left at HP
        go_wp2_with fail
        refine (HP.out _).mono ?_
        rintro r w2 ⟨u, rfl, g2⟩
        have B2 := hid ((BL.out.trans (g2.mono BL.out.size)).alloc (Nat.le_trans BL.out.size g2.size) (.cells #[.int .u8 0, .int .i64 0, .int .i64 0, .slice none 0 0] 90))
        have HO := hid (OwnB.nil (w2.alloc (.cells #[.int .u8 0, .int .i64 0, .int .i64 0, .slice none 0 0] 90)) w.heap.size)
        clear g2
        go_wp2_with fail
        go_ret3
        have hr := HR.out
        subst hr
        exact ⟨_, rfl, HO.out, B2.out⟩
end Go.Proofs.Ytomaiolhaenmhaa
