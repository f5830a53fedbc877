/-
  THE LAW TimerSays: a clock answers as the reference does, for every sequence of calls. No condition.
-/
import Derived.Test.YtalookaaogiinaaTmW
import Derived.Test.YtalookaaogiinaaEqs
import Derived.Deep.CutBlock
import Derived.Deep.RegionLaw
namespace Go.Proofs.Ytalookaaogiinaa
open Go.RowKit Go.Lib
attribute [local go_sem ↓] Go.wp_at_zero Go.wp_at_succ

def encTs (y : D_trouperef_TimeStep) : List Value := [.int .i64 y.1, .int .i64 y.2.1, .int .i64 y.2.2.1]
theorem encTs_len (y : D_trouperef_TimeStep) : (encTs y).length = 3 := rfl
theorem ts_open {W : World} (cs : List Value) (y : D_trouperef_TimeStep) (h : R_trouperef_TimeStep W cs y) : cs = encTs y ∧ (-9223372036854775808 ≤ y.1 ∧ y.1 ≤ 9223372036854775807) := by
  obtain ⟨_, _, rfl, ⟨rfl, w1⟩, _, _, rfl, ⟨rfl, _⟩, _, _, rfl, ⟨rfl, _⟩, rfl⟩ := h
  exact ⟨rfl, wf_i64 w1⟩
theorem drew_belT {w w' : World} (h : Below w.drew.heap.size w.drew w') : Below w.heap.size w w' := (drew_bel' (n := 1) (Below.refl _ _)).trans h
theorem side_start (b : Bool) : setE 0 0 b 0 = 1 ∧ setP ⟨0, 0, []⟩ 1 0 = ⟨0, 0, []⟩ := by
  refine ⟨rfl, ?_⟩
  unfold setP
  rw [if_neg]
  show ¬ (setE 0 0 _ 0 = 0)
  unfold setE
  decide
set_option maxRecDepth 100000 in
set_option maxHeartbeats 8000000 in
theorem law_TimerSays (v0 : Value) (x0 : D_s_trouperef_TimeStep) (W : World) (i0 : R_s_trouperef_TimeStep W [v0] x0) :
    Calls Try.prog 4 #[v0] W fun e w' => e = .returned (.bool true) ∧ Below W.heap.size W w' := by
  obtain ⟨hl, hq, hb⟩ := slice_flat encTs _ ts_open i0
  have HL := hid hl
  have HQ := hid hq
  have hlen : x0.length ≤ 10000000000000 := by omega
  have HNEW := hid (tnew_any W)
  obtain ⟨ao, cap, hvv, _⟩ := id HL.out
  clear i0 hl hq hb
  go_enter Try.func4, Try.ntmps4
  subst hvv
  go_wp2_with fail
  refine HNEW.out.mono ?_
  rintro e w1 ⟨rfl, hT1, hb1⟩
  have T1 := hid hT1
  have B1 := hid hb1
  have HD0 := hid (show DuoT (w1.alloc (.cells #[.int .i64 0, .slice none 0 0] 56)) W.heap.size W.heap.size w1.heap.size (.slice none 0 0) (.slice none 0 0) ⟨0, 0, []⟩ ⟨0, []⟩ from by
    refine ⟨TB.part (hT1.below ((Below.refl _ _).alloc (Nat.le_refl _) _)), RB.part ⟨Blk.new w1 _ _ _ rfl, World.ownsRow_nil _ _ _ _, by simp [Value.ownBlock], hb1.size, by simp; have := hb1.size; omega⟩, ?_⟩
    have hlt := hT1.blk.lt
    rintro k (e | e) (e2 | e2)
    · omega
    · simp [Value.ownBlock] at e2
    · simp [Value.ownBlock] at e
    · simp [Value.ownBlock] at e)
  have BA := hid (B1.out.alloc B1.out.size (.cells #[.int .i64 0, .slice none 0 0] 56))
  clear hT1 hb1
  have hset := tset_any _ W.heap.size W.heap.size _ ⟨0, 0, []⟩ 1 0 (by simp) ⟨Int.le_refl _, by decide⟩ ⟨Int.le_refl _, by decide⟩ HD0.out.p.holds
  rw [(side_start true).2] at hset
  have hset := hset.mono (fun e w' g => (show e = .returned (.int .i64 1) ∧ TPs (w1.alloc (.cells #[.int .i64 0, .slice none 0 0] 56)) W.heap.size W.heap.size (.slice none 0 0) ⟨0, 0, []⟩ w' from ⟨g.1.trans (by rw [show setE (PT.mk 0 0 []).now 0 (decide (0 ≤ findP ⟨0, 0, []⟩ 1)) (PT.mk 0 0 []).set.length = 1 from (side_start _).1]), g.2⟩))
  have HSET := hid hset
  clear hset
  go_wp2_with fail
  refine HSET.out.mono ?_
  rintro e w2 ⟨rfl, hp⟩
  obtain ⟨v2, hD2, ht2⟩ := tm_left HD0.out hp
  have HI0 := hid (show InvT w2 W.heap.size W.heap.size w1.heap.size 0 from ⟨_, _, _, _, hD2, side_newT⟩)
  have HB0 := hid (BA.out.trans (HD0.out.p.under ht2 (Nat.le_refl _)))
  clear hp hD2 ht2
  generalize w1.heap.size = B2 at *
  go_wp2_with fail
  go_loopw [6, 28] (fun _ i wr => ∃ k : Nat, k ≤ x0.length ∧ i = .int .i64 k ∧ Hid (InvT wr W.heap.size W.heap.size B2 k) ∧ Hid (Below W.heap.size W wr)) (fun _ i _ => x0.length - (intOf i).toNat)
  case atStart => exact ⟨0, Nat.zero_le _, rfl, HI0, HB0⟩
  case round =>
    obtain ⟨k, hk, rfl, hT, hbel⟩ := hrel
    by_cases hlt : k < x0.length
    · have hlk := Lk.below HL.out hbel.out
      rcases hlk.open encTs_len (by decide) with ⟨_, _, _, e, _⟩ | ⟨lb, lo, cap', hv, _, hcap, hcap2, hc⟩
      · rw [e] at hlt; simp at hlt
      simp only [Value.slice.injEq, true_and] at hv
      obtain ⟨rfl, rfl⟩ := hv
      have y0 := hc k hlt 0 (by decide); have y1 := hc k hlt 1 (by decide); have y2 := hc k hlt 2 (by decide)
      have hyq := HQ.out x0[k] (List.getElem_mem hlt)
      clear hc hlk
      generalize x0[k] = y at *
      obtain ⟨kind, a, b, u1⟩ := y
      rw [show (encTs (kind, a, b, u1))[0]? = some (.int .i64 kind) from rfl, Nat.add_zero] at y0; rw [show (encTs (kind, a, b, u1))[1]? = some (.int .i64 a) from rfl] at y1; rw [show (encTs (kind, a, b, u1))[2]? = some (.int .i64 b) from rfl] at y2
      simp only at hyq
      have hstep := fun wx => step_no kind 3 wx hyq.1 hyq.2 (by omega) (by omega)
      have hmod : kind % 3 = 0 ∨ kind % 3 = 1 ∨ kind % 3 = 2 := by omega
      generalize kind % 3 = q at *
      have HST := hid hstep
      clear hstep hyq
      have hsz := hbel.out.size
      have hk2 : (k : Int) ≤ 10000000000000 := by omega
      go_upto_block 2 with (go_at_call 9; refine (HST.out _).mono ?_; rintro e w' ⟨rfl, rfl⟩)
      go_cut [7] (fun gd wx => gd = .bool true ∧ Hid (InvT wx W.heap.size W.heap.size B2 (k + 1)) ∧ Hid (Below W.heap.size W wx))
      case first =>
        obtain ⟨v, u, p, r, hD, hS⟩ := hT.out
        have hD0 := hD.alloc (.cells #[.int .i64 kind, .int .i64 a, .int .i64 b] 59)
        have hxb := Blk.new wr #[.int .i64 kind, .int .i64 a, .int .i64 b] 59 _ rfl
        have hbel0 : Below W.heap.size W (wr.alloc (.cells #[.int .i64 kind, .int .i64 a, .int .i64 b] 59)) := hbel.out.alloc hsz _
        obtain ⟨w0, hw0⟩ : ∃ w0, w0 = wr.alloc (.cells #[.int .i64 kind, .int .i64 a, .int .i64 b] 59) := ⟨_, rfl⟩
        rw [← hw0] at hD0 hxb hbel0
        rw [← hw0]
        have n1 : ∀ k, footT W.heap.size v k → k ≠ wr.heap.size := fun k hk => by have := (hD.p.lt k hk).2; omega
        have n2 : ∀ k, footT B2 u k → k ≠ wr.heap.size := fun k hk => by have := (hD.q.lt k hk).2; omega
        have c0 := hxb.cell (i := 0) rfl
        have c1 := hxb.cell (i := 1) rfl
        have c2 := hxb.cell (i := 2) rfl
        have HDD := hid hD0
        have HXB := hid hxb
        have HB1 := hid hbel0
        have HS := hid hS
        have N1 := hid n1
        have N2 := hid n2
        have HDd := hid hD0.drew1
        have htu := hS.turn
        have HTU := hid (show 0 ≤ p.turn ∧ p.turn ≤ 1000000000000000 from by omega)
        have HRN := hid (show 0 ≤ r.now ∧ r.now ≤ 1099511627776 from by rw [hS.now.1]; exact hS.now.2)
        clear hD0 hxb hbel0 hS hD hw0 n1 n2 y0 y1 y2 htu
        rcases hmod with rfl | rfl | rfl
        · have HA := hid (fun wx h => tset_any wx W.heap.size W.heap.size v p a b HS.out.few.1 HS.out.now.2 HTU.out h)
          have HB := hid (fun wx h => rtset_any wx W.heap.size B2 u r a b HS.out.few.2 HRN.out h)
          have HSO := hid (side_set HS.out a b)
          rw [HSO.out.2] at HB
          have HSS := hid HSO.out.1
          generalize setE p.now b (decide (0 ≤ findP p a)) p.set.length = er at *
          generalize setP p a b = p2 at *
          generalize setR r a b = r2 at *
          go_wp2_with fail
          go_region_held3 (fun w' => w'.cell? ⟨wr.heap.size, 1, none⟩ = some (.int .i64 a) ∧ w'.cell? ⟨wr.heap.size, 2, none⟩ = some (.int .i64 b)) (first | exact ⟨c1, c2⟩ | exact C2.out | exact C1.out)
            (first | (go_at_call 24; refine (HA.out _ HDd.out.p.holds).mono ?_; rintro e w1 ⟨rfl, hp⟩; obtain ⟨v1', hd1, ht1⟩ := tm_left HDd.out hp; have X1 := hid (Blk.touch (w := w0.drew) HXB.out ht1 (fun e => N1.out _ e rfl)); have C1 := hid (And.intro (X1.out.cell (i := 1) rfl) (X1.out.cell (i := 2) rfl)); have M1 := hid (And.intro hd1 ht1); clear hp hd1 ht1) | (go_at_call 25; refine (HB.out _ M1.out.1.q.holds).mono ?_; rintro e w2 ⟨rfl, hp⟩; obtain ⟨v2', hd2, ht2⟩ := tm_right M1.out.1 hp; have X2 := hid (Blk.touch X1.out ht2 (fun e => N2.out _ e rfl)); have C2 := hid (And.intro (X2.out.cell (i := 1) rfl) (X2.out.cell (i := 2) rfl)); have M2 := hid (And.intro hd2 ht2); clear hp hd2 ht2))
          all_goals
            go_wp2_with fail
            go_meet
            have b1 : Below W.heap.size W w1 := (HB1.out.trans (drew_bel' (n := 1) (Below.refl _ _))).trans (HDd.out.p.under M1.out.2 (Nat.le_refl _))
            exact ⟨rfl, hid ⟨_, _, _, _, M2.out.1, HSS.out⟩, hid (b1.trans (M1.out.1.q.under M2.out.2 (Nat.le_refl _)))⟩
        · have HA := hid (fun wx h => tdrop_any wx W.heap.size W.heap.size v p a HS.out.few.1 h)
          have HB := hid (fun wx h => rtdrop_any wx W.heap.size B2 u r a HS.out.few.2 h)
          have HSO := hid (side_drop HS.out a)
          rw [HSO.out.2] at HB
          have HSS := hid HSO.out.1
          generalize decide (0 ≤ findP p a) = er at *
          generalize dropP p a = p2 at *
          generalize dropR r a = r2 at *
          go_wp2_with fail
          go_region_held3 (fun w' => w'.cell? ⟨wr.heap.size, 1, none⟩ = some (.int .i64 a)) (first | exact c1 | exact C2.out | exact C1.out)
            (first | (go_at_call 26; refine (HA.out _ HDd.out.p.holds).mono ?_; rintro e w1 ⟨rfl, hp⟩; obtain ⟨v1', hd1, ht1⟩ := tm_left HDd.out hp; have X1 := hid (Blk.touch (w := w0.drew) HXB.out ht1 (fun e => N1.out _ e rfl)); have C1 := hid (X1.out.cell (i := 1) rfl); have M1 := hid (And.intro hd1 ht1); clear hp hd1 ht1) | (go_at_call 27; refine (HB.out _ M1.out.1.q.holds).mono ?_; rintro e w2 ⟨rfl, hp⟩; obtain ⟨v2', hd2, ht2⟩ := tm_right M1.out.1 hp; have X2 := hid (Blk.touch X1.out ht2 (fun e => N2.out _ e rfl)); have C2 := hid (X2.out.cell (i := 1) rfl); have M2 := hid (And.intro hd2 ht2); clear hp hd2 ht2))
          all_goals
            go_wp2_with fail
            go_meet
            have b1 : Below W.heap.size W w1 := (HB1.out.trans (drew_bel' (n := 1) (Below.refl _ _))).trans (HDd.out.p.under M1.out.2 (Nat.le_refl _))
            exact ⟨rfl, hid ⟨_, _, _, _, M2.out.1, HSS.out⟩, hid (b1.trans (M1.out.1.q.under M2.out.2 (Nat.le_refl _)))⟩
        · have HA := hid (ttick_any w0 W.heap.size W.heap.size v p b HS.out.few.1 HS.out.now.2 HDD.out.p.holds)
          have HB := hid (fun wx h => rttick_any wx W.heap.size B2 u r b HS.out.few.2 HRN.out h)
          have HSO := hid (side_tickT HS.out b)
          rw [HSO.out.2.1] at HB
          have HSS := hid HSO.out.1
          by_cases hin : tickTE p.now b = 0
          · simp only [hin, if_true] at HA HB
            have he := HSO.out.2.2 hin
            rw [he] at HB
            clear hin HSO he
            generalize tickP p b = p2 at *
            generalize tickRr r b = r2 at *
            generalize (popsP p.set.length p.set (p.now + b)).1 = gs at *
            go_wp2_with fail
            refine HA.out.mono ?_
            rintro e w1 ⟨o1, rfl, ho1, hp⟩
            obtain ⟨v1', hd1, ht1⟩ := tm_left HDD.out hp
            have M1 := hid (And.intro hd1 ht1)
            have O1 := hid ho1
            have X1 := hid (Blk.touch HXB.out ht1 (fun e => N1.out _ e rfl))
            clear hp hd1 ht1 ho1 c0 c1 c2
            have c2 := X1.out.cell (i := 2) rfl
            go_wp2_with fail
            refine (HB.out _ M1.out.1.q.holds).mono ?_
            rintro e w2 ⟨o2, rfl, ho2, hp⟩
            obtain ⟨v2', hd2, ht2⟩ := tm_right M1.out.1 hp
            have M2 := hid (And.intro hd2 ht2)
            have O2 := hid ho2
            have O3 := hid (own_pastT HDD.out.q O1.out ht2)
            clear hp hd2 ht2 ho2
            have heq := eq_int o1 o2 gs gs w2 (own_sl O3.out) (own_sl O2.out)
            rw [decide_eq_true rfl] at heq
            have HEQ := hid heq
            clear heq
            go_wp2_with fail
            refine HEQ.out.mono ?_
            rintro e w3 ⟨rfl, rfl⟩
            go_wp2_with fail
            go_meet
            have b1 : Below W.heap.size W w1 := HB1.out.trans (HDD.out.p.under M1.out.2 (Nat.le_refl _))
            have b2 := b1.trans (M1.out.1.q.under M2.out.2 (Nat.le_refl _))
            exact ⟨rfl, hid ⟨_, _, _, _, M2.out.1, HSS.out⟩, hid b2⟩
          · simp only [hin, if_false] at HA HB
            clear hin HSO
            generalize tickP p b = p2 at *
            generalize tickRr r b = r2 at *
            go_wp2_with fail
            refine HA.out.mono ?_
            rintro e w1 ⟨rfl, hp⟩
            obtain ⟨v1', hd1, ht1⟩ := tm_left HDD.out hp
            have M1 := hid (And.intro hd1 ht1)
            have X1 := hid (Blk.touch HXB.out ht1 (fun e => N1.out _ e rfl))
            clear hp hd1 ht1 c0 c1 c2
            have c2 := X1.out.cell (i := 2) rfl
            go_wp2_with fail
            refine (HB.out _ M1.out.1.q.holds).mono ?_
            rintro e w2 ⟨rfl, hp⟩
            obtain ⟨v2', hd2, ht2⟩ := tm_right M1.out.1 hp
            have M2 := hid (And.intro hd2 ht2)
            clear hp hd2 ht2
            have heq := eq_int (.slice none 0 0) (.slice none 0 0) [] [] w2 ⟨none, 0, rfl, Nat.le_refl _, by omega, fun _ => rfl, .inl rfl⟩ ⟨none, 0, rfl, Nat.le_refl _, by omega, fun _ => rfl, .inl rfl⟩
            rw [decide_eq_true rfl] at heq
            have HEQ := hid heq
            clear heq
            go_wp2_with fail
            refine HEQ.out.mono ?_
            rintro e w3 ⟨rfl, rfl⟩
            go_wp2_with fail
            go_meet
            have b1 : Below W.heap.size W w1 := HB1.out.trans (HDD.out.p.under M1.out.2 (Nat.le_refl _))
            have b2 := b1.trans (M1.out.1.q.under M2.out.2 (Nat.le_refl _))
            exact ⟨rfl, hid ⟨_, _, _, _, M2.out.1, HSS.out⟩, hid b2⟩
      case rest =>
        obtain ⟨rfl, hT', hbel'⟩ := hcut
        obtain ⟨v, u, p, r, hD, hS⟩ := hT'.out
        have HDw := hid hD
        have HSw := hid hS
        have HT2 := hid hT'.out
        have HBL := hid hbel'.out
        have HRN := hid (show 0 ≤ r.now ∧ r.now ≤ 1099511627776 from by rw [hS.now.1]; exact hS.now.2)
        have HN1 := hid (tnext_any wc W.heap.size W.heap.size v p hS.now.2 hS.dueP hD.p.holds)
        have HN2 := hid (fun wx (hb : Below wc.heap.size wc wx) => rtnext_any wx W.heap.size B2 u r hS.few.2 HRN.out hS.dueR (hD.below hb).q.holds)
        rw [hS.next] at HN2
        have HNW := hid hS.now.1
        clear hT' hbel' hD hS hT hbel HST hmod
        generalize nextP p = nx at *
        obtain ⟨na, nb⟩ := nx
        simp only at HN1 HN2
        go_wp2_with fail
        refine HN1.out.mono ?_
        rintro e w1 ⟨rfl, hb1⟩
        have B1 := hid hb1
        clear hb1
        go_wp2_with fail
        refine (HN2.out _ B1.out).mono ?_
        rintro e w2 ⟨rfl, hb2⟩
        have B2' := hid (B1.out.trans (hb2.mono B1.out.size))
        clear hb2
        have HDx := hid (HDw.out.below B2'.out).drew1
        have S0 : w2.drew.cell? ⟨B2, 0, none⟩ = some (.int .i64 p.now) ∧ Hid (Below w2.drew.heap.size w2.drew w2.drew) := ⟨by rw [← HNW.out]; exact HDx.out.q.holds.blk.cell (i := 0) rfl, Below.refl _ _⟩
        have HW3 := hid (fun w' (h : w'.cell? ⟨B2, 0, none⟩ = some (.int .i64 p.now) ∧ Hid (Below w2.drew.heap.size w2.drew w')) => (show Calls Try.prog 33 #[.pointer (some ⟨W.heap.size, 0, none⟩)] w' (fun e w3 => e = .returned (.int .i64 p.now) ∧ (w3.cell? ⟨B2, 0, none⟩ = some (.int .i64 p.now) ∧ Hid (Below w2.drew.heap.size w2.drew w3))) from (tnow_any w' W.heap.size W.heap.size v p (HDx.out.below h.2).p.holds).mono (fun e w3 g => ⟨g.1, g.2 ▸ h⟩)))
        generalize hq : w2.drew = WD at *
        have HQ2 := hid hq
        clear hq
        go_wp2_with fail
        go_region_held3 (fun w' => w'.cell? ⟨B2, 0, none⟩ = some (.int .i64 p.now) ∧ Hid (Below WD.heap.size WD w')) (first | assumption | (rw [HQ2.out]; exact S0))
          (first | (go_at_call 33; with_reducible refine (HW3.out _ (by assumption)).mono ?_; rintro r2 w5 ⟨rfl, hS5⟩))
        all_goals
          go_wp2_with fail
          go_roundw
          case rel =>
            have hb5 : Below w2.heap.size w2 w5 := drew_belT (by have := hS5.2.out; rw [← HQ2.out] at this; exact this)
            have hb6 := B2'.out.trans (hb5.mono B2'.out.size)
            exact ⟨k + 1, by omega, by go_num, hid (HT2.out.below hb6), hid (HBL.out.trans (hb6.mono HBL.out.size))⟩
          case measure => simp [RowKit.intOf]; omega
    · obtain rfl : k = x0.length := by omega
      have HBL := hid hbel.out
      go_wp2_with fail
      go_ret
      exact ⟨rfl, HBL.out⟩
end Go.Proofs.Ytalookaaogiinaa
