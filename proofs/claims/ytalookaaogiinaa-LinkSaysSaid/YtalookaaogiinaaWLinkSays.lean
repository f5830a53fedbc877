/-
  THE LAW LinkSays: an end of a link answers as the reference does, for every sequence of calls. No condition.
-/
import Derived.Test.YtalookaaogiinaaLkL
import Derived.Deep.CutBlock
import Derived.Deep.RegionLaw
namespace Go.Proofs.Ytalookaaogiinaa
open Go.RowKit Go.Lib
attribute [local go_sem ↓] Go.wp_at_zero Go.wp_at_succ

def frOf (y : D_api_Frame) : Frm := ⟨y.1, y.2.1, y.2.2.1, y.2.2.2.1, y.2.2.2.2.1⟩
def encSt (y : D_trouperef_LinkStep) : List Value := [.int .i64 y.1, .int .i64 y.2.1, .string y.2.2.1, .int .i64 y.2.2.2.1.1, .int .i64 y.2.2.2.1.2.1, .int .i64 y.2.2.2.1.2.2.1, .int .i64 y.2.2.2.1.2.2.2.1, .string y.2.2.2.1.2.2.2.2.1]
theorem encSt_len (y : D_trouperef_LinkStep) : (encSt y).length = 8 := rfl
theorem st_open {W : World} (cs : List Value) (y : D_trouperef_LinkStep) (h : R_trouperef_LinkStep W cs y) : cs = encSt y ∧ (-9223372036854775808 ≤ y.1 ∧ y.1 ≤ 9223372036854775807) := by
  obtain ⟨_, _, rfl, ⟨rfl, w1⟩, _, _, rfl, ⟨rfl, w2⟩, _, _, rfl, ⟨rfl, _⟩, _, _, rfl, ⟨_, _, rfl, ⟨rfl, _⟩, _, _, rfl, ⟨rfl, _⟩, _, _, rfl, ⟨rfl, _⟩, _, _, rfl, ⟨rfl, _⟩, _, _, rfl, ⟨rfl, _⟩, rfl⟩, rfl⟩ := h
  exact ⟨rfl, wf_i64 w1⟩
theorem drew_bel'' {w w' : World} (h : Below w.drew.heap.size w.drew w') : Below w.heap.size w w' := (drew_bel' (n := 1) (Below.refl _ _)).trans h
/-- the slot holds what is behind a call, and all that lies below is as it was -/
abbrev Kp (WD : World) (B : Nat) (n : Int) (w : World) : Prop := w.cell? ⟨B, 2, none⟩ = some (.int .i64 n) ∧ Hid (Below WD.heap.size WD w)

set_option maxRecDepth 100000 in
set_option maxHeartbeats 8000000 in
theorem law_LinkSays (v0 v1 v2 : Value) (x0 x1 : Int) (x2 : D_s_trouperef_LinkStep) (W : World) (i0 : IsInt .i64 W v0 x0) (i1 : IsInt .i64 W v1 x1) (i2 : R_s_trouperef_LinkStep W [v2] x2) :
    Calls Try.prog 3 #[v0, v1, v2] W fun e w' => e = .returned (.bool true) ∧ Below W.heap.size W w' := by
  obtain ⟨rfl, _⟩ := i0
  obtain ⟨rfl, _⟩ := i1
  obtain ⟨hl, hq, hb⟩ := slice_flat encSt _ st_open i2
  have HP := hid (pnew_any x0 x1 W)
  have HR := hid (fun wx => rnew_any x0 x1 wx)
  by_cases hnew : newE x0 x1 = 0
  · simp only [hnew, if_true] at HP HR
    have HL := hid hl
    have HQ := hid hq
    have hlen : x2.length ≤ 1800000000000 := by omega
    obtain ⟨ao, cap, hvv, _⟩ := id HL.out
    clear i2 hl hq hb hnew
    go_enter Try.func3, Try.ntmps3
    go_wp2_with fail
    refine HP.out.mono ?_
    rintro e w1 ⟨rfl, hP1, hb1⟩
    subst hvv
    have HP1 := hid hP1
    have HB1 := hid hb1
    clear hP1 hb1
    go_wp2_with fail
    refine (HR.out _).mono ?_
    rintro e w2 ⟨⟨B2, M, rfl, hR2⟩, hb2⟩
    have HD0 := hid (show InvL w2 W.heap.size W.heap.size B2 0 from by
      have hs1 := HB1.out.size
      refine ⟨_, _, _, _, ⟨(HP1.out.below hb2).part, (hR2.mono hs1).part, ?_⟩, side_new x0 x1⟩
      have h1 := hR2.le
      have h2 : w1.heap.size ≤ M := hR2.lm
      have h3 := HP1.out.blk.lt
      rintro k (e | e) (e2 | e2 | e2 | e2 | e2)
      all_goals first | omega | (have e3 : k = M := e2; omega) | (simp [Value.ownBlock] at e2; done) | (simp [Value.ownBlock] at e; done))
    have HB2 := hid (HB1.out.trans (hb2.mono HB1.out.size))
    clear hR2 hb2 HP1 HB1 HP HR
    go_wp2_with fail
    go_loopw [12, 46] (fun _ i wr => ∃ k : Nat, k ≤ x2.length ∧ i = .int .i64 k ∧ Hid (InvL wr W.heap.size W.heap.size B2 k) ∧ Hid (Below W.heap.size W wr)) (fun _ i _ => x2.length - (intOf i).toNat)
    case atStart => exact ⟨0, Nat.zero_le _, rfl, HD0, HB2⟩
    case round =>
      obtain ⟨k, hk, rfl, hT, hbel⟩ := hrel
      by_cases hlt : k < x2.length
      · have hlk := Lk.below HL.out hbel.out
        rcases hlk.open encSt_len (by decide) with ⟨_, _, _, e, _⟩ | ⟨lb, lo, cap', hv, _, hcap, hcap2, hc⟩
        · rw [e] at hlt; simp at hlt
        simp only [Value.slice.injEq, true_and] at hv
        obtain ⟨rfl, rfl⟩ := hv
        have y0 := hc k hlt 0 (by decide); have y1 := hc k hlt 1 (by decide); have y2 := hc k hlt 2 (by decide); have y3 := hc k hlt 3 (by decide); have y4 := hc k hlt 4 (by decide); have y5 := hc k hlt 5 (by decide); have y6 := hc k hlt 6 (by decide); have y7 := hc k hlt 7 (by decide)
        have hyq := HQ.out x2[k] (List.getElem_mem hlt)
        clear hc hlk
        generalize x2[k] = y at *
        obtain ⟨kind, n, body, ⟨fr, tt, seq, ack, fb, u1⟩, u2⟩ := y
        rw [show (encSt (kind, n, body, (fr, tt, seq, ack, fb, u1), u2))[0]? = some (.int .i64 kind) from rfl, Nat.add_zero] at y0; rw [show (encSt (kind, n, body, (fr, tt, seq, ack, fb, u1), u2))[1]? = some (.int .i64 n) from rfl] at y1; rw [show (encSt (kind, n, body, (fr, tt, seq, ack, fb, u1), u2))[2]? = some (.string body) from rfl] at y2; rw [show (encSt (kind, n, body, (fr, tt, seq, ack, fb, u1), u2))[3]? = some (.int .i64 fr) from rfl] at y3; rw [show (encSt (kind, n, body, (fr, tt, seq, ack, fb, u1), u2))[4]? = some (.int .i64 tt) from rfl] at y4; rw [show (encSt (kind, n, body, (fr, tt, seq, ack, fb, u1), u2))[5]? = some (.int .i64 seq) from rfl] at y5; rw [show (encSt (kind, n, body, (fr, tt, seq, ack, fb, u1), u2))[6]? = some (.int .i64 ack) from rfl] at y6; rw [show (encSt (kind, n, body, (fr, tt, seq, ack, fb, u1), u2))[7]? = some (.string fb) from rfl] at y7
        simp only at hyq
        have hstep := fun wx => step_no kind 4 wx hyq.1 hyq.2 (by omega) (by omega)
        have hmod : kind % 4 = 0 ∨ kind % 4 = 1 ∨ kind % 4 = 2 ∨ kind % 4 = 3 := by omega
        generalize kind % 4 = q at *
        have HST := hid hstep
        clear hstep hyq
        have hsz := hbel.out.size
        have hk2 : k ≤ 2000000000000 := by omega
        go_upto_block 2 with (go_at_call 9; refine (HST.out _).mono ?_; rintro e w' ⟨rfl, rfl⟩)
        go_cut [13] (fun gd wx => gd = .bool true ∧ Hid (InvL wx W.heap.size W.heap.size B2 (k + 1)) ∧ Hid (Below W.heap.size W wx))
        case first =>
          obtain ⟨v, p, s, r, hD, hS⟩ := hT.out
          have hD0 := hD.alloc (.cells #[.int .i64 kind, .int .i64 n, .string body, .int .i64 fr, .int .i64 tt, .int .i64 seq, .int .i64 ack, .string fb] 33)
          have hxb := Blk.new wr #[.int .i64 kind, .int .i64 n, .string body, .int .i64 fr, .int .i64 tt, .int .i64 seq, .int .i64 ack, .string fb] 33 _ rfl
          have hbel0 : Below W.heap.size W (wr.alloc (.cells #[.int .i64 kind, .int .i64 n, .string body, .int .i64 fr, .int .i64 tt, .int .i64 seq, .int .i64 ack, .string fb] 33)) := hbel.out.alloc hsz _
          obtain ⟨w0, hw0⟩ : ∃ w0, w0 = wr.alloc (.cells #[.int .i64 kind, .int .i64 n, .string body, .int .i64 fr, .int .i64 tt, .int .i64 seq, .int .i64 ack, .string fb] 33) := ⟨_, rfl⟩
          rw [← hw0] at hD0 hxb hbel0
          rw [← hw0]
          have n1 : ∀ k, footL W.heap.size v k → k ≠ wr.heap.size := fun k hk => by have := (hD.p.lt k hk).2; omega
          have n2 : ∀ k, footR B2 p k → k ≠ wr.heap.size := fun k hk => by have := (hD.q.lt k hk).2; omega
          have c0 := hxb.cell (i := 0) rfl
          have c1 := hxb.cell (i := 1) rfl
          have c2 := hxb.cell (i := 2) rfl
          have c3 := hxb.cell (i := 3) rfl
          have c4 := hxb.cell (i := 4) rfl
          have c5 := hxb.cell (i := 5) rfl
          have c6 := hxb.cell (i := 6) rfl
          have c7 := hxb.cell (i := 7) rfl
          have HDD := hid hD0
          have HXB := hid hxb
          have HB0 := hid hbel0
          have HS := hid hS
          have HOP := hid (hS.okP hk2)
          have HOR := hid (hS.okR hk2)
          have N1 := hid n1
          have N2 := hid n2
          have HDd := hid hD0.drew1
          have hsl := hS.sent
          have hall := hS.rel.all
          have hack := hS.rel.ack0
          have hol := hS.rel.len
          have hcm := hS.came
          have hct := hS.cnt
          have b1 : s.waits.length ≤ 2000000000000 := by omega
          have b2 : r.offered.length ≤ 2000000000000 := by omega
          have b3 : r.sent.length ≤ 2000000000000 := by omega
          have b4 : r.came.length ≤ 8000000000000 := by omega
          have b5 : r.cnt ≤ 8000000000000 := by omega
          have b6 : 0 ≤ s.came ∧ s.came ≤ 8000000000000 := by have := hS.rel.came; omega
          have HBS := hid (And.intro b1 (And.intro b2 (And.intro b3 (And.intro b4 (And.intro b5 b6)))))
          clear hD0 hxb hbel0 hS hD hw0 n1 n2 y0 y1 y2 y3 y4 y5 y6 y7 hsl hall hack hol hcm hct b1 b2 b3 b4 b5 b6
          rcases hmod with rfl | rfl | rfl | rfl
          · have HA := hid (fun wx h => poffer_any wx W.heap.size W.heap.size v s body HBS.out.1 h)
            have HB := hid (fun wx h => roffer_any wx W.heap.size B2 p r body HBS.out.2.1 HBS.out.2.2.1 h)
            have HSO := hid (side_off HS.out body)
            unfold offS offR at HSO
            generalize offE body = er at *
            go_wp2_with fail
            go_region_held3 (fun w' => w'.cell? ⟨wr.heap.size, 2, none⟩ = some (.string body)) (first | exact c2 | exact C2.out | exact C1.out)
              (first | (go_at_call 10; refine (HA.out _ HDd.out.p.holds).mono ?_; rintro e w1 ⟨rfl, hp⟩; obtain ⟨v1', hd1, ht1⟩ := lk_left HDd.out hp; have X1 := hid (Blk.touch (w := w0.drew) HXB.out ht1 (fun e => N1.out _ e rfl)); have C1 := hid (X1.out.cell (i := 2) rfl); have M1 := hid (And.intro hd1 ht1); clear hp hd1 ht1) | (go_at_call 11; refine (HB.out _ M1.out.1.q.holds).mono ?_; rintro e w2 ⟨rfl, hp⟩; obtain ⟨v2', hd2, ht2⟩ := lk_right M1.out.1 hp; have X2 := hid (Blk.touch X1.out ht2 (fun e => N2.out _ e rfl)); have C2 := hid (X2.out.cell (i := 2) rfl); have M2 := hid (And.intro hd2 ht2); clear hp hd2 ht2))
            all_goals
              go_wp2_with fail
              go_meet
              have b1 : Below W.heap.size W w1 := (HB0.out.trans (drew_bel' (n := 1) (Below.refl _ _))).trans (HDd.out.p.under M1.out.2 (Nat.le_refl _))
              exact ⟨rfl, hid ⟨_, _, _, _, M2.out.1, HSO.out⟩, hid (b1.trans (M1.out.1.q.under M2.out.2 (Nat.le_refl _)))⟩
          · have HA := hid (pout_any w0 W.heap.size W.heap.size v s HOP.out HDD.out.p.holds)
            have HB := hid (fun wx h => rout_any wx W.heap.size B2 p r HOR.out h)
            have HSO := hid (side_out HS.out)
            rw [HSO.out.2] at HB
            generalize outF s = fs at *
            go_wp2_with fail
            refine HA.out.mono ?_
            rintro e w1 ⟨u1, rfl, ho1, hp⟩
            obtain ⟨v1', hd1, ht1⟩ := lk_left HDD.out hp
            have M1 := hid (And.intro hd1 ht1)
            have O1 := hid ho1
            clear hp hd1 ht1 ho1
            go_wp2_with fail
            refine (HB.out _ M1.out.1.q.holds).mono ?_
            rintro e w2 ⟨u2, rfl, ho2, hp⟩
            obtain ⟨v2', hd2, ht2⟩ := lk_right M1.out.1 hp
            have M2 := hid (And.intro hd2 ht2)
            have O2 := hid ho2
            have O3 := hid (own_past HDD.out.q O1.out ht2)
            clear hp hd2 ht2 ho2
            have heq := eq_Fe u1 u2 (fs.map feOf) (fs.map feOf) w2 (fe_lk O3.out) (fe_lk O2.out)
            rw [decide_eq_true rfl] at heq
            have HEQ := hid heq
            clear heq
            go_wp2_with fail
            refine HEQ.out.mono ?_
            rintro e w3 ⟨rfl, hb3⟩
            go_wp2_with fail
            go_meet
            have b1 : Below W.heap.size W w1 := HB0.out.trans (HDD.out.p.under M1.out.2 (Nat.le_refl _))
            have b2 := b1.trans (M1.out.1.q.under M2.out.2 (Nat.le_refl _))
            exact ⟨rfl, hid (InvL.below ⟨_, _, _, _, M2.out.1, HSO.out.1⟩ hb3), hid (b2.trans (hb3.mono b2.size))⟩
          · have HA := hid (fun wx h => ptick_any wx W.heap.size W.heap.size v s n HS.out.rel.now0 h)
            have HB := hid (fun wx h => rtick_any wx W.heap.size B2 p r n (by rw [HS.out.rel.now]; exact HS.out.rel.now0) h)
            have HSO := hid (side_tick HS.out n)
            unfold tickS tickR at HSO
            rw [show tickE r.now n = tickE s.now n by rw [HS.out.rel.now]] at HB HSO
            generalize tickE s.now n = er at *
            go_wp2_with fail
            go_region_held3 (fun w' => w'.cell? ⟨wr.heap.size, 1, none⟩ = some (.int .i64 n)) (first | exact c1 | exact C2.out | exact C1.out)
              (first | (go_at_call 15; refine (HA.out _ HDd.out.p.holds).mono ?_; rintro e w1 ⟨rfl, hp⟩; obtain ⟨v1', hd1, ht1⟩ := lk_left HDd.out hp; have X1 := hid (Blk.touch (w := w0.drew) HXB.out ht1 (fun e => N1.out _ e rfl)); have C1 := hid (X1.out.cell (i := 1) rfl); have M1 := hid (And.intro hd1 ht1); clear hp hd1 ht1) | (go_at_call 16; refine (HB.out _ M1.out.1.q.holds).mono ?_; rintro e w2 ⟨rfl, hp⟩; obtain ⟨v2', hd2, ht2⟩ := lk_right M1.out.1 hp; have X2 := hid (Blk.touch X1.out ht2 (fun e => N2.out _ e rfl)); have C2 := hid (X2.out.cell (i := 1) rfl); have M2 := hid (And.intro hd2 ht2); clear hp hd2 ht2))
            all_goals
              go_wp2_with fail
              go_meet
              have b1 : Below W.heap.size W w1 := (HB0.out.trans (drew_bel' (n := 1) (Below.refl _ _))).trans (HDd.out.p.under M1.out.2 (Nat.le_refl _))
              exact ⟨rfl, hid ⟨_, _, _, _, M2.out.1, HSO.out⟩, hid (b1.trans (M1.out.1.q.under M2.out.2 (Nat.le_refl _)))⟩
          · have HA := hid (pin_any w0 W.heap.size W.heap.size v s ⟨fr, tt, seq, ack, fb⟩ HOP.out HS.out.high HBS.out.2.2.2.2.2 HDD.out.p.holds)
            have HB := hid (fun wx h => rin_any wx W.heap.size B2 p r ⟨fr, tt, seq, ack, fb⟩ HOR.out HS.out.far HBS.out.2.2.2.1 HBS.out.2.2.2.2.1 h)
            rw [HS.out.rel.me, HS.out.rel.other] at HB
            unfold frmV at HA HB
            by_cases hin : inE s.me s.other ⟨fr, tt, seq, ack, fb⟩ = 0
            · simp only [hin, if_true] at HA HB
              have HSI := hid (side_in HS.out ⟨fr, tt, seq, ack, fb⟩ (inE_chk hin))
              rw [HSI.out.2] at HB
              have HSJ := hid HSI.out.1
              clear HSI hin
              generalize inP s ⟨fr, tt, seq, ack, fb⟩ = ip at *
              generalize inR r ⟨fr, tt, seq, ack, fb⟩ = ir at *
              obtain ⟨gs, s'⟩ := ip
              simp only at HA HB HSJ
              go_wp2_with fail
              refine HA.out.mono ?_
              rintro e w1 ⟨u1, rfl, ho1, hp⟩
              obtain ⟨v1', hd1, ht1⟩ := lk_left HDD.out hp
              have M1 := hid (And.intro hd1 ht1)
              have O1 := hid ho1
              have X1 := hid (Blk.touch HXB.out ht1 (fun e => N1.out _ e rfl))
              clear hp hd1 ht1 ho1 c0 c1 c2 c3 c4 c5 c6 c7
              have c3 := X1.out.cell (i := 3) rfl
              have c4 := X1.out.cell (i := 4) rfl
              have c5 := X1.out.cell (i := 5) rfl
              have c6 := X1.out.cell (i := 6) rfl
              have c7 := X1.out.cell (i := 7) rfl
              go_wp2_with fail
              refine (HB.out _ M1.out.1.q.holds).mono ?_
              rintro e w2 ⟨u2, rfl, ho2, hp⟩
              obtain ⟨v2', hd2, ht2⟩ := lk_right M1.out.1 hp
              have M2 := hid (And.intro hd2 ht2)
              have O2 := hid ho2
              have O3 := hid (own_past HDD.out.q O1.out ht2)
              clear hp hd2 ht2 ho2
              have heq := eq_str u1 u2 gs gs w2 (own_sl O3.out) (own_sl O2.out)
              rw [decide_eq_true rfl] at heq
              have HEQ := hid heq
              clear heq
              go_wp2_with fail
              refine HEQ.out.mono ?_
              rintro e w3 ⟨rfl, rfl⟩
              go_wp2_with fail
              go_meet
              have b1 : Below W.heap.size W w1 := HB0.out.trans (HDD.out.p.under M1.out.2 (Nat.le_refl _))
              have b2 := b1.trans (M1.out.1.q.under M2.out.2 (Nat.le_refl _))
              exact ⟨rfl, hid ⟨_, _, _, _, M2.out.1, HSJ.out⟩, hid b2⟩
            · simp only [hin, if_false] at HA HB
              have HSJ := hid (show SideL s r (k + 1) from ⟨HS.out.rel, HS.out.idle, Nat.le_succ_of_le HS.out.sent, Nat.le_succ_of_le HS.out.cnt, by have := HS.out.came; omega⟩)
              generalize inE s.me s.other ⟨fr, tt, seq, ack, fb⟩ = er at *
              go_wp2_with fail
              refine HA.out.mono ?_
              rintro e w1 ⟨rfl, hp⟩
              obtain ⟨v1', hd1, ht1⟩ := lk_left HDD.out hp
              have M1 := hid (And.intro hd1 ht1)
              have X1 := hid (Blk.touch HXB.out ht1 (fun e => N1.out _ e rfl))
              clear hp hd1 ht1 c0 c1 c2 c3 c4 c5 c6 c7
              have c3 := X1.out.cell (i := 3) rfl
              have c4 := X1.out.cell (i := 4) rfl
              have c5 := X1.out.cell (i := 5) rfl
              have c6 := X1.out.cell (i := 6) rfl
              have c7 := X1.out.cell (i := 7) rfl
              go_wp2_with fail
              refine (HB.out _ M1.out.1.q.holds).mono ?_
              rintro e w2 ⟨rfl, hp⟩
              obtain ⟨v2', hd2, ht2⟩ := lk_right M1.out.1 hp
              have M2 := hid (And.intro hd2 ht2)
              clear hp hd2 ht2
              have heq := eq_str (.slice none 0 0) (.slice none 0 0) [] [] w2 ⟨none, 0, rfl, Nat.le_refl _, by omega, fun _ => rfl, .inl rfl⟩ ⟨none, 0, rfl, Nat.le_refl _, by omega, fun _ => rfl, .inl rfl⟩
              rw [decide_eq_true rfl] at heq
              have HEQ := hid heq
              clear heq
              go_wp2_with fail
              refine HEQ.out.mono ?_
              rintro e w3 ⟨rfl, rfl⟩
              go_wp2_with fail
              go_meet
              have b1 : Below W.heap.size W w1 := HB0.out.trans (HDD.out.p.under M1.out.2 (Nat.le_refl _))
              have b2 := b1.trans (M1.out.1.q.under M2.out.2 (Nat.le_refl _))
              exact ⟨rfl, hid ⟨_, _, _, _, M2.out.1, HSJ.out⟩, hid b2⟩
        case rest =>
          obtain ⟨rfl, hT', hbel'⟩ := hcut
          obtain ⟨v, p, s, r, hD, hS⟩ := hT'.out
          have HDw := hid hD.drew1
          have hk3 : (r.offered.length : Int) ≤ 2000000000000 := by have := hS.sent; have := hS.rel.len; omega
          have HN := hid hS.rel.now
          have HA1 := hid (show 0 ≤ r.acked ∧ r.acked ≤ r.offered.length from by have := hS.rel.acked; have := hS.rel.ack0; have := hS.rel.all; have := hS.rel.len; omega)
          have HWW := hid hS.waits
          have HK3 := hid (show r.offered.length ≤ 2000000000000 from by omega)
          have HT2 := hid hT'.out
          have HBL := hid hbel'.out
          have S0 : Kp wc.drew B2 s.now wc.drew := ⟨by rw [← HN.out]; exact HDw.out.q.holds.blk.cell (i := 2) rfl, Below.refl _ _⟩
          have HW1 := hid (fun w' (h : Kp wc.drew B2 s.now w') => (show Calls Try.prog 20 #[.pointer (some ⟨W.heap.size, 0, none⟩)] w' (fun e w2 => e = .returned (.int .i64 s.waits.length) ∧ Kp wc.drew B2 s.now w2) from (pwaits_any w' W.heap.size W.heap.size v s (HDw.out.below h.2).p.holds).mono (fun e w2 g => ⟨g.1, g.2 ▸ h⟩)))
          have HW2 := hid (fun w' (h : Kp wc.drew B2 s.now w') => (show Calls Try.prog 21 #[.pointer (some ⟨B2, 0, none⟩)] w' (fun e w2 => e = .returned (.int .i64 s.waits.length) ∧ Kp wc.drew B2 s.now w2) from (rwaits_any w' W.heap.size B2 p r HA1.out HK3.out (HDw.out.below h.2).q.holds).mono (fun e w2 g => ⟨by rw [g.1, HWW.out], by rw [← HN.out]; exact ((HDw.out.below h.2).below g.2).q.holds.blk.cell (i := 2) rfl, h.2.trans (g.2.mono h.2.size)⟩)))
          have HW3 := hid (fun w' (h : Kp wc.drew B2 s.now w') => (show Calls Try.prog 22 #[.pointer (some ⟨W.heap.size, 0, none⟩)] w' (fun e w2 => e = .returned (.int .i64 s.now) ∧ Kp wc.drew B2 s.now w2) from (pnow_any w' W.heap.size W.heap.size v s (HDw.out.below h.2).p.holds).mono (fun e w2 g => ⟨g.1, g.2 ▸ h⟩)))
          clear hT' hbel' hD hS hk3 HN HA1 HWW HK3 hT hbel HST hmod
          generalize hq : wc.drew = WD at *
          have HQ2 := hid hq
          clear hq
          go_wp2_with fail
          go_region_held3 (fun w' => w'.cell? ⟨B2, 2, none⟩ = some (.int .i64 s.now) ∧ Hid (Below WD.heap.size WD w')) (first | assumption | (rw [HQ2.out]; exact S0))
            (first | (go_at_call 20; with_reducible refine (HW1.out _ (by assumption)).mono ?_; rintro r2 w5 ⟨rfl, hS5⟩) | (go_at_call 21; with_reducible refine (HW2.out _ (by assumption)).mono ?_; rintro r2 w5 ⟨rfl, hS5⟩) | (go_at_call 22; with_reducible refine (HW3.out _ (by assumption)).mono ?_; rintro r2 w5 ⟨rfl, hS5⟩))
          all_goals
            go_wp2_with fail
            go_roundw
            case rel => exact ⟨k + 1, by omega, by go_num, hid (HT2.out.below (by have := hS5.2.out; rw [← HQ2.out] at this; exact drew_bel'' this)), hid (HBL.out.trans ((drew_bel'' (by have := hS5.2.out; rw [← HQ2.out] at this; exact this)).mono HBL.out.size))⟩
            case measure => simp [RowKit.intOf]; omega
      · obtain rfl : k = x2.length := by omega
        obtain ⟨v, p, s, r, hD, hS⟩ := hT.out
        have hk2 : x2.length ≤ 2000000000000 := by omega
        have HOP := hid (hS.okP hk2)
        have HOR := hid (hS.okR hk2)
        have HDD := hid hD
        have HSO := hid (side_out hS)
        have HBL := hid hbel.out
        clear hD hS hT hbel
        have HA := hid (pout_any wr W.heap.size W.heap.size v s HOP.out HDD.out.p.holds)
        have HB := hid (fun wx h => rout_any wx W.heap.size B2 p r HOR.out h)
        rw [HSO.out.2] at HB
        generalize outF s = fs at *
        go_wp2_with fail
        refine HA.out.mono ?_
        rintro e w1 ⟨u1, rfl, ho1, hp⟩
        obtain ⟨v1', hd1, ht1⟩ := lk_left HDD.out hp
        have M1 := hid (And.intro hd1 ht1)
        have O1 := hid ho1
        clear hp hd1 ht1 ho1
        go_wp2_with fail
        refine (HB.out _ M1.out.1.q.holds).mono ?_
        rintro e w2 ⟨u2, rfl, ho2, hp⟩
        obtain ⟨v2', hd2, ht2⟩ := lk_right M1.out.1 hp
        have M2 := hid (And.intro hd2 ht2)
        have O2 := hid ho2
        have O3 := hid (own_past HDD.out.q O1.out ht2)
        clear hp hd2 ht2 ho2
        have heq := eq_Fe u1 u2 (fs.map feOf) (fs.map feOf) w2 (fe_lk O3.out) (fe_lk O2.out)
        rw [decide_eq_true rfl] at heq
        have HEQ := hid heq
        clear heq
        go_wp2_with fail
        refine HEQ.out.mono ?_
        rintro e w3 ⟨rfl, hb3⟩
        go_wp2_with fail
        go_ret
        have b1 : Below W.heap.size W w1 := HBL.out.trans (HDD.out.p.under M1.out.2 (Nat.le_refl _))
        have b2 := b1.trans (M1.out.1.q.under M2.out.2 (Nat.le_refl _))
        exact ⟨rfl, b2.trans (hb3.mono b2.size)⟩
  · simp only [hnew, if_false] at HP HR
    have h0 : newE x0 x1 = 1 := by
      unfold newE at hnew ⊢
      split
      · rfl
      · rename_i g; rw [if_neg g] at hnew; exact absurd rfl hnew
    clear i2 hl hq hb
    go_enter Try.func3, Try.ntmps3
    go_wp2_with fail
    refine HP.out.mono ?_
    rintro e w1 ⟨rfl, hb1⟩
    go_wp2_with fail
    refine (HR.out _).mono ?_
    rintro e w2 ⟨rfl, hb2⟩
    go_wp2_with fail
    go_ret
    exact ⟨rfl, hb1.trans (hb2.mono hb1.size)⟩
end Go.Proofs.Ytalookaaogiinaa
