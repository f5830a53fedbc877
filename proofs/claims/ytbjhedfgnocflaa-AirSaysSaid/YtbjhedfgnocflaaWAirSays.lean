/-
  THE LAW AirSays: a medium answers as the reference does, for every sequence of calls. No condition.
-/
import Derived.Test.YtbjhedfgnocflaaAirF
import Derived.Test.YtbjhedfgnocflaaPart
import Derived.Test.YtbjhedfgnocflaaDecA
import Derived.Deep.CutBlock
namespace Go.Proofs.Ytbjhedfgnocflaa
open Go.RowKit Go.Lib
attribute [local go_sem ↓] Go.wp_at_zero Go.wp_at_succ

def encAs (y : D_trouperef_AirStep) : List Value := [.int .i64 y.1, .int .i64 y.2.1, .int .i64 y.2.2.1, .int .i64 y.2.2.2.1, .string y.2.2.2.2.1]
theorem encAs_len (y : D_trouperef_AirStep) : (encAs y).length = 5 := rfl
theorem as_open {W : World} (cs : List Value) (y : D_trouperef_AirStep) (h : R_trouperef_AirStep W cs y) : cs = encAs y ∧ (-9223372036854775808 ≤ y.1 ∧ y.1 ≤ 9223372036854775807) ∧ (-9223372036854775808 ≤ y.2.2.1 ∧ y.2.2.1 ≤ 9223372036854775807) ∧ (-9223372036854775808 ≤ y.2.2.2.1 ∧ y.2.2.2.1 ≤ 9223372036854775807) := by
  obtain ⟨_, _, rfl, ⟨rfl, w1⟩, _, _, rfl, ⟨rfl, w2⟩, _, _, rfl, ⟨rfl, w3⟩, _, _, rfl, ⟨rfl, w4⟩, _, _, rfl, ⟨rfl, _⟩, rfl⟩ := h
  exact ⟨rfl, wf_i64 w1, wf_i64 w3, wf_i64 w4⟩

theorem ABox.part {ty E : TypeId} {w : World} {base B : Nat} {v : Value} {xs : List Way} (h : ABox ty E w base B v xs) : Part base (footA B v) (fun w => ABox ty E w base B v xs) w := by
  refine ⟨h, h.base, ?_, ?_⟩
  · rintro k (e | e)
    · subst e; exact ⟨h.le, h.blk.lt⟩
    · exact h.own.lt k e
  · intro w' hs hb
    exact ⟨h.blk.same (hb B (.inl rfl)), own_same h.own (fun k hk => hb k (.inr hk)), h.ne, h.le, Nat.le_trans h.base hs⟩
abbrev DuoA (w : World) (base B1 B2 : Nat) (v1 v2 : Value) (xs ys : List Way) : Prop :=
  Duo base (footA B1 v1) (footA B2 v2) (fun w => ABox 81 152 w base B1 v1 xs) (fun w => ABox 85 92 w base B2 v2 ys) w
theorem FreshA.foot {w : World} {B : Nat} {v v' : Value} (h : FreshA w v v') : ∀ k, footA B v' k → footA B v k ∨ w.heap.size ≤ k := by
  rintro k (e | e)
  · exact .inl (.inl e)
  · rcases h k e with e | e
    · exact .inl (.inr e)
    · exact .inr e
theorem post_left {w w' : World} {base B1 B2 : Nat} {v1 v2 ans : Value} {xs ys zs : List Way} {e : Ending} (h : DuoA w base B1 B2 v1 v2 xs ys) (hp : AirPost 81 152 w base B1 v1 ans zs e w') :
    ∃ v1', e = .returned ans ∧ DuoA w' base B1 B2 v1' v2 zs ys ∧ Touch (footA B1 v1) w w' := by
  obtain ⟨v', rfl, hm, ht, hf⟩ := hp
  exact ⟨v', rfl, h.left hm.part ht hf.foot, ht⟩
theorem post_right {w w' : World} {base B1 B2 : Nat} {v1 v2 ans : Value} {xs ys zs : List Way} {e : Ending} (h : DuoA w base B1 B2 v1 v2 xs ys) (hp : AirPost 85 92 w base B2 v2 ans zs e w') :
    ∃ v2', e = .returned ans ∧ DuoA w' base B1 B2 v1 v2' xs zs ∧ Touch (footA B2 v2) w w' := by
  obtain ⟨v', rfl, hm, ht, hf⟩ := hp
  exact ⟨v', rfl, h.right hm.part ht hf.foot, ht⟩

def okA (xs : List Way) : Prop := (∀ x ∈ xs, x.text.size ≤ 100) ∧ xs.length ≤ 40
def InvA (w : World) (base B1 B2 : Nat) (xs : List Way) : Prop := ∃ v1 v2, DuoA w base B1 B2 v1 v2 xs xs ∧ okA xs

theorem put_ok {dd : Int} {t : ByteArray} {xs : List Way} (h : okA xs) : okA (putL dd t xs) := by
  unfold putL putE
  by_cases h1 : dd < 0 ∨ 2 < dd
  · rw [if_pos h1, if_neg (by decide)]; exact h
  rw [if_neg h1]
  by_cases h2 : 100 < t.size
  · rw [if_pos h2, if_neg (by decide)]; exact h
  rw [if_neg h2]
  by_cases h3 : 40 ≤ xs.length
  · rw [if_pos h3, if_neg (by decide)]; exact h
  rw [if_neg h3, if_pos rfl]
  refine ⟨?_, by simp; omega⟩
  intro x hx
  rcases List.mem_append.1 hx with hx | hx
  · exact h.1 x hx
  · simp at hx; subst hx; exact Nat.le_of_not_lt h2
theorem take_ok {k : Int} {xs : List Way} (h : okA xs) : okA (takeL k xs) := by
  unfold takeL
  split
  · refine ⟨fun x hx => h.1 x (List.mem_of_mem_eraseIdx hx), ?_⟩
    have := List.length_eraseIdx_le xs k.toNat
    have := h.2
    omega
  · exact h
theorem tw_ok {k : Int} {xs : List Way} (h : okA xs) : okA (twL k xs) := by
  unfold twL
  split
  · exact put_ok h
  · exact h
theorem turnT_size (s : ByteArray) (a b : Int) : (turnT s a b).size = s.size := by
  unfold turnT turnB
  split
  · rfl
  · rw [S_size, List.length_set]; simp
theorem turn_ok {k a b : Int} {xs : List Way} (h : okA xs) : okA (turnL k a b xs) := by
  unfold turnL
  split
  · rename_i hin
    refine ⟨?_, by rw [List.length_set]; exact h.2⟩
    intro x hx
    rcases List.mem_or_eq_of_mem_set hx with hx | hx
    · exact h.1 x hx
    · subst hx
      show (turnT _ a b).size ≤ 100
      rw [turnT_size]
      obtain ⟨i, rfl⟩ := Int.eq_ofNat_of_zero_le hin.1
      have hi : i < xs.length := by have := hin.2; omega
      rw [atW_get hi]
      exact h.1 _ (List.getElem_mem hi)
  · exact h
theorem take_forms (k : Int) (xs : List Way) : ∃ a t e, takeV k xs = .tuple #[.int .i64 a, .string t, .int .i64 e] ∧ takeR k xs = .tuple #[.agg #[.int .i64 a, .string t], .int .i64 e] ∧ e = if inA k xs then 0 else 13 := by
  unfold takeV takeR
  by_cases h : inA k xs
  · rw [if_pos h, if_pos h, if_pos h]; exact ⟨_, _, _, rfl, rfl, rfl⟩
  · rw [if_neg h, if_neg h, if_neg h]; exact ⟨_, _, _, rfl, rfl, rfl⟩

theorem inv_start (W : World) : DuoA ((W.alloc (.cells #[.slice none 0 0] 81)).alloc (.cells #[.slice none 0 0] 85)) W.heap.size W.heap.size (W.heap.size + 1) (.slice none 0 0) (.slice none 0 0) [] [] := by
  refine ⟨ABox.part ⟨(Blk.new W _ _ _ rfl).alloc _, World.ownsRow_nil _ _ _ _, by simp [Value.ownBlock], Nat.le_refl _, by simp; omega⟩, ABox.part ⟨Blk.new _ _ _ _ (by simp), World.ownsRow_nil _ _ _ _, by simp [Value.ownBlock], by omega, by simp; omega⟩, ?_⟩
  rintro k (e | e) (e2 | e2)
  · omega
  · simp [Value.ownBlock] at e2
  · simp [Value.ownBlock] at e
  · simp [Value.ownBlock] at e

set_option maxRecDepth 100000 in
set_option maxHeartbeats 8000000 in
theorem law_AirSays (v0 : Value) (x0 : D_s_trouperef_AirStep) (W : World) (i0 : R_s_trouperef_AirStep W [v0] x0) :
    Calls Try.prog 12 #[v0] W fun e w' => e = .returned (.bool true) ∧ Below W.heap.size W w' := by
  obtain ⟨hl, hq, hb⟩ := slice_flat encAs _ as_open i0
  have HL := hid hl
  have HQ := hid hq
  have hI := inv_start W
  have hput := aput_any _ _ _ _ [] 3 ⟨#[]⟩ hI.p.holds (by simp)
  have HI := hid hI
  have HPUT := hid hput
  obtain ⟨ao, cap, hvv, _⟩ := id HL.out
  clear i0 hl hq hI hput
  go_enter Try.func12, Try.ntmps12
  subst hvv
  go_wp2_with fail
  refine HPUT.out.mono ?_
  intro e w1 hp
  obtain ⟨v1, rfl, hD, ht⟩ := post_left HI.out hp
  have HT := hid ht
  have HD := hid hD
  clear hp hD ht
  rw [show putE 3 ⟨#[]⟩ [] = 1 from rfl]
  go_wp2_with fail
  go_loopw [24] (fun i wr => ∃ (k : Nat) (xs : List Way), k ≤ x0.length ∧ i = .int .i64 k ∧ Hid (InvA wr W.heap.size W.heap.size (W.heap.size + 1) xs) ∧ Below W.heap.size W wr) (fun i _ => x0.length - (intOf i).toNat)
  case atStart =>
    have b0 : Below W.heap.size W ((W.alloc (.cells #[.slice none 0 0] 81)).alloc (.cells #[.slice none 0 0] 85)) := ((Below.refl _ _).alloc (Nat.le_refl _) _).alloc (by simp) _
    exact ⟨0, [], Nat.zero_le _, rfl, ⟨v1, _, HD.out, (fun x hx => by cases hx), by simp⟩, b0.trans (HI.out.p.under HT.out (Nat.le_refl _))⟩
  case round =>
    obtain ⟨k, xs, hk, rfl, hT, hbel⟩ := hrel
    by_cases hlt : k < x0.length
    · have hlk := Lk.below HL.out hbel
      rcases hlk.open encAs_len (by decide) with ⟨_, _, _, e, _⟩ | ⟨lb, lo, cap', hv, _, hcap, hcap2, hc⟩
      · rw [e] at hlt; simp at hlt
      simp only [Value.slice.injEq, true_and] at hv
      obtain ⟨rfl, rfl⟩ := hv
      have y0 := hc k hlt 0 (by decide); have y1 := hc k hlt 1 (by decide); have y2 := hc k hlt 2 (by decide); have y3 := hc k hlt 3 (by decide); have y4 := hc k hlt 4 (by decide)
      have hyq := HQ.out x0[k] (List.getElem_mem hlt)
      clear hc hlk
      generalize x0[k] = y at *
      obtain ⟨kind, a, b, c, s, u⟩ := y
      rw [show (encAs (kind, a, b, c, s, u))[0]? = some (.int .i64 kind) from rfl, Nat.add_zero] at y0; rw [show (encAs (kind, a, b, c, s, u))[1]? = some (.int .i64 a) from rfl] at y1; rw [show (encAs (kind, a, b, c, s, u))[2]? = some (.int .i64 b) from rfl] at y2; rw [show (encAs (kind, a, b, c, s, u))[3]? = some (.int .i64 c) from rfl] at y3; rw [show (encAs (kind, a, b, c, s, u))[4]? = some (.string s) from rfl] at y4
      simp only at hyq
      have hstep := fun wx => step_no kind 5 wx hyq.1.1 hyq.1.2 (by omega) (by omega)
      have hmod : kind % 5 = 0 ∨ kind % 5 = 1 ∨ kind % 5 = 2 ∨ kind % 5 = 3 ∨ kind % 5 = 4 := by omega
      generalize kind % 5 = q at *
      have HST := hid hstep
      have HY := hid hyq
      clear hstep hyq
      have hsz := hbel.size
      go_upto_block 2 with (go_at_call 37; refine (HST.out _).mono ?_; rintro e w' ⟨rfl, rfl⟩)
      go_cut [7] (fun gd wx => gd = .bool true ∧ ∃ (xs' : List Way), Hid (InvA wx W.heap.size W.heap.size (W.heap.size + 1) xs') ∧ Below W.heap.size W wx)
      case first =>
        obtain ⟨v1, v2, hD, hok⟩ := hT.out
        have hD0 := hD.alloc (.cells #[.int .i64 kind, .int .i64 a, .int .i64 b, .int .i64 c, .string s] 88)
        have hxb := Blk.new wr #[.int .i64 kind, .int .i64 a, .int .i64 b, .int .i64 c, .string s] 88 _ rfl
        have hbel0 : Below W.heap.size W (wr.alloc (.cells #[.int .i64 kind, .int .i64 a, .int .i64 b, .int .i64 c, .string s] 88)) := hbel.alloc hsz _
        obtain ⟨w0, hw0⟩ : ∃ w0, w0 = wr.alloc (.cells #[.int .i64 kind, .int .i64 a, .int .i64 b, .int .i64 c, .string s] 88) := ⟨_, rfl⟩
        rw [← hw0] at hD0 hxb hbel0
        rw [← hw0]
        have hsz0 : wr.heap.size + 1 = w0.heap.size := by rw [hw0]; simp
        have n1 : ∀ k, footA W.heap.size v1 k → k ≠ wr.heap.size := fun k hk => by have := (hD.p.lt k hk).2; omega
        have n2 : ∀ k, footA (W.heap.size + 1) v2 k → k ≠ wr.heap.size := fun k hk => by have := (hD.q.lt k hk).2; omega
        have c0 := hxb.cell (i := 0) rfl
        have c1 := hxb.cell (i := 1) rfl
        have c2 := hxb.cell (i := 2) rfl
        have c3 := hxb.cell (i := 3) rfl
        have c4 := hxb.cell (i := 4) rfl
        have HDD := hid hD0
        have HXB := hid hxb
        have HB0 := hid hbel0
        have HOK := hid hok
        have HS0 := hid hsz0
        have N1 := hid n1
        have N2 := hid n2
        clear hD0 hxb hbel0 hok hD hw0 n1 n2 hsz0 y0 y1 y2 y3 y4
        rcases hmod with rfl | rfl | rfl | rfl | rfl
        · go_wp2_with fail
          have hd := HDD.out.drew1
          have HDd := hid hd
          clear hd
          go_region_held3 (fun w' => w'.cell? ⟨wr.heap.size, 1, none⟩ = some (.int .i64 a) ∧ w'.cell? ⟨wr.heap.size, 4, none⟩ = some (.string s)) (first | exact ⟨c1, c4⟩ | exact C2.out | exact C1.out)
            (first | (go_at_call 46; refine (aput_any _ _ _ _ xs a s HDd.out.p.holds HOK.out.2).mono ?_; intro e w1 hp; obtain ⟨v1', rfl, hd1, ht1⟩ := post_left HDd.out hp; have X1 := hid (Blk.touch (w := w0.drew) HXB.out ht1 (fun e => N1.out _ e rfl)); have C1 := hid (And.intro (X1.out.cell (i := 1) rfl) (X1.out.cell (i := 4) rfl)); have M1 := hid (And.intro hd1 ht1); clear hp hd1 ht1) | (go_at_call 47; refine (raput_any _ _ _ _ xs a s M1.out.1.q.holds HOK.out.2).mono ?_; intro e w2 hp; obtain ⟨v2', rfl, hd2, ht2⟩ := post_right M1.out.1 hp; have X2 := hid (Blk.touch X1.out ht2 (fun e => N2.out _ e rfl)); have C2 := hid (And.intro (X2.out.cell (i := 1) rfl) (X2.out.cell (i := 4) rfl)); have M2 := hid (And.intro hd2 ht2); clear hp hd2 ht2))
          all_goals
            go_wp2_with fail
            go_meet
            have b1 : Below W.heap.size W w1 := (HB0.out.trans (drew_bel' (n := 1) (Below.refl _ _))).trans (HDd.out.p.under M1.out.2 (Nat.le_refl _))
            exact ⟨rfl, _, ⟨v1', v2', M2.out.1, put_ok HOK.out⟩, b1.trans (M1.out.1.q.under M2.out.2 (Nat.le_refl _))⟩
        · have p1 := atake_any _ _ _ _ xs a HDD.out.p.holds HOK.out.2
          have p2 := fun w' hM => ratake_any w' W.heap.size (W.heap.size + 1) v2 xs a hM HOK.out.2
          obtain ⟨dd, tx, er, e1, e2, e3⟩ := take_forms a xs
          rw [e1] at p1
          rw [e2] at p2
          have P1 := hid p1
          have P2 := hid p2
          clear p1 p2 e1 e2 e3
          go_wp2_with fail
          refine P1.out.mono ?_
          intro e w1 hp
          obtain ⟨v1', rfl, hd1, ht1⟩ := post_left HDD.out hp
          have hx := Blk.touch HXB.out ht1 (fun e => N1.out _ e rfl)
          have c1 := hx.cell (i := 1) rfl
          have XB1 := hid hx
          have M1 := hid (And.intro hd1 ht1)
          clear hp hd1 ht1 hx
          go_wp2_with fail
          refine (P2.out _ M1.out.1.q.holds).mono ?_
          intro e w2 hp
          obtain ⟨v2', rfl, hd2, ht2⟩ := post_right M1.out.1 hp
          have M2 := hid (And.intro hd2 ht2)
          clear hp hd2 ht2
          go_wp2_with fail
          go_meet
          have b1 : Below W.heap.size W w1 := HB0.out.trans (HDD.out.p.under M1.out.2 (Nat.le_refl _))
          have b2 := b1.trans (M1.out.1.q.under M2.out.2 (Nat.le_refl _))
          exact ⟨rfl, _, ⟨v1', v2', M2.out.1.alloc _, take_ok HOK.out⟩, b2.alloc b2.size _⟩
        · have p1 := fun w' hM => adrop_any w' W.heap.size W.heap.size v1 xs a hM HOK.out.2
          have p2 := ratake_any _ _ _ _ xs a HDD.out.q.holds HOK.out.2
          obtain ⟨dd, tx, er, e1, e2, e3⟩ := take_forms a xs
          rw [← e3] at p1
          rw [e2] at p2
          clear e3
          have P1 := hid p1
          have P2 := hid p2
          clear p1 p2 e1 e2
          go_wp2_with fail
          refine P2.out.mono ?_
          intro e w1 hp
          obtain ⟨v2', rfl, hd2, ht2⟩ := post_right HDD.out hp
          have hx := Blk.touch HXB.out ht2 (fun e => N2.out _ e rfl)
          have c1 := fun o => cell_alloc o (hx.cell (i := 1) rfl)
          have M2 := hid (And.intro hd2 ht2)
          clear hp hd2 ht2 hx
          go_wp2_with fail
          have M3 := hid (Duo.alloc M2.out.1 (.cells #[.int .i64 dd, .string tx] 92))
          refine (P1.out _ M3.out.p.holds).mono ?_
          intro e w2 hp
          obtain ⟨v1', rfl, hd1, ht1⟩ := post_left M3.out hp
          have M1 := hid (And.intro hd1 ht1)
          clear hp hd1 ht1
          go_wp2_with fail
          go_meet
          have b1 : Below W.heap.size W w1 := HB0.out.trans (HDD.out.q.under M2.out.2 (Nat.le_refl _))
          have b2 := (b1.alloc b1.size (.cells #[.int .i64 dd, .string tx] 92)).trans (M3.out.p.under M1.out.2 (Nat.le_refl _))
          exact ⟨rfl, _, ⟨v1', v2', M1.out.1, take_ok HOK.out⟩, b2⟩
        · go_wp2_with fail
          have hd := HDD.out.drew1
          have HDd := hid hd
          clear hd
          go_region_held3 (fun w' => w'.cell? ⟨wr.heap.size, 1, none⟩ = some (.int .i64 a)) (first | exact c1 | exact C2.out | exact C1.out)
            (first | (go_at_call 51; refine (atwice_any _ _ _ _ xs a HDd.out.p.holds HOK.out.2).mono ?_; intro e w1 hp; obtain ⟨v1', rfl, hd1, ht1⟩ := post_left HDd.out hp; have X1 := hid (Blk.touch (w := w0.drew) HXB.out ht1 (fun e => N1.out _ e rfl)); have C1 := hid (X1.out.cell (i := 1) rfl); have M1 := hid (And.intro hd1 ht1); clear hp hd1 ht1) | (go_at_call 52; refine (rtwice_any _ _ _ _ xs a M1.out.1.q.holds HOK.out.2).mono ?_; intro e w2 hp; obtain ⟨v2', rfl, hd2, ht2⟩ := post_right M1.out.1 hp; have X2 := hid (Blk.touch X1.out ht2 (fun e => N2.out _ e rfl)); have C2 := hid (X2.out.cell (i := 1) rfl); have M2 := hid (And.intro hd2 ht2); clear hp hd2 ht2))
          all_goals
            go_wp2_with fail
            go_meet
            have b1 : Below W.heap.size W w1 := (HB0.out.trans (drew_bel' (n := 1) (Below.refl _ _))).trans (HDd.out.p.under M1.out.2 (Nat.le_refl _))
            exact ⟨rfl, _, ⟨v1', v2', M2.out.1, tw_ok HOK.out⟩, b1.trans (M1.out.1.q.under M2.out.2 (Nat.le_refl _))⟩
        · go_wp2_with fail
          have hd := HDD.out.drew1
          have HDd := hid hd
          have p1 := aturn_any _ _ _ _ xs a b c HDd.out.p.holds HOK.out.2 HOK.out.1 HY.out.2.1.1 HY.out.2.1.2
          have p2 := fun w' hM => rturn_any w' W.heap.size (W.heap.size + 1) v2 xs a b c hM HOK.out.2 HOK.out.1 HY.out.2.1.1 HY.out.2.1.2 HY.out.2.2.1 HY.out.2.2.2
          generalize (if inA a xs then (0 : Int) else 13) = er at p1 p2
          have P1 := hid p1
          have P2 := hid p2
          clear hd p1 p2
          go_region_held3 (fun w' => w'.cell? ⟨wr.heap.size, 1, none⟩ = some (.int .i64 a) ∧ w'.cell? ⟨wr.heap.size, 2, none⟩ = some (.int .i64 b) ∧ w'.cell? ⟨wr.heap.size, 3, none⟩ = some (.int .i64 c)) (first | exact ⟨c1, c2, c3⟩ | exact C2.out | exact C1.out)
            (first | (go_at_call 53; refine P1.out.mono ?_; intro e w1 hp; obtain ⟨v1', rfl, hd1, ht1⟩ := post_left HDd.out hp; have X1 := hid (Blk.touch (w := w0.drew) HXB.out ht1 (fun e => N1.out _ e rfl)); have C1 := hid (And.intro (X1.out.cell (i := 1) rfl) (And.intro (X1.out.cell (i := 2) rfl) (X1.out.cell (i := 3) rfl))); have M1 := hid (And.intro hd1 ht1); clear hp hd1 ht1) | (go_at_call 54; refine (P2.out _ M1.out.1.q.holds).mono ?_; intro e w2 hp; obtain ⟨v2', rfl, hd2, ht2⟩ := post_right M1.out.1 hp; have X2 := hid (Blk.touch X1.out ht2 (fun e => N2.out _ e rfl)); have C2 := hid (And.intro (X2.out.cell (i := 1) rfl) (And.intro (X2.out.cell (i := 2) rfl) (X2.out.cell (i := 3) rfl))); have M2 := hid (And.intro hd2 ht2); clear hp hd2 ht2))
          all_goals
            go_wp2_with fail
            go_meet
            have b1 : Below W.heap.size W w1 := (HB0.out.trans (drew_bel' (n := 1) (Below.refl _ _))).trans (HDd.out.p.under M1.out.2 (Nat.le_refl _))
            exact ⟨rfl, _, ⟨v1', v2', M2.out.1, turn_ok HOK.out⟩, b1.trans (M1.out.1.q.under M2.out.2 (Nat.le_refl _))⟩
      case rest =>
        obtain ⟨rfl, xs', hT', hbel'⟩ := hcut
        obtain ⟨v1, v2, hD, hok⟩ := hT'.out
        have c0 := hD.q.holds.blk.cell (i := 0) rfl
        have hown := hD.q.holds.own
        obtain ⟨ao2, cap2, hvv, _⟩ := own_sl hown
        subst hvv
        have HD' := hid hD
        have HOK := hid hok
        have HB := hid hbel'
        clear hT hbel HST hD hok hown hbel'
        go_wp2_with fail
        have hlk2 : Lk encWay wc (.slice ao2 xs'.length cap2) xs' := Ok.lk HD'.out.q.holds.own
        have HLK := hid hlk2
        clear hlk2
        go_loopw [15, 123] (fun o i wr => ∃ k : Nat, k ≤ xs'.length ∧ i = .int .i64 k ∧ OwnS wr wc.heap.size o ((xs'.take k).map Way.text) ∧ Below wc.heap.size wc wr) (fun _ i _ => xs'.length - (intOf i).toNat)
        case atStart => exact ⟨0, Nat.zero_le _, rfl, by simp; exact O1.nil _ _ _ _, Below.refl _ _⟩
        case round =>
          obtain ⟨k2, hk2, rfl, hown, hbel⟩ := hrel
          by_cases hlt : k2 < xs'.length
          · rcases (Lk.below HLK.out hbel).open encWay_len (by decide) with ⟨_, _, _, e, _⟩ | ⟨g, go, cap', hv, _, hcap, hcap2, hc⟩
            · rw [e] at hlt; simp at hlt
            simp only [Value.slice.injEq, true_and] at hv
            obtain ⟨rfl, rfl⟩ := hv
            have z0 := hc k2 hlt 0 (by decide); have z1 := hc k2 hlt 1 (by decide)
            rw [show (encWay xs'[k2])[0]? = some (.int .i64 xs'[k2].to) from rfl, Nat.add_zero] at z0; rw [show (encWay xs'[k2])[1]? = some (.string xs'[k2].text) from rfl] at z1
            have htk : (xs'.take (k2 + 1)).map Way.text = (xs'.take k2).map Way.text ++ [xs'[k2].text] := by rw [List.take_succ_eq_append_getElem hlt, List.map_append]; rfl
            have hln : ((xs'.take k2).map Way.text).length = k2 := by rw [List.length_map, List.length_take]; omega
            have HTK := hid htk
            have HLN := hid hln
            have hsz := hbel.size
            have hl40 := HOK.out.2
            have ho2 := World.ownsRow.alloc (o := .cells #[.int .i64 xs'[k2].to, .string xs'[k2].text] 92) hown
            clear hc htk hln
            go_wp2_with (at_builtin; go_must (refine app_o1 (enc := Value.string) (fun _ => rfl) elem_str (base := wc.heap.size) rfl _ _ rfl rfl rfl (by simp) ho2 (by rw [HLN.out]; omega) (by rw [HLN.out]; omega) (by simp; omega) ?_); intro v' w' ho hbel2 _)
            go_roundw
            case rel => exact ⟨k2 + 1, by omega, by go_num, by rw [HTK.out]; exact ho, (hbel.alloc hsz _).trans hbel2⟩
            case measure => simp [intOf]; omega
          · obtain rfl : k2 = xs'.length := by omega
            rw [List.take_length] at hown
            have HT := hid hown
            have HB2 := hid hbel
            have ha := aall_any _ _ _ _ xs' (HD'.out.below hbel).p.holds HOK.out.2
            have HA := hid ha
            clear hown hbel ha
            go_wp2_with fail
            refine HA.out.mono ?_
            rintro e w3 ⟨va, rfl, oa, b3⟩
            have he := eq_str va _ (xs'.map Way.text) (xs'.map Way.text) w3 (O1.l1 oa) (L1.below (O1.l1 HT.out) b3)
            rw [decide_eq_true rfl] at he
            have HE := hid he
            have HB3 := hid b3
            clear oa b3 he
            go_wp2_with fail
            refine HE.out.mono ?_
            rintro e w4 ⟨rfl, rfl⟩
            go_wp2_with fail
            go_roundw
            case rel =>
              have b2 : Below W.heap.size W wr := HB.out.trans (HB2.out.mono HB.out.size)
              exact ⟨k + 1, xs', by omega, by go_num, ⟨v1, _, (HD'.out.below HB2.out).below HB3.out, HOK.out⟩, b2.trans (HB3.out.mono b2.size)⟩
            case measure => simp [intOf]; omega
    · obtain rfl : k = x0.length := by omega
      go_wp2_with fail
      go_ret
      exact ⟨rfl, hbel⟩
end Go.Proofs.Ytbjhedfgnocflaa
