/-
  THE LAW TurnsSays: a ring answers as the reference does, for every sequence of calls. No condition.
-/
import Derived.Test.YtbjhedfgnocflaaRingS
import Derived.Test.YtbjhedfgnocflaaRingT
import Derived.Test.YtbjhedfgnocflaaEqs
import Derived.Test.YtbjhedfgnocflaaDecA
import Derived.Deep.CutBlock
namespace Go.Proofs.Ytbjhedfgnocflaa
open Go.RowKit Go.Lib
attribute [local go_sem ↓] Go.wp_at_zero Go.wp_at_succ

def encRs (y : D_trouperef_RingStep) : List Value := [.int .i64 y.1, .int .i64 y.2.1]
theorem encRs_len (y : D_trouperef_RingStep) : (encRs y).length = 2 := rfl
theorem rs_open {W : World} (cs : List Value) (y : D_trouperef_RingStep) (h : R_trouperef_RingStep W cs y) : cs = encRs y ∧ (-9223372036854775808 ≤ y.1 ∧ y.1 ≤ 9223372036854775807) ∧ (-9223372036854775808 ≤ y.2.1 ∧ y.2.1 ≤ 9223372036854775807) := by
  obtain ⟨_, _, rfl, ⟨rfl, w1⟩, _, _, rfl, ⟨rfl, w2⟩, rfl⟩ := h
  exact ⟨rfl, wf_i64 w1, wf_i64 w2⟩

abbrev DuoR (w : World) (base B1 B2 : Nat) (f : Nat → Nat) (v : Value) (xs ys : List Int) : Prop :=
  Duo base (footR B1 f xs.length) (foot1 B2 v) (fun w => PRing w base B1 f xs) (fun w => RRing w base B2 v ys) w
theorem ring_left {w w' : World} {base B1 B2 : Nat} {f : Nat → Nat} {v ans : Value} {xs ys zs : List Int} {e : Ending} (h : DuoR w base B1 B2 f v xs ys) (hp : PRPost w base B1 f xs.length ans zs e w') :
    ∃ f', e = .returned ans ∧ DuoR w' base B1 B2 f' v zs ys ∧ Touch (footR B1 f xs.length) w w' := by
  obtain ⟨f', rfl, hm, ht, hf⟩ := hp
  exact ⟨f', rfl, h.left hm.part ht hf, ht⟩
theorem ring_right {w w' : World} {base B1 B2 : Nat} {f : Nat → Nat} {v ans : Value} {xs ys zs : List Int} {e : Ending} (h : DuoR w base B1 B2 f v xs ys) (hp : RRPost w base B2 v ans zs e w') :
    ∃ v', e = .returned ans ∧ DuoR w' base B1 B2 f v' xs zs ∧ Touch (foot1 B2 v) w w' := by
  obtain ⟨v', rfl, hm, ht, hf⟩ := hp
  exact ⟨v', rfl, h.right hm.part ht hf, ht⟩
def InvR (w : World) (base B1 B2 : Nat) (xs : List Int) : Prop := ∃ f v, DuoR w base B1 B2 f v xs xs
theorem add_len {id : Int} {xs : List Int} {n : Nat} (h : xs.length ≤ n) : (addL id xs).length ≤ n + 1 := by
  unfold addL; split
  · omega
  · simp; omega
theorem drop_len {id : Int} {xs : List Int} {n : Nat} (h : xs.length ≤ n) : (dropL id xs).length ≤ n + 1 := by
  unfold dropL; split
  · have := List.length_eraseIdx_le xs (ixI id xs); omega
  · omega
theorem next_len {xs : List Int} {n : Nat} (h : xs.length ≤ n) : (nextL xs).length ≤ n + 1 := by
  unfold nextL; simp; omega

theorem ring_start (W : World) : DuoR ((W.alloc (.cells #[.pointer none, .int .i64 0] 112)).alloc (.cells #[.slice none 0 0] 115)) W.heap.size W.heap.size (W.heap.size + 1) (fun _ => 0) (.slice none 0 0) [] [] := by
  refine ⟨PRing.part ⟨(Blk.new W _ _ _ rfl).alloc _, fun i hi => by simp at hi, fun i _ hi => by simp at hi, fun i hi => by simp at hi, Nat.le_refl _, by simp; omega⟩, RRing.part ⟨Blk.new _ _ _ _ (by simp), OwnI.nil _ _ _ _, by simp [Value.ownBlock], by omega, by simp; omega⟩, ?_⟩
  rintro k (e | ⟨i, hi, _⟩) (e2 | e2)
  · omega
  · simp [Value.ownBlock] at e2
  · simp at hi
  · simp at hi

set_option maxRecDepth 100000 in
set_option maxHeartbeats 8000000 in
theorem law_TurnsSays (v0 : Value) (x0 : D_s_trouperef_RingStep) (W : World) (i0 : R_s_trouperef_RingStep W [v0] x0) :
    Calls Try.prog 14 #[v0] W fun e w' => e = .returned (.bool true) ∧ Below W.heap.size W w' := by
  obtain ⟨hl, hq, hb⟩ := slice_flat encRs _ rs_open i0
  have hb' : x0.length * 16 ≤ 140737488351232 := hb
  have HL := hid hl
  have HQ := hid hq
  have hI := ring_start W
  have hadd := padd_any _ _ _ _ [] 1 hI.p.holds (by simp)
  have HI := hid hI
  have HADD := hid hadd
  obtain ⟨ao, cap, hvv, _⟩ := HL.out
  clear i0 hl hq hI hadd
  go_enter Try.func14, Try.ntmps14
  subst hvv
  go_wp2_with fail
  refine HADD.out.mono ?_
  intro e w1 hp
  obtain ⟨f1, rfl, hD, ht⟩ := ring_left HI.out hp
  have HT := hid ht
  have HD := hid hD
  rw [show addL 1 [] = [1] from rfl] at hD
  have hdrop := pdrop_any _ _ _ _ [1] 1 hD.p.holds (by simp)
  have HDROP := hid hdrop
  have HD1 := hid hD
  clear hp hD ht hdrop
  rw [show (!decide (ixI 1 [] < ([] : List Int).length)) = true from rfl]
  go_wp2_with fail
  refine HDROP.out.mono ?_
  intro e w2 hp
  obtain ⟨f2, rfl, hD, ht⟩ := ring_left HD1.out hp
  rw [show dropL 1 [1] = [] from rfl] at hD
  have HT2 := hid ht
  have HD2 := hid hD
  clear hp hD ht
  rw [show decide (ixI 1 [1] < [(1 : Int)].length) = true from rfl]
  go_wp2_with fail
  go_loopw [26] (fun i wr => ∃ (k : Nat) (xs : List Int), k ≤ x0.length ∧ i = .int .i64 k ∧ xs.length ≤ k ∧ Hid (InvR wr W.heap.size W.heap.size (W.heap.size + 1) xs) ∧ Below W.heap.size W wr) (fun i _ => x0.length - (intOf i).toNat)
  case atStart =>
    have b0 : Below W.heap.size W ((W.alloc (.cells #[.pointer none, .int .i64 0] 112)).alloc (.cells #[.slice none 0 0] 115)) := ((Below.refl _ _).alloc (Nat.le_refl _) _).alloc (by simp) _
    exact ⟨0, [], Nat.zero_le _, rfl, Nat.le_refl _, ⟨f2, _, HD2.out⟩, (b0.trans (HI.out.p.under HT.out (Nat.le_refl _))).trans (HD1.out.p.under HT2.out (Nat.le_refl _))⟩
  case round =>
    obtain ⟨k, xs, hk, rfl, hxl, hT, hbel⟩ := hrel
    by_cases hlt : k < x0.length
    · have hlk := Lk.below HL.out hbel
      rcases hlk.open encRs_len (by decide) with ⟨_, _, _, e, _⟩ | ⟨lb, lo, cap', hv, _, hcap, hcap2, hc⟩
      · rw [e] at hlt; simp at hlt
      simp only [Value.slice.injEq, true_and] at hv
      obtain ⟨rfl, rfl⟩ := hv
      have y0 := hc k hlt 0 (by decide); have y1 := hc k hlt 1 (by decide)
      have hyq := HQ.out x0[k] (List.getElem_mem hlt)
      clear hc hlk
      generalize x0[k] = y at *
      obtain ⟨kind, a, u⟩ := y
      rw [show (encRs (kind, a, u))[0]? = some (.int .i64 kind) from rfl, Nat.add_zero] at y0; rw [show (encRs (kind, a, u))[1]? = some (.int .i64 a) from rfl] at y1
      simp only at hyq
      have hstep := fun wx => step_no kind 4 wx hyq.1.1 hyq.1.2 (by omega) (by omega)
      have hmod : kind % 4 = 0 ∨ kind % 4 = 1 ∨ kind % 4 = 2 ∨ kind % 4 = 3 := by omega
      generalize kind % 4 = q at *
      have HST := hid hstep
      have HY := hid hyq
      clear hstep hyq
      have hsz := hbel.size
      go_upto_block 2 with (go_at_call 37; refine (HST.out _).mono ?_; rintro e w' ⟨rfl, rfl⟩)
      go_cut [7] (fun gd wx => gd = .bool true ∧ ∃ (xs' : List Int), xs'.length ≤ k + 1 ∧ Hid (InvR wx W.heap.size W.heap.size (W.heap.size + 1) xs') ∧ Below W.heap.size W wx)
      case first =>
        obtain ⟨f, v2, hD⟩ := hT.out
        have hD0 := hD.alloc (.cells #[.int .i64 kind, .int .i64 a] 118)
        have hxb := Blk.new wr #[.int .i64 kind, .int .i64 a] 118 _ rfl
        have hbel0 : Below W.heap.size W (wr.alloc (.cells #[.int .i64 kind, .int .i64 a] 118)) := hbel.alloc hsz _
        obtain ⟨w0, hw0⟩ : ∃ w0, w0 = wr.alloc (.cells #[.int .i64 kind, .int .i64 a] 118) := ⟨_, rfl⟩
        rw [← hw0] at hD0 hxb hbel0
        rw [← hw0]
        have n1 : ∀ k, footR W.heap.size f xs.length k → k ≠ wr.heap.size := fun k hk => by have := (hD.p.lt k hk).2; omega
        have n2 : ∀ k, foot1 (W.heap.size + 1) v2 k → k ≠ wr.heap.size := fun k hk => by have := (hD.q.lt k hk).2; omega
        have c0 := hxb.cell (i := 0) rfl
        have c1 := hxb.cell (i := 1) rfl
        have HDD := hid hD0
        have HXB := hid hxb
        have HB0 := hid hbel0
        have N1 := hid n1
        have N2 := hid n2
        clear hD0 hxb hbel0 hD hw0 n1 n2 y0 y1
        rcases hmod with rfl | rfl | rfl | rfl
        · have p1 := padd_any w0.drew _ _ _ xs a HDD.out.drew1.p.holds (by omega)
          have p2 := fun w' hM => radd_any w' W.heap.size (W.heap.size + 1) v2 xs a hM (by omega)
          generalize (!decide (ixI a xs < xs.length)) = bb at p1 p2
          have P1 := hid p1
          have P2 := hid p2
          clear p1 p2
          go_wp2_with fail
          have HDd := hid HDD.out.drew1
          go_region_held3 (fun w' => w'.cell? ⟨wr.heap.size, 1, none⟩ = some (.int .i64 a)) (first | exact c1 | exact C2.out | exact C1.out)
            (first | (go_at_call 59; refine P1.out.mono ?_; intro e w1 hp; obtain ⟨v1', rfl, hd1, ht1⟩ := ring_left HDd.out hp; have X1 := hid (Blk.touch (w := w0.drew) HXB.out ht1 (fun e => N1.out _ e rfl)); have C1 := hid (X1.out.cell (i := 1) rfl); have M1 := hid (And.intro hd1 ht1); clear hp hd1 ht1) | (go_at_call 61; refine (P2.out _ M1.out.1.q.holds).mono ?_; intro e w2 hp; obtain ⟨v2', rfl, hd2, ht2⟩ := ring_right M1.out.1 hp; have X2 := hid (Blk.touch X1.out ht2 (fun e => N2.out _ e rfl)); have C2 := hid (X2.out.cell (i := 1) rfl); have M2 := hid (And.intro hd2 ht2); clear hp hd2 ht2))
          all_goals
            go_wp2_with fail
            go_meet
            have b1 : Below W.heap.size W w1 := (HB0.out.trans (drew_bel' (n := 1) (Below.refl _ _))).trans (HDd.out.p.under M1.out.2 (Nat.le_refl _))
            exact ⟨rfl, _, add_len hxl, ⟨v1', v2', M2.out.1⟩, b1.trans (M1.out.1.q.under M2.out.2 (Nat.le_refl _))⟩
        · have p1 := pdrop_any w0.drew _ _ _ xs a HDD.out.drew1.p.holds (by omega)
          have p2 := fun w' hM => rdrop_any w' W.heap.size (W.heap.size + 1) v2 xs a hM (by omega)
          generalize decide (ixI a xs < xs.length) = bb at p1 p2
          have P1 := hid p1
          have P2 := hid p2
          clear p1 p2
          go_wp2_with fail
          have HDd := hid HDD.out.drew1
          go_region_held3 (fun w' => w'.cell? ⟨wr.heap.size, 1, none⟩ = some (.int .i64 a)) (first | exact c1 | exact C2.out | exact C1.out)
            (first | (go_at_call 60; refine P1.out.mono ?_; intro e w1 hp; obtain ⟨v1', rfl, hd1, ht1⟩ := ring_left HDd.out hp; have X1 := hid (Blk.touch (w := w0.drew) HXB.out ht1 (fun e => N1.out _ e rfl)); have C1 := hid (X1.out.cell (i := 1) rfl); have M1 := hid (And.intro hd1 ht1); clear hp hd1 ht1) | (go_at_call 62; refine (P2.out _ M1.out.1.q.holds).mono ?_; intro e w2 hp; obtain ⟨v2', rfl, hd2, ht2⟩ := ring_right M1.out.1 hp; have X2 := hid (Blk.touch X1.out ht2 (fun e => N2.out _ e rfl)); have C2 := hid (X2.out.cell (i := 1) rfl); have M2 := hid (And.intro hd2 ht2); clear hp hd2 ht2))
          all_goals
            go_wp2_with fail
            go_meet
            have b1 : Below W.heap.size W w1 := (HB0.out.trans (drew_bel' (n := 1) (Below.refl _ _))).trans (HDd.out.p.under M1.out.2 (Nat.le_refl _))
            exact ⟨rfl, _, drop_len hxl, ⟨v1', v2', M2.out.1⟩, b1.trans (M1.out.1.q.under M2.out.2 (Nat.le_refl _))⟩
        · have p1 := pnext_any w0 _ _ _ xs HDD.out.p.holds (by omega)
          have p2 := fun w' hM => rnext_any w' W.heap.size (W.heap.size + 1) v2 xs hM (by omega)
          generalize xs.getD 0 0 = x at p1 p2
          generalize (!xs.isEmpty) = bb at p1 p2
          have P1 := hid p1
          have P2 := hid p2
          clear p1 p2
          go_wp2_with fail
          refine P1.out.mono ?_
          intro e w1 hp
          obtain ⟨v1', rfl, hd1, ht1⟩ := ring_left HDD.out hp
          have M1 := hid (And.intro hd1 ht1)
          clear hp hd1 ht1
          go_wp2_with fail
          refine (P2.out _ M1.out.1.q.holds).mono ?_
          intro e w2 hp
          obtain ⟨v2', rfl, hd2, ht2⟩ := ring_right M1.out.1 hp
          have M2 := hid (And.intro hd2 ht2)
          clear hp hd2 ht2
          go_wp2_with fail
          go_meet
          have b1 : Below W.heap.size W w1 := HB0.out.trans (HDD.out.p.under M1.out.2 (Nat.le_refl _))
          exact ⟨by simp, _, next_len hxl, ⟨v1', v2', M2.out.1⟩, b1.trans (M1.out.1.q.under M2.out.2 (Nat.le_refl _))⟩
        · have p1 := ppick_any w0 _ _ _ xs a HDD.out.p.holds (by omega)
          have p2 := fun w' hM => rpick_any w' W.heap.size (W.heap.size + 1) v2 xs a HY.out.2.1 HY.out.2.2 hM (by omega)
          generalize pickI a xs = x at p1 p2
          generalize (!xs.isEmpty) = bb at p1 p2
          have P1 := hid p1
          have P2 := hid p2
          clear p1 p2
          go_wp2_with fail
          refine P1.out.mono ?_
          rintro e w1 ⟨rfl, rfl⟩
          go_wp2_with fail
          refine (P2.out _ HDD.out.q.holds).mono ?_
          rintro e w2 ⟨rfl, hb2⟩
          have HB2 := hid hb2
          clear hb2
          go_wp2_with fail
          go_meet
          exact ⟨by simp, xs, by omega, ⟨f, v2, HDD.out.below HB2.out⟩, HB0.out.trans (HB2.out.mono HB0.out.size)⟩
      case rest =>
        obtain ⟨rfl, xs', hxl', hT', hbel'⟩ := hcut
        clear hT hbel HST
        obtain ⟨f, v2, hD⟩ := hT'.out
        have e2 : wc.drew.cell? ⟨W.heap.size + 1, 0, none⟩ = some v2 := hD.q.holds.blk.cell rfl
        have HDd := hid hD.drew1
        have hbd : Below W.heap.size W wc.drew := hbel'.trans (drew_bel' (n := 1) (Below.refl _ _))
        have HBD := hid hbd
        clear hD hbd hT' hbel'
        go_wp2_with fail
        go_region_held3 (fun w' => w'.cell? ⟨W.heap.size + 1, 0, none⟩ = some v2) (first | exact e2 | exact T1.out.q.holds.blk.cell rfl)
          (first | (go_at_call 67; refine (pall_any _ _ _ _ xs' HDd.out.p.holds (by omega)).mono ?_; rintro e w1 ⟨va, rfl, la, b1⟩; have T1 := hid (Duo.below HDd.out b1); have B1 := hid b1; have LA := hid la; clear b1 la) | (go_at_call 15; refine (eq_int _ _ xs' xs' _ LA.out.ints T1.out.q.holds.own.ints).mono ?_; rintro e w2 ⟨rfl, rfl⟩))
        all_goals
          go_wp2_with fail
          go_roundw
          case rel => exact ⟨k + 1, xs', by omega, by go_num, hxl', ⟨f, v2, T1.out⟩, HBD.out.trans (B1.out.mono HBD.out.size)⟩
          case measure => simp [intOf]; omega
    · obtain rfl : k = x0.length := by omega
      go_wp2_with fail
      go_ret
      exact ⟨rfl, hbel⟩
end Go.Proofs.Ytbjhedfgnocflaa
