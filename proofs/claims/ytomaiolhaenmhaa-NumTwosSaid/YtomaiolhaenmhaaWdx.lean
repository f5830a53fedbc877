/-
  THE REFERENCE's WORDS: split. Condition: the divisor is not zero.
-/
import Derived.Test.YtomaiolhaenmhaaWdv
namespace Go.Proofs.Ytomaiolhaenmhaa
open Go.RowKit Go.Lib

theorem own_open {n : Nat} (b : BitVec n) (h0 : 0 < n) {w : World} {base : Nat} {v : Value} (hv : OwnB w base v (bl b)) : ∃ g cap, v = .slice (some ⟨g, 0, none⟩) n cap ∧ base ≤ g ∧ g < w.heap.size ∧ (∀ j (_ : j < n), w.cell? ⟨g, j, none⟩ = some (.bool (b.getLsbD j))) ∧ (∀ j, w.frozen? ⟨g, j, none⟩ = false) := by
  have hv0 : w.ownsRow base 4 1 v (bl b).length ((bl b).map Value.bool) := hv
  rcases hv.2 with ⟨_, hx⟩ | ⟨g, cap, cur, rfl, hbg, hh, hn, hc, hs, htk⟩
  · rw [bl_length] at hx
    omega
  · refine ⟨g, cap, by rw [bl_length], hbg, lt_of_block hh, fun j hj => ?_, fun j => by simp [World.frozen?, hh]⟩
    have h1 := hv0.cells (g := g) rfl j (.bool (b.getLsbD j)) (by
      rw [List.getElem?_map, List.getElem?_eq_getElem (by rw [bl_length]; exact hj), bl_get]; rfl)
    have e : (⟨g, 0, none⟩ : Addr).add j = ⟨g, j, none⟩ := by unfold Addr.add; split <;> simp_all
    rw [e] at h1
    exact h1
theorem own_at {n : Nat} {b : BitVec n} (h0 : 0 < n) {w : World} {base g m cap : Nat} (hv : OwnB w base (.slice (some ⟨g, 0, none⟩) m cap) (bl b)) : (∀ j (_ : j < n), w.cell? ⟨g, j, none⟩ = some (.bool (b.getLsbD j))) ∧ (∀ j, w.frozen? ⟨g, j, none⟩ = false) ∧ n ≤ cap := by
  have hs := own_sl (show w.ownsRow base 4 1 (.slice (some ⟨g, 0, none⟩) m cap) (bl b).length ((bl b).map Value.bool) from hv)
  obtain ⟨g', cap', e, _, _, h3, h4⟩ := own_open b h0 hv
  obtain ⟨ao, cap2, e2, h5, _⟩ := hs
  simp only [Value.slice.injEq, Option.some.injEq, Addr.mk.injEq, and_true] at e e2
  obtain ⟨rfl, rfl, rfl⟩ := e
  obtain ⟨rfl, _, rfl⟩ := e2
  exact ⟨h3, h4, by rw [bl_length] at h5; exact h5⟩
theorem own_take {w : World} {base g cap k : Nat} {xs : List Bool} (h : OwnB w base (.slice (some ⟨g, 0, none⟩) xs.length cap) xs) (hk : k ≤ xs.length) : Bools w (.slice (some ⟨g, 0, none⟩) k cap) (xs.take k) := by
  have h0 : w.ownsRow base 4 1 (.slice (some ⟨g, 0, none⟩) xs.length cap) xs.length (xs.map Value.bool) := h
  have h1 := own_sl (own_prefix h0 k hk)
  rw [Nat.mul_one, ← List.map_take] at h1
  show Sl w _ (xs.take k).length _
  rw [List.length_take, Nat.min_eq_left hk]
  exact h1
theorem own_other {w : World} {base g b2 n2 cap2 : Nat} {xs : List Bool} (h : OwnB w base (.slice (some ⟨g, 0, none⟩) n2 cap2) xs) (hne : b2 ≠ g) (j : Nat) (v : Value) : OwnB (w.setCell ⟨b2, j, none⟩ v) base (.slice (some ⟨g, 0, none⟩) n2 cap2) xs :=
  own_touch h (Touch.setCell (F := fun k => k = b2) rfl v) (fun k hk => by
    simp only [Value.ownBlock, Option.some.injEq] at hk
    omega)

theorem two_made (w : World) (n m base : Nat) (hn : n ≤ 9223372036854775807) (hm : m ≤ 9223372036854775807) (hb : base ≤ w.heap.size) :
    OwnB ((w.alloc (.cells (madeCells #[Value.bool false] n) 4)).alloc (.cells (madeCells #[Value.bool false] m) 4)).drew base (.slice (some ⟨w.heap.size, 0, none⟩) n n) (bl (0#n)) ∧
    OwnB ((w.alloc (.cells (madeCells #[Value.bool false] n) 4)).alloc (.cells (madeCells #[Value.bool false] m) 4)).drew base (.slice (some ⟨w.heap.size + 1, 0, none⟩) m m) (bl (0#m)) ∧
    Below w.heap.size w ((w.alloc (.cells (madeCells #[Value.bool false] n) 4)).alloc (.cells (madeCells #[Value.bool false] m) 4)).drew := by
  have h1 := made_own w n base hn hb
  have h2 := made_own (w.alloc (.cells (madeCells #[Value.bool false] n) 4)) m base hm (by simp; omega)
  have e : (w.alloc (.cells (madeCells #[Value.bool false] n) 4)).heap.size = w.heap.size + 1 := by simp
  rw [e] at h2
  refine ⟨O1.below h1 (drew_bel' (n := 1) ((Below.refl _ _).alloc (Nat.le_refl _) _)), h2, drew_bel' (n := 1) (((Below.refl _ _).alloc (Nat.le_refl _) _).alloc (by simp) _)⟩

set_option maxRecDepth 100000 in
set_option maxHeartbeats 4000000 in
theorem split_any {n : Nat} (b c : BitVec n) (h0 : 0 < n) (hn : n ≤ 90) (hc : c ≠ 0#n) (w : World) (v u : Value) (hv : Bools w v (bl b)) (hu : Bools w u (bl c)) :
    Calls Try.prog 152 #[v, u] w fun e w' => ∃ q r, e = .returned (.tuple #[q, r]) ∧ OwnB w' w.heap.size q (bl (b / c)) ∧ Bools w' r (bl (b % c)) ∧ Below w.heap.size w w' := by
  have hcp := c_pos hc
  clear hc
  have HCP := hid hcp
  clear hcp
  have hmk := fun wx : World => run_make_row' (P := Try.prog) 145 4 (.bool false) 1 Try.underlying145 (by kernel_rfl) rfl .i64 .i64 n (by omega) (by omega) wx
  have hmk1 := fun wx : World => run_make_row' (P := Try.prog) 145 4 (.bool false) 1 Try.underlying145 (by kernel_rfl) rfl .i64 .i64 (n + 1) (by omega) (by omega) wx
  rw [Int.natCast_add, Int.natCast_one] at hmk1
  have HV := hid hv
  have HU := hid hu
  obtain ⟨g, off, cap, rfl, hcap, hm, hg, HC⟩ := bools_open2 b h0 hv
  have HCO := hid (copy_bools u (bl c) w hu (by rw [bl_length]; omega))
  clear hv hu
  have hsub : IntKind.i64.wrap ((n : Int) - 1) = ((n : Int) - 1) := by rw [IntKind.wrap_i64]; omega
  have hadd : IntKind.i64.wrap ((n : Int) + 1) = (n : Int) + 1 := by rw [IntKind.wrap_i64]; omega
  have hbl := bl_length c
  go_enter Try.func152, Try.ntmps152
  go_wp2_with (first | (go_at_call 143; refine HCO.out.mono ?_; rintro r w1 ⟨v1, rfl, ho1, hb1⟩; have O1' := hid ho1; have B1 := hid hb1; clear ho1 hb1) | (at_builtin; go_loud (refine app_o1 one_bool elem_bools (y := false) rfl _ _ rfl rfl rfl rfl O1'.out (by omega) (by omega) B1.out.size ?_); intro v' w2 ho' hb' hg'; have HO := hid ho'; have B2 := hid (B1.out.trans hb'); clear ho' hb' hg'))
  clear hbl HCO
  have HW : Hid (Bools w2 v' (bl (wideK c))) := hid (by have h := HO.out; rw [wide_bl] at h; exact h.l1)
  clear HO O1' HU
  have h2n : w.heap.size ≤ w2.heap.size := B2.out.size
  have T1 := hid (two_made w2 n (n + 1) w.heap.size (by omega) (by omega) h2n)
  have T2 := hid (two_made w2 (n + 1) n w.heap.size (by omega) (by omega) h2n)
  have eq := hid (qK_start b c)
  have er := hid (rK_start b c)
  go_cut [7, 8] (fun s7 s8 wx => ∃ gq gr, s7 = .slice (some ⟨gq, 0, none⟩) n n ∧ s8 = .slice (some ⟨gr, 0, none⟩) (n + 1) (n + 1) ∧ gq ≠ gr ∧ w2.heap.size ≤ gq ∧ OwnB wx w.heap.size (.slice (some ⟨gq, 0, none⟩) n n) (bl (qK b c n)) ∧ OwnB wx w.heap.size (.slice (some ⟨gr, 0, none⟩) (n + 1) (n + 1)) (bl (rK b c n)) ∧ Below w.heap.size w wx ∧ Below w2.heap.size w2 wx)
  case first =>
    go_region_law (fail)
    · go_wp2_with fail
      go_meet
      exact ⟨w2.heap.size, w2.heap.size + 1, rfl, rfl, by omega, by omega, by rw [eq.out]; exact T1.out.1, by rw [er.out]; exact T1.out.2.1, B2.out.trans (T1.out.2.2.mono h2n), T1.out.2.2⟩
    · go_wp2_with fail
      go_meet
      exact ⟨w2.heap.size + 1, w2.heap.size, rfl, rfl, by omega, by omega, by rw [eq.out]; exact T2.out.2.1, by rw [er.out]; exact T2.out.1, B2.out.trans (T2.out.2.2.mono h2n), T2.out.2.2⟩
  case rest =>
    obtain ⟨gq, gr, rfl, rfl, hne, hgq, hq, hr, hb, hb2⟩ := hcut
    have HQ0 := hid hq
    have HR0 := hid hr
    have HB0 := hid hb
    have HB20 := hid hb2
    clear hq hr hb hb2 T1 T2 eq er hmk hmk1 hadd
    go_wp2_with fail
    go_loopw [9, 8] (fun i r wr => ∃ (k gr' cap' : Nat), k ≤ n ∧ i = .int .i64 ((k : Int) - 1) ∧ r = .slice (some ⟨gr', 0, none⟩) (n + 1) cap' ∧ gq ≠ gr' ∧ Hid (OwnB wr w.heap.size (.slice (some ⟨gq, 0, none⟩) n n) (bl (qK b c k))) ∧ Hid (OwnB wr w.heap.size (.slice (some ⟨gr', 0, none⟩) (n + 1) cap') (bl (rK b c k))) ∧ Hid (Below w.heap.size w wr) ∧ Hid (Below w2.heap.size w2 wr)) (fun i _ _ => (RowKit.intOf i + 1).toNat)
    case atStart => exact ⟨n, gr, n + 1, Nat.le_refl _, rfl, rfl, hne, HQ0, HR0, HB0, HB20⟩
    case round =>
      clear HQ0 HR0 HB0 HB20 hne
      obtain ⟨k, gr', cap', hk, rfl, rfl, hne, HQ, HR, HB, HB2⟩ := hrel
      cases k with
      | zero =>
        have hcr : n ≤ cap' := by have := (own_at (by omega) HR.out).2.2; omega
        have HRT : Hid (Bools wr (.slice (some ⟨gr', 0, none⟩) n cap') (bl (b % c))) := hid (by
          have h := HR.out
          have hl := bl_length (rK b c 0)
          rw [← rK_end b c HCP.out]
          exact own_take (by rw [hl]; exact h) (by rw [hl]; omega))
        have HQE := hid (qK_end b c HCP.out)
        go_wp2_with fail
        go_quiet (fail)
        go_wp2_with fail
        go_ret2
        refine ⟨.slice (some ⟨gq, 0, none⟩) n n, .slice (some ⟨gr', 0, none⟩) n cap', rfl, ?_, ?_, ?_⟩
        · rw [← HQE.out]
          exact HQ.out
        · exact HRT.out
        · exact drew_bel' (n := nq) HB.out
      | succ j =>
        have hj : ((j + 1 : Nat) : Int) - 1 = (j : Int) := by omega
        have hjn : (j : Int) < (n : Int) := by omega
        have hj0 : (0 : Int) ≤ (j : Int) := by omega
        rw [hj]
        have HUP := hid (up_any (rK b c (j + 1)) 1 (by omega) (by omega) (by omega) wr _ (O1.l1 HR.out))
        have hqlt : gq < wr.heap.size := (World.ownsRow.lt HQ.out gq rfl).2
        cases hu : (rS b c j).ult (wideK c) with
        | true =>
          have HSL := hid (step_less b c j HCP.out hu)
          go_wp2_with (first | (go_at_call 178; refine HUP.out.mono ?_; rintro r w3 ⟨v3, rfl, ho3, hb3⟩; obtain ⟨g3, cap3, rfl, hg3, hl3, hc3, hf3⟩ := own_open _ (by omega) ho3; have d3 := hc3 0 (by omega); have f3 := hf3 0; have bj := HC.out j (by omega) w3 (HB.out.trans (hb3.mono HB.out.size)); have S3 := hid (O1.stored ho3 0 (b.getLsbD j)).1; rw [rS_set b c j HCP.out] at S3; have N3 := hid (Below.setCell hb3 (p := ⟨g3, 0, none⟩) hg3 (.bool (b.getLsbD j))); have W3 := hid (L1.below HW.out (HB2.out.trans (N3.out.mono HB2.out.size))); have Q3 := hid (O1.below HQ.out N3.out); have L3 := hid (less_any (rS b c j) (wideK c) (by omega) (by omega) _ _ v' (O1.l1 S3.out) W3.out); rw [hu] at L3; clear ho3 hb3 hc3 hf3) | (go_at_call 144; refine L3.out.mono ?_; rintro r w4 ⟨rfl, hb4⟩; have B4 := hid hb4; clear hb4))
          go_roundw
          case rel =>
            have N4 := N3.out.trans (B4.out.mono N3.out.size)
            exact ⟨j, g3, cap3, by omega, by go_num, rfl, by omega, hid (by rw [← HSL.out.2]; exact O1.below Q3.out B4.out), hid (by rw [← HSL.out.1]; exact own_mono (O1.below S3.out B4.out) HB.out.size), hid (HB.out.trans (N4.mono HB.out.size)), hid (HB2.out.trans (N4.mono HB2.out.size))⟩
          case measure => simp [RowKit.intOf]
        | false =>
          have HSL := hid (step_more b c j HCP.out hu)
          have hqw := HB2.out.size
          go_wp2_with (first | (go_at_call 178; refine HUP.out.mono ?_; rintro r w3 ⟨v3, rfl, ho3, hb3⟩; obtain ⟨g3, cap3, rfl, hg3, hl3, hc3, hf3⟩ := own_open _ (by omega) ho3; have d3 := hc3 0 (by omega); have f3 := hf3 0; have bj := HC.out j (by omega) w3 (HB.out.trans (hb3.mono HB.out.size)); have S3 := hid (O1.stored ho3 0 (b.getLsbD j)).1; rw [rS_set b c j HCP.out] at S3; have N3 := hid (Below.setCell hb3 (p := ⟨g3, 0, none⟩) hg3 (.bool (b.getLsbD j))); have W3 := hid (L1.below HW.out (HB2.out.trans (N3.out.mono HB2.out.size))); have Q3 := hid (O1.below HQ.out N3.out); have L3 := hid (less_any (rS b c j) (wideK c) (by omega) (by omega) _ _ v' (O1.l1 S3.out) W3.out); rw [hu] at L3; have N4 := hid (fun w' h => not_any (wideK c) (by omega) (by omega) w' v' (L1.below W3.out h)); have A4 := hid (fun w' x h hx => add_any (rS b c j) (~~~(wideK c)) true (by omega) (by omega) w' _ x (L1.below (O1.l1 S3.out) h) hx); rw [sub_eq, HSL.out.1] at A4; clear ho3 hb3 hc3 hf3) | (go_at_call 144; refine L3.out.mono ?_; rintro r w4 ⟨rfl, hb4⟩; have B4 := hid hb4; clear hb4) | (go_at_call 149; refine (N4.out _ B4.out).mono ?_; rintro r w5 ⟨v5, rfl, ho5, hb5⟩; have O5 := hid ho5; have B5 := hid (B4.out.trans (hb5.mono B4.out.size)); clear ho5 hb5) | (go_at_call 148; refine (A4.out _ _ B5.out (O1.l1 O5.out)).mono ?_; rintro r w6 ⟨v6, rfl, ho6, hb6⟩; obtain ⟨g6, cap6, rfl, hg6, hl6, _, _⟩ := own_open _ (by omega) ho6; have B6 := hid (B5.out.trans (hb6.mono B5.out.size)); have Q6 := hid (O1.below Q3.out B6.out); have d6 := (own_at h0 Q6.out).1 j (by omega); have f6 := (own_at h0 Q6.out).2.1 j; have R6 := hid ho6; clear ho6 hb6))
          go_roundw
          case rel =>
            have hs5 : wr.heap.size ≤ w5.heap.size := Nat.le_trans N3.out.size B5.out.size
            have NB := N3.out.trans (B6.out.mono N3.out.size)
            refine ⟨j, g6, cap6, by omega, by go_num, rfl, by omega, hid ?_, hid (own_other (own_mono R6.out (Nat.le_trans HB.out.size hs5)) (by omega) _ _), hid (Below.setCell (HB.out.trans (NB.mono HB.out.size)) (by simp; omega) _), hid (Below.setCell (HB2.out.trans (NB.mono HB2.out.size)) (by simp; omega) _)⟩
            rw [← HSL.out.2]
            exact (O1.stored Q6.out j true).1
          case measure => simp [RowKit.intOf]
end Go.Proofs.Ytomaiolhaenmhaa
