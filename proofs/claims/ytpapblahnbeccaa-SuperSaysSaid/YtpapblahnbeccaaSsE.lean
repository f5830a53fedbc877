/-
  SUPERVISORS: the program's Down, a child that ran. Conditions: at most 8 kids, a last time that is not negative.
-/
import Derived.Test.YtpapblahnbeccaaSsD
namespace Go.Proofs.Ytpapblahnbeccaa
open Go.RowKit Go.Lib
attribute [local go_sem ↓] Go.wp_at_zero Go.wp_at_succ

theorem SBox.gne {ty : TypeId} {w : World} {base B g n cap : Nat} {pv : Value} {s : SSt} (h : SBox ty w base B (.slice (some ⟨g, 0, none⟩) n cap) pv s) (ht : (ty == 74) = false) : g ≠ B := fun e => blk_ne2 h.blk h.kids ht (by rw [e]; rfl)
/-- who runs is turned in place -/
theorem SBox.setRun {ty : TypeId} {w : World} {base B g cap : Nat} {pv : Value} {s : SSt} (h : SBox ty w base B (.slice (some ⟨g, 0, none⟩) s.kids.length cap) pv s) (ht : (ty == 74) = false) (k : Nat) (b : Bool) (hk : k < s.kids.length) :
    SBox ty (w.setCell ⟨g, k * 2, none⟩ (.bool b)) base B (.slice (some ⟨g, 0, none⟩) s.kids.length cap) pv { s with kids := setR b s.kids k } := by
  refine ⟨h.blk.other (a := ⟨g, k * 2, none⟩) (h.gne ht) _, kd_stored h.kids k b hk, ?_, h.le, by have := h.base; simp; omega⟩
  exact ownsRow_setCell_other (a := ⟨g, k * 2, none⟩) h.past (fun e => row_ne h.kids h.past (by rfl) g rfl e) _
theorem SBox.setLast {ty : TypeId} {w : World} {base B : Nat} {kv pv : Value} {s : SSt} (h : SBox ty w base B kv pv s) (ht : (ty == 74) = false) (ht2 : (ty == 3) = false) (n : Int) : SBox ty (w.setCell ⟨B, 5, none⟩ (.int .i64 n)) base B kv pv { s with last := n } :=
  ⟨h.blk.set 5 _, ownsRow_setCell_other (a := ⟨B, 5, none⟩) h.kids (blk_ne2 h.blk h.kids ht) _, ownsRow_setCell_other (a := ⟨B, 5, none⟩) h.past (blk_ne2 h.blk h.past ht2) _, h.le, by have := h.base; simp; omega⟩
theorem SBox.setOver {ty : TypeId} {w : World} {base B : Nat} {kv pv : Value} {s : SSt} (h : SBox ty w base B kv pv s) (ht : (ty == 74) = false) (ht2 : (ty == 3) = false) (n : Bool) : SBox ty (w.setCell ⟨B, 6, none⟩ (.bool n)) base B kv pv { s with over := n } :=
  ⟨h.blk.set 6 _, ownsRow_setCell_other (a := ⟨B, 6, none⟩) h.kids (blk_ne2 h.blk h.kids ht) _, ownsRow_setCell_other (a := ⟨B, 6, none⟩) h.past (blk_ne2 h.blk h.past ht2) _, h.le, by have := h.base; simp; omega⟩
/-- a new past, in a row of its own, is stored -/
theorem SBox.setPast {ty : TypeId} {w w1 : World} {base B : Nat} {kv pv pv' : Value} {s : SSt} (h : SBox ty w base B kv pv s) (ht : (ty == 74) = false) (ht2 : (ty == 3) = false) (hb : Below w.heap.size w w1) (p : List Int) (ho : OwnI w1 w.heap.size .i64 3 pv' p) :
    SBox ty (w1.setCell ⟨B, 4, none⟩ pv') base B kv pv' { s with past := p } := by
  have h1 := h.below hb
  have hn : pv'.ownBlock ≠ some B := blk_ne2 h1.blk ho ht2
  exact ⟨h1.blk.set 4 _, ownsRow_setCell_other (a := ⟨B, 4, none⟩) h1.kids (blk_ne2 h1.blk h1.kids ht) _, own_mono (ownsRow_setCell_other (a := ⟨B, 4, none⟩) ho hn _) h.base, h.le, by have := h1.base; simp; omega⟩

/-- all that the object has lies below what turns -/
theorem SBox.under {ty : TypeId} {w w' : World} {base B Bd : Nat} {kv pv : Value} {s : SSt} (h : SBox ty w base B kv pv s) (hb : Below Bd w w') (h1 : B < Bd) (h2 : ∀ k, kv.ownBlock = some k → k < Bd) (h3 : ∀ k, pv.ownBlock = some k → k < Bd) (h4 : w.heap.size ≤ w'.heap.size) : SBox ty w' base B kv pv s :=
  ⟨h.blk.same (hb.block B h1), own_same h.kids (fun k hk => hb.block k (h2 k hk)), own_same h.past (fun k hk => hb.block k (h3 k hk)), h.le, Nat.le_trans h.base h4⟩

theorem plan_mem (st : Int) (ks : List Kd) (f : Int) : (∀ i ∈ (planF st (prs ks) f).1, 0 ≤ i ∧ i < ks.length) ∧ (∀ i ∈ (planF st (prs ks) f).2.1, 0 ≤ i ∧ i < ks.length) := by
  have key : ∀ (p : Nat → Bool) (i : Int), (i ∈ nums ((List.range (prs ks).length).filter p) ∨ i ∈ nums (((List.range (prs ks).length).filter p).reverse)) → 0 ≤ i ∧ i < ks.length := by
    intro p i hi
    unfold nums at hi
    have : ∃ j, j ∈ (List.range (prs ks).length).filter p ∧ (j : Int) = i := by
      rcases hi with hi | hi
      · obtain ⟨j, hj, e⟩ := List.mem_map.1 hi; exact ⟨j, hj, e⟩
      · obtain ⟨j, hj, e⟩ := List.mem_map.1 hi; exact ⟨j, List.mem_reverse.1 hj, e⟩
    obtain ⟨j, hj, rfl⟩ := this
    have := List.mem_range.1 (List.mem_filter.1 hj).1
    rw [prs_len] at this
    omega
  unfold planF
  by_cases h1 : 8 < (prs ks).length
  · rw [if_pos h1]; exact ⟨(fun i hi => by cases hi), (fun i hi => by cases hi)⟩
  rw [if_neg h1]
  by_cases h2 : st < 1 ∨ 3 < st ∨ f < 0 ∨ ((prs ks).length : Int) ≤ f
  · rw [if_pos h2]; exact ⟨(fun i hi => by cases hi), (fun i hi => by cases hi)⟩
  rw [if_neg h2]
  by_cases h3 : ((prs ks).getD f.toNat (false, false)).2 = false
  · rw [if_pos h3]; exact ⟨(fun i hi => by cases hi), (fun i hi => by cases hi)⟩
  rw [if_neg h3]
  exact ⟨fun i hi => key _ i (.inr hi), fun i hi => key _ i (.inl hi)⟩

set_option maxRecDepth 100000 in
set_option maxHeartbeats 4000000 in
theorem sdown_good (w : World) (base B : Nat) (kv pv : Value) (s : SSt) (n : Nat) (now : Int) (h : SBox 180 w base B kv pv s)
    (ho : s.over = false) (k2 : n < s.kids.length) (k3 : isT now) (k4 : s.last ≤ now) (k5 : (kdAt s.kids n).runs = true) (k6 : s.kids.length ≤ 8) :
    Calls Try.prog 39 #[.pointer (some ⟨B, 0, none⟩), .int .i64 n, .int .i64 now] w (DownPost 180 w base B kv pv (downF s n now)) := by
  have H := hid h
  have b0 := h.blk.cell (i := 0) rfl
  have b1 := h.blk.cell (i := 1) rfl
  have b2 := h.blk.cell (i := 2) rfl
  have b3 := h.blk.cell (i := 3) rfl
  have b4 := h.blk.cell (i := 4) rfl
  have b5 := h.blk.cell (i := 5) rfl
  have b6 := h.blk.cell (i := 6) rfl
  have bf := h.blk.free
  obtain ⟨g, cap, hkv, hg1, hg2, hcap1, hcap2⟩ := own_head h.kids (by omega)
  subst hkv
  clear h
  have hd : downF s n now = _ := (if_neg (by rw [ho]; decide)).trans ((if_neg (by rintro (h | h | h | h); omega; omega; exact h k3; omega)).trans (if_neg (by rw [show ((n : Int)).toNat = n from rfl, k5]; decide)))
  rw [show ((n : Int)).toNat = n from rfl] at hd
  rw [hd]
  have hn := isTime_yes now w k3
  have HN := hid hn
  have g2' : decide ((s.kids.length : Int) ≤ (n : Int)) = false := decide_eq_false (by omega)
  have g2'' : decide (s.kids.length ≤ n) = false := decide_eq_false (by omega)
  have g1' : decide ((n : Int) < 0) = false := decide_eq_false (by omega)
  have g4' : decide (now < s.last) = false := decide_eq_false (by omega)
  obtain ⟨c0, c1, cf⟩ := kd_cells H.out.kids n (by omega)
  rw [k5] at c0
  rw [ho] at b6
  have hgB := H.out.gne (by rfl)
  have H1 := hid (SBox.setRun (s := { s with last := now }) (H.out.setLast (by rfl) (by rfl) now) (by rfl) n false k2)
  clear hn hd
  by_cases hk : (kdAt s.kids n).keep = false
  · rw [if_pos hk]
    rw [hk] at c1
    go_enter Try.func39, Try.ntmps39
    go_wp2_with fail
    refine HN.out.mono ?_
    rintro e w1 ⟨rfl, rfl⟩
    go_wp2_with fail
    refine bodyPost_ret (v := .tuple #[.slice none 0 0, .slice none 0 0, .bool false, .int .i64 0]) (by simp [results, Try.results39, go_sem]) rfl ?_
    exact ⟨_, _, _, pv, rfl, H1.out, OwnI.nil _ _ _ _, OwnI.nil _ _ _ _, (Touch.setCell (F := footS B _ pv) (.inl rfl) _).trans (Touch.setCell (F := footS B _ pv) (.inr (.inl rfl)) _), fun _ hk => .inl hk⟩
  · rw [if_neg hk]
    have hk' : (kdAt s.kids n).keep = true := by simpa using hk
    rw [hk'] at c1
    go_enter Try.func39, Try.ntmps39
    go_wp2_with fail
    refine HN.out.mono ?_
    rintro e w1 ⟨rfl, rfl⟩
    go_wp2_with fail
    have hT1 : Touch (footS B (.slice (some ⟨g, 0, none⟩) s.kids.length cap) pv) w ((w.setCell ⟨B, 5, none⟩ (.int .i64 now)).setCell ⟨g, n * 2, none⟩ (.bool false)) := (Touch.setCell (F := footS B _ pv) (.inl rfl) _).trans (Touch.setCell (F := footS B _ pv) (.inr (.inl rfl)) _)
    generalize hw1 : (w.setCell ⟨B, 5, none⟩ (.int .i64 now)).setCell ⟨g, n * 2, none⟩ (.bool false) = w1 at *
    have HT1 := hid hT1
    obtain ⟨ks, hks⟩ : ∃ ks, ks = setR false s.kids n := ⟨_, rfl⟩
    rw [← hks] at H1
    have HKS := hid hks
    have hkl : ks.length = s.kids.length := by rw [hks, setR_len]
    clear hw1 hT1 b0 b1 b2 b3 b4 b5 b6 bf c0 c1 cf HN hks hcap1
    have hD : ∀ w', Below w1.drew.heap.size w1.drew w' → (w'.cell? ⟨B, 4, none⟩ = some pv ∧ w'.frozen? ⟨B, 4, none⟩ = false) ∧ w'.cell? ⟨B, 1, none⟩ = some (.int .i64 s.most) ∧ w'.cell? ⟨B, 2, none⟩ = some (.int .i64 s.window) ∧ SBox 180 w' base B (.slice (some ⟨g, 0, none⟩) s.kids.length cap) pv ⟨s.strategy, s.most, s.window, ks, s.past, now, s.over⟩ := by
      intro w' hb
      have hx := H1.out.below ((drew_bel' (n := 1) (Below.refl _ _)).trans hb)
      exact ⟨⟨hx.blk.cell rfl, hx.blk.free 4⟩, hx.blk.cell rfl, hx.blk.cell rfl, hx⟩
    have HD := hid hD
    obtain ⟨⟨b4, b4f⟩, b1, b2, _⟩ := hD _ (Below.refl _ _)
    clear hD
    go_cut [8] (fun s8 wx => ∃ pv', s8 = .bool (pastF s.past now s.most s.window).2.1 ∧ SBox 180 wx base B (.slice (some ⟨g, 0, none⟩) s.kids.length cap) pv' ⟨s.strategy, s.most, s.window, ks, (pastF s.past now s.most s.window).1, now, s.over⟩ ∧ Touch (fun k => k = B) w1 wx ∧ (∀ k, pv'.ownBlock = some k → w1.heap.size ≤ k))
    case first =>
      have hpa := fun wx (hb : Below w1.drew.heap.size w1.drew wx) => past_any pv s.past now s.most s.window wx (OwnI.ints (HD.out wx hb).2.2.2.past)
      generalize pastF s.past now s.most s.window = P at *
      have HPA := hid hpa
      clear hpa
      go_region_law (first | (go_simp; go_at_call 101; refine (HPA.out _ (Below.refl _ _)).mono ?_; rintro e w2 ⟨v', rfl, ho', hb'⟩; obtain ⟨⟨x4, x4f⟩, _, _, hx⟩ := HD.out _ hb'; obtain ⟨ao2, cap2, rfl, _⟩ := own_sl ho'; have HP := hid (And.intro ho' hb'); clear ho' hb'))
      all_goals
        go_wp2_with fail
        go_meet
        refine ⟨_, rfl, SBox.setPast (w := w1.drew) (H1.out.below (drew_bel' (n := 1) (Below.refl _ _))) (by rfl) (by rfl) HP.out.2 _ HP.out.1, ?_, ?_⟩
        · exact (Touch.of_below ((drew_bel' (n := 1) (Below.refl _ _)).trans HP.out.2)).trans (Touch.setCell (F := fun k => k = B) rfl _)
        · intro k hk
          exact (World.ownsRow.lt HP.out.1 k hk).1
    case rest =>
    obtain ⟨pv', rfl, hs, ht, hf⟩ := hcut
    rw [← hkl] at hs
    have hP1 : w1.heap.size ≤ wc.heap.size := ht.size
    have hwm : w.heap.size ≤ w1.heap.size := HT1.out.size
    have hTW : Touch (footS B (.slice (some ⟨g, 0, none⟩) s.kids.length cap) pv) w wc := HT1.out.trans (ht.mono (fun _ _ e => .inl e))
    have hfl : ∀ k, footS B (.slice (some ⟨g, 0, none⟩) ks.length cap) pv' k → footS B (.slice (some ⟨g, 0, none⟩) s.kids.length cap) pv k ∨ w.heap.size ≤ k := by
      rintro k (e | e | e)
      · exact .inl (.inl e)
      · exact .inl (.inr (.inl e))
      · exact .inr (Nat.le_trans hwm (hf k e))
    have hBl : B < wc.heap.size := hs.blk.lt
    have hgl : g < wc.heap.size := (World.ownsRow.lt hs.kids g rfl).2
    have hpl : ∀ k, pv'.ownBlock = some k → k < wc.heap.size := fun k e => (World.ownsRow.lt hs.past k e).2
    have HTW := hid hTW
    have HFL := hid hfl
    have HPL := hid hpl
    have hkg : ∀ k, (Value.slice (some ⟨g, 0, none⟩) ks.length cap).ownBlock = some k → k < wc.heap.size := fun k e => by have e2 : some g = some k := e; injection e2 with e2; omega
    have HKG := hid hkg
    clear hkg
    obtain ⟨⟨pp, ov, pe⟩, hPP⟩ : ∃ P, P = pastF s.past now s.most s.window := ⟨_, rfl⟩
    rw [← hPP] at hs ⊢
    have HPP := hid hPP
    simp only at hs ⊢
    have HS := hid hs
    clear hPP
    have hbs := hs.base
    clear hs ht hf hTW hfl hpl HD H1 HT1 b1 b2 b4 b4f
    obtain ⟨wd, hwd⟩ : ∃ wd, wd = wc := ⟨wc, rfl⟩
    subst hwd
    have b3 := HS.out.blk.cell (i := 3) rfl
    have b6 := HS.out.blk.cell (i := 6) rfl
    have b0 := HS.out.blk.cell (i := 0) rfl
    have bf := HS.out.blk.free
    cases ov with
    | true =>
      have hdg : downG s (setR false s.kids n) (pastF s.past now s.most s.window) n now = downO s ks pp now := by
        rw [← HKS.out, ← HPP.out]; exact if_pos rfl
      rw [show downO s ks pp now = ((runsDown ks 0 ks.length, [], true, 0), (⟨s.strategy, s.most, s.window, setAll false ks (runsDown ks 0 ks.length), pp, now, true⟩ : SSt)) from rfl] at hdg
      have HDG := hid hdg
      have HS2 := hid (HS.out.setOver (by rfl) (by rfl) true)
      have hk1 : 1 ≤ ks.length := by omega
      have hk8 : ks.length ≤ 8 := by omega
      have hwr : wrap64 ((ks.length : Int) - 1) = (ks.length : Int) - 1 := by unfold wrap64; omega
      have HKL := hid hkl
      clear hkl
      have hx := HS2.out.blk.cell (i := 3) rfl
      clear hdg
      have hTO : Touch (footS B (.slice (some ⟨g, 0, none⟩) s.kids.length cap) pv) w (wd.setCell ⟨B, 6, none⟩ (.bool true)) := HTW.out.trans (Touch.setCell (F := footS B _ pv) (.inl rfl) _)
      have HTO := hid hTO
      clear hTO
      go_wp2_with fail
      go_loopw [10, 6] (fun i v wr => ∃ (k : Nat) (vv : Value), k ≤ ks.length ∧ i = .int .i64 ((k : Int) - 1) ∧ v = vv ∧ OwnI wr wd.heap.size .i64 3 vv (runsDown ks k ks.length) ∧ Hid (SBox 180 wr base B (.slice (some ⟨g, 0, none⟩) ks.length cap) pv' ⟨s.strategy, s.most, s.window, setAll false ks (runsDown ks k ks.length), pp, now, true⟩) ∧ Hid (Touch (footS B (.slice (some ⟨g, 0, none⟩) s.kids.length cap) pv) w wr) ∧ wd.heap.size ≤ wr.heap.size) (fun i _ _ => (RowKit.intOf i + 1).toNat)
      case atStart =>
        refine ⟨ks.length, _, Nat.le_refl _, rfl, rfl, ?_, ?_, HTO, by simp⟩
        · rw [runsDown_all]; exact OwnI.nil _ _ _ _
        · rw [runsDown_all]; exact HS2
      case round =>
        obtain ⟨k, vv, hk9, rfl, hvv, hown, hS9, hT9, hsz⟩ := hrel
        have hvv2 := hvv.symm
        subst hvv2
        clear hvv
        cases k with
        | zero =>
          rw [show ((0 : Nat) : Int) - 1 = -1 from rfl]
          go_wp2_with fail
          refine bodyPost_ret (v := .tuple #[vv, .slice none 0 0, .bool true, .int .i64 0]) (by simp [results, Try.results39, go_sem]) rfl ?_
          rw [HDG.out]
          exact ⟨_, _, _, pv', rfl, hS9.out, own_mono hown (by omega), OwnI.nil _ _ _ _, hT9.out, HFL.out⟩
        | succ j =>
          rw [show ((j + 1 : Nat) : Int) - 1 = (j : Int) from by omega]
          have hmem : ∀ i ∈ runsDown ks (j + 1) ks.length, (j : Int) < i := fun i hi => by have := (runsDown_mem hi).1; omega
          have hget := setAll_get false (runsDown ks (j + 1) ks.length) j ks hmem
          have hst := runsDown_step ks j ks.length (by omega)
          have hMl := setAll_len false (runsDown ks (j + 1) ks.length) ks
          have hsn := fun i => setAll_snoc false ks (runsDown ks (j + 1) ks.length) i
          have hrl : (runsDown ks (j + 1) ks.length).length ≤ ks.length := by
            unfold runsDown
            rw [List.length_map, List.length_reverse]
            exact Nat.le_trans (List.length_filter_le _ _) (by simp)
          generalize hMM : setAll false ks (runsDown ks (j + 1) ks.length) = M at *
          have HMM := hid hMM
          clear hMM
          have hjk : j < M.length := by omega
          obtain ⟨c0, _, cf⟩ := kd_cells hS9.out.kids j hjk
          simp only at c0 cf
          rw [hget] at c0
          have x3 := hS9.out.blk.cell (i := 3) rfl
          have HST := hid hst
          have HSN := hid hsn
          clear hst hsn hmem
          cases hr : (kdAt ks j).runs with
          | false =>
            rw [hr] at c0
            have e9 := HST.out
            rw [hr, if_neg (by decide), List.append_nil] at e9
            have E9 := hid e9
            clear e9
            go_wp2_with fail
            go_roundw
            case rel => exact ⟨j, vv, by omega, rfl, rfl, by rw [E9.out]; exact hown, by rw [E9.out, HMM.out]; exact hS9, hT9, hsz⟩
            case measure => simp [RowKit.intOf]
          | true =>
            rw [hr] at c0
            have e9 := HST.out
            rw [hr, if_pos rfl] at e9
            have E9 := hid e9
            clear e9
            go_wp2_with (at_builtin; go_loud (refine app_int elem_int (y := (j : Int)) rfl _ _ rfl rfl rfl rfl hown (by omega) (by omega) hsz ?_); intro v' w' ho' hb' _; have HX := hid (SBox.under hS9.out hb' hBl HKG.out HPL.out hb'.size); have z3 := HX.out.blk.cell (i := 3) rfl; obtain ⟨zc0, _, zcf⟩ := kd_cells HX.out.kids j hjk; have HO := hid ho'; have HBB := hid hb'; clear ho' hb')
            have hx9 : SBox 180 w' base B (.slice (some ⟨g, 0, none⟩) M.length cap) pv' ⟨s.strategy, s.most, s.window, M, pp, now, true⟩ := by rw [hMl]; exact HX.out
            have hx10 := SBox.setRun (s := ⟨s.strategy, s.most, s.window, M, pp, now, true⟩) hx9 (by rfl) j false hjk
            rw [hMl, ← HSN.out, ← E9.out] at hx10
            have HX10 := hid hx10
            have ho10 : OwnI (w'.setCell ⟨g, j * 2, none⟩ (.bool false)) wd.heap.size .i64 3 v' (runsDown ks j ks.length) := by
              rw [E9.out]
              exact ownsRow_setCell_other (a := ⟨g, j * 2, none⟩) HO.out (fun e => by have := (World.ownsRow.lt HO.out g e).1; omega) _
            have hT10 : Touch (footS B (.slice (some ⟨g, 0, none⟩) s.kids.length cap) pv) w (w'.setCell ⟨g, j * 2, none⟩ (.bool false)) := (hT9.out.trans' (G := fun k => wd.heap.size ≤ k) ⟨HBB.out.os, HBB.out.tape, HBB.out.output, HBB.out.size, fun k hk hG => HBB.out.block k (by omega)⟩ (fun i hi hG => by have := hP1; have := hwm; omega)).trans (Touch.setCell (F := footS B _ pv) (.inr (.inl rfl)) _)
            have HT10 := hid hT10
            clear hx9 hx10 hT10
            go_roundw
            case rel => exact ⟨j, v', by omega, rfl, rfl, ho10, HX10, HT10, by have := HBB.out.size; simp; omega⟩
            case measure => simp [RowKit.intOf]
    | false =>
      have hdg : downG s (setR false s.kids n) (pastF s.past now s.most s.window) n now = downH s ks pp (planF s.strategy (prs ks) n) now := by
        rw [← HKS.out, ← HPP.out]; exact if_neg (by simp)
      have hm := plan_mem s.strategy ks n
      have hm1 := hm.1
      have hm2 := hm.2
      have hpl := fun wx (hb : Below wd.heap.size wd wx) => plan_any (.slice (some ⟨g, 0, none⟩) ks.length cap) (prs ks) s.strategy n wx (kids_of (Ok.lk (HS.out.below hb).kids))
      obtain ⟨⟨q1, q2, q3⟩, hQQ⟩ : ∃ Q, Q = planF s.strategy (prs ks) n := ⟨_, rfl⟩
      rw [← hQQ] at hdg hm1 hm2
      have hpl2 : ∀ wx, Below wd.heap.size wd wx → Calls Try.prog 102 #[.int .i64 s.strategy, .slice (some ⟨g, 0, none⟩) ks.length cap, .int .i64 n] wx (PlanPost wx (q1, q2, q3)) := by
        intro wx hb
        have := hpl wx hb
        rw [← hQQ] at this
        exact this
      rw [show downH s ks pp (q1, q2, q3) now = ((q1, q2, false, 0), (⟨s.strategy, s.most, s.window, setAll true (setAll false ks q1) q2, pp, now, s.over⟩ : SSt)) from rfl] at hdg
      simp only at hm1 hm2
      have HDG := hid hdg
      have HPLN := hid hpl2
      have HM1 := hid hm1
      have HM2 := hid hm2
      have HKL := hid hkl
      clear hdg hpl hpl2 hm hm1 hm2 hQQ hkl
      have b0d : wd.drew.cell? ⟨B, 0, none⟩ = some (.int .i64 s.strategy) := b0
      have b3d : wd.drew.cell? ⟨B, 3, none⟩ = some (.slice (some ⟨g, 0, none⟩) ks.length cap) := b3
      go_wp2_with fail
      go_cut [6, 7] (fun a b wx => ∃ v u, a = v ∧ b = u ∧ OwnI wx wd.heap.size .i64 3 v q1 ∧ OwnI wx wd.heap.size .i64 3 u q2 ∧ Below wd.heap.size wd wx)
      case first =>
        go_region_held3 (fun w' => w'.cell? ⟨B, 0, none⟩ = some (.int .i64 s.strategy) ∧ w'.cell? ⟨B, 3, none⟩ = some (.slice (some ⟨g, 0, none⟩) ks.length cap)) (first | exact ⟨b0d, b3d⟩ | go_keep) (first | (go_at_call 102; refine (HPLN.out _ (drew_bel' (n := 1) (Below.refl _ _))).mono ?_; rintro e w2 ⟨v, u, rfl, hv, hu, _, hb⟩; have HQ := hid (And.intro hv (And.intro hu hb)); have x0 := (HS.out.below ((drew_bel' (n := 1) (Below.refl _ _)).trans hb)).blk.cell (i := 0) rfl; have x3 := (HS.out.below ((drew_bel' (n := 1) (Below.refl _ _)).trans hb)).blk.cell (i := 3) rfl; clear hv hu hb))
        all_goals
          go_wp2_with fail
          go_meet
          exact ⟨v, u, rfl, rfl, HQ.out.1, HQ.out.2.1, (drew_bel' (n := 1) (Below.refl _ _)).trans HQ.out.2.2⟩
      case rest =>
      obtain ⟨v1, v2, hv1, hv2, ho1, ho2, hb9⟩ := hcut
      have hv1' := hv1.symm
      have hv2' := hv2.symm
      subst hv1' hv2'
      clear hv1 hv2
      obtain ⟨a1, n1, rfl, _⟩ := own_sl ho1
      obtain ⟨a2, n2, rfl, _⟩ := own_sl ho2
      have HS9 := hid (HS.out.below hb9)
      have HT9 := hid (HTW.out.trans (Touch.of_below hb9))
      have hsz9 := hb9.size
      have HKL1 := hid (setAll_len false q1 ks)
      clear hb9 b0 b3 b6 bf b0d b3d
      go_wp2_with fail
      go_loopw [146] (fun i wr => ∃ k : Nat, k ≤ q1.length ∧ i = .int .i64 k ∧ OwnI wr wd.heap.size .i64 3 (.slice a1 q1.length n1) q1 ∧ OwnI wr wd.heap.size .i64 3 (.slice a2 q2.length n2) q2 ∧ Hid (SBox 180 wr base B (.slice (some ⟨g, 0, none⟩) ks.length cap) pv' ⟨s.strategy, s.most, s.window, setAll false ks (q1.take k), pp, now, s.over⟩) ∧ Hid (Touch (footS B (.slice (some ⟨g, 0, none⟩) s.kids.length cap) pv) w wr) ∧ wd.heap.size ≤ wr.heap.size) (fun i _ => q1.length - (RowKit.intOf i).toNat)
      case atStart => exact ⟨0, Nat.zero_le _, rfl, ho1, ho2, HS9, HT9, hsz9⟩
      case round =>
        obtain ⟨k, hk9, rfl, ho1, ho2, hS9, hT9, hsz⟩ := hrel
        by_cases hlt : k < q1.length
        · rcases (OwnI.ints ho1).open with ⟨_, _, _, e, _⟩ | ⟨lb, lo, cap', hv, _, _, _, hcl⟩
          · rw [e] at hlt; simp at hlt
          simp only [Value.slice.injEq, true_and] at hv
          obtain ⟨rfl, rfl⟩ := hv
          have e0 := hcl k hlt
          have hj := HM1.out _ (List.getElem_mem hlt)
          have hst : setR false (setAll false ks (q1.take k)) q1[k] = setAll false ks (q1.take (k + 1)) := by
            rw [List.take_succ_eq_append_getElem hlt, setAll_snoc]
          have HST := hid hst
          have hMl := setAll_len false (q1.take k) ks
          obtain ⟨j, hjj⟩ := Int.eq_ofNat_of_zero_le hj.1
          rw [hjj] at e0 hj
          have hjl : j < ks.length := by omega
          have x3 := hS9.out.blk.cell (i := 3) rfl
          generalize hMM : setAll false ks (q1.take k) = M at *
          have hjk : j < M.length := by omega
          obtain ⟨c0, _, cf⟩ := kd_cells hS9.out.kids j hjk
          simp only at c0 cf
          have hx9 : SBox 180 wr base B (.slice (some ⟨g, 0, none⟩) M.length cap) pv' ⟨s.strategy, s.most, s.window, M, pp, now, s.over⟩ := by rw [hMl]; exact hS9.out
          have hx10 := SBox.setRun (s := ⟨s.strategy, s.most, s.window, M, pp, now, s.over⟩) hx9 (by rfl) j false hjk
          have hst2 := HST.out
          rw [hjj] at hst2
          rw [hMl, hst2] at hx10
          have HX10 := hid hx10
          have ho11 := hid (ownsRow_setCell_other (a := ⟨g, j * 2, none⟩) ho1 (fun e => by have := (World.ownsRow.lt ho1 g e).1; omega) (.bool false))
          have ho12 := hid (ownsRow_setCell_other (a := ⟨g, j * 2, none⟩) ho2 (fun e => by have := (World.ownsRow.lt ho2 g e).1; omega) (.bool false))
          have HT10 := hid (hT9.out.trans (Touch.setCell (F := footS B (.slice (some ⟨g, 0, none⟩) s.kids.length cap) pv) (a := ⟨g, j * 2, none⟩) (.inr (.inl rfl)) (.bool false)))
          have hjl0 : (0 : Int) ≤ (j : Int) := by omega
          have hjl1 : (j : Int) < (ks.length : Int) := by omega
          clear hcl hx9 hx10 hst hst2 hS9 hMM hT9
          go_wp2_with fail
          go_roundw
          case rel => exact ⟨k + 1, by omega, by go_num, ho11.out, ho12.out, HX10, HT10, by simpa using hsz⟩
          case measure => simp [RowKit.intOf]; omega
        · obtain rfl : k = q1.length := by omega
          have hS8 := hS9.out
          rw [List.take_length] at hS8
          have HS8 := hid hS8
          clear hS8 hS9
          go_wp2_with fail
          go_loopw [160] (fun i wr => ∃ k : Nat, k ≤ q2.length ∧ i = .int .i64 k ∧ OwnI wr wd.heap.size .i64 3 (.slice a1 q1.length n1) q1 ∧ OwnI wr wd.heap.size .i64 3 (.slice a2 q2.length n2) q2 ∧ Hid (SBox 180 wr base B (.slice (some ⟨g, 0, none⟩) ks.length cap) pv' ⟨s.strategy, s.most, s.window, setAll true (setAll false ks q1) (q2.take k), pp, now, s.over⟩) ∧ Hid (Touch (footS B (.slice (some ⟨g, 0, none⟩) s.kids.length cap) pv) w wr) ∧ wd.heap.size ≤ wr.heap.size) (fun i _ => q2.length - (RowKit.intOf i).toNat)
          case atStart => exact ⟨0, Nat.zero_le _, rfl, ho1, ho2, HS8, hT9, hsz⟩
          case round =>
            clear ho1 ho2 HS8 hT9 hsz hlt hk9 HS9 HT9
            obtain ⟨k, hk9, rfl, ho1, ho2, hS9, hT9, hsz⟩ := hrel
            by_cases hlt : k < q2.length
            · rcases (OwnI.ints ho2).open with ⟨_, _, _, e, _⟩ | ⟨lb, lo, cap', hv, _, _, _, hcl⟩
              · rw [e] at hlt; simp at hlt
              simp only [Value.slice.injEq, true_and] at hv
              obtain ⟨rfl, rfl⟩ := hv
              have e0 := hcl k hlt
              have hj := HM2.out _ (List.getElem_mem hlt)
              have hst : setR true (setAll true (setAll false ks q1) (q2.take k)) q2[k] = setAll true (setAll false ks q1) (q2.take (k + 1)) := by
                rw [List.take_succ_eq_append_getElem hlt, setAll_snoc]
              have HST := hid hst
              have hMl := setAll_len true (q2.take k) (setAll false ks q1)
              rw [HKL1.out] at hMl
              obtain ⟨j, hjj⟩ := Int.eq_ofNat_of_zero_le hj.1
              rw [hjj] at e0 hj
              have hjl : j < ks.length := by omega
              have x3 := hS9.out.blk.cell (i := 3) rfl
              generalize hMM : setAll true (setAll false ks q1) (q2.take k) = M at *
              have hjk : j < M.length := by omega
              obtain ⟨c0, _, cf⟩ := kd_cells hS9.out.kids j hjk
              simp only at c0 cf
              have hx9 : SBox 180 wr base B (.slice (some ⟨g, 0, none⟩) M.length cap) pv' ⟨s.strategy, s.most, s.window, M, pp, now, s.over⟩ := by rw [hMl]; exact hS9.out
              have hx10 := SBox.setRun (s := ⟨s.strategy, s.most, s.window, M, pp, now, s.over⟩) hx9 (by rfl) j true hjk
              have hst2 := HST.out
              rw [hjj] at hst2
              rw [hMl, hst2] at hx10
              have HX10 := hid hx10
              have ho11 := hid (ownsRow_setCell_other (a := ⟨g, j * 2, none⟩) ho1 (fun e => by have := (World.ownsRow.lt ho1 g e).1; omega) (.bool true))
              have ho12 := hid (ownsRow_setCell_other (a := ⟨g, j * 2, none⟩) ho2 (fun e => by have := (World.ownsRow.lt ho2 g e).1; omega) (.bool true))
              have HT10 := hid (hT9.out.trans (Touch.setCell (F := footS B (.slice (some ⟨g, 0, none⟩) s.kids.length cap) pv) (a := ⟨g, j * 2, none⟩) (.inr (.inl rfl)) (.bool true)))
              have hjl0 : (0 : Int) ≤ (j : Int) := by omega
              have hjl1 : (j : Int) < (ks.length : Int) := by omega
              clear hcl hx9 hx10 hst hst2 hS9 hMM hT9
              go_wp2_with fail
              go_roundw
              case rel => exact ⟨k + 1, by omega, by go_num, ho11.out, ho12.out, HX10, HT10, by simpa using hsz⟩
              case measure => simp [RowKit.intOf]; omega
            · obtain rfl : k = q2.length := by omega
              have hS8 := hS9.out
              rw [List.take_length] at hS8
              have HS8 := hid hS8
              clear hS8 hS9
              go_wp2_with fail
              refine bodyPost_ret (v := .tuple #[.slice a1 q1.length n1, .slice a2 q2.length n2, .bool false, .int .i64 0]) (by simp [results, Try.results39, go_sem]) rfl ?_
              rw [HDG.out]
              exact ⟨_, _, _, pv', rfl, HS8.out, own_mono ho1 (by omega), own_mono ho2 (by omega), hT9.out, HFL.out⟩
end Go.Proofs.Ytpapblahnbeccaa
