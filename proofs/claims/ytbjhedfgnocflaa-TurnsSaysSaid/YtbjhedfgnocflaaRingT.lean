/-
  THE RING OF THE PROGRAM: the walks of Add, Drop, Next, Pick. Conditions: the object's own invariant; at most 8796093022207 ids.
-/
import Derived.Test.YtbjhedfgnocflaaRingQ
import Derived.BigRegion
import Derived.LaidEqlPtr
namespace Go.Proofs.Ytbjhedfgnocflaa
open Go.RowKit Go.Lib
attribute [local go_sem ↓] Go.wp_at_zero Go.wp_at_succ

set_option maxRecDepth 100000 in
set_option maxHeartbeats 4000000 in
theorem padd_any (w : World) (base B : Nat) (f : Nat → Nat) (xs : List Int) (id : Int) (h : PRing w base B f xs) (hl : xs.length < 8796093022208) :
    Calls Try.prog 59 #[pt B, .int .i64 id] w (PRPost w base B f xs.length (.bool (!decide (ixI id xs < xs.length))) (addL id xs)) := by
  have hf := find_any w base B f xs id h (by omega)
  unfold findV at hf
  unfold addL
  by_cases hin : ixI id xs < xs.length
  · rw [if_pos hin] at hf ⊢
    rw [decide_eq_true hin, Bool.not_true]
    have HF := hid hf
    have H := hid h
    clear hf h hin
    go_enter Try.func59, Try.ntmps59
    go_wp2_with fail
    refine HF.out.mono ?_
    rintro e w1 ⟨rfl, rfl⟩
    go_wp2_with fail
    go_ret
    exact pr_same H.out (Below.refl _ _)
  · rw [if_neg hin] at hf ⊢
    rw [decide_eq_false hin, Bool.not_false]
    have q0 := h.blk.cell (i := 0) rfl
    have q1 := h.blk.cell (i := 1) rfl
    have f0 := h.blk.free 0
    have f1 := h.blk.free 1
    have hBlt := h.blk.lt
    have hgB : w.heap.size ≠ B := by omega
    by_cases hn : xs.length = 0
    · have hx : xs = [] := List.eq_nil_of_length_eq_zero hn
      subst hx
      rw [show hdF f ([] : List Int).length = .pointer none from rfl] at q0
      rw [show (([] : List Int).length : Int) = 0 from rfl] at q1
      have HF := hid hf
      have H := hid h
      clear hf h hin hn
      go_enter Try.func59, Try.ntmps59
      go_wp2_with fail
      refine HF.out.mono ?_
      rintro e w1 ⟨rfl, rfl⟩
      go_wp2_with fail
      go_ret
      have hsz : ∀ a b c d : _, ((w.setCell a b).setCell c d).heap.size = w.heap.size := fun a b c d => by simp
      have hW : Touch (footR B f 0) w ((w.setCell ⟨B, 0, none⟩ (pt w.heap.size)).setCell ⟨B, 1, none⟩ (.int .i64 1)) :=
        ((Touch.refl _ w).put (a := ⟨B, 0, none⟩) (.inl rfl) _).put (a := ⟨B, 1, none⟩) (.inl rfl) _
      refine ⟨fun _ => w.heap.size, rfl, ⟨?_, ?_, ?_, ?_, H.out.le, ?_⟩, hW.alloc _, ?_⟩
      · exact ((H.out.blk.set 0 (pt w.heap.size)).set 1 (.int .i64 1)).alloc _
      · intro i hi
        obtain rfl : i = 0 := by simp at hi; exact hi
        exact Blk.new ((w.setCell ⟨B, 0, none⟩ (pt w.heap.size)).setCell ⟨B, 1, none⟩ (.int .i64 1)) _ _ _ (hsz _ _ _ _).symm
      · intro i j hi hj _
        simp at hi hj
        omega
      · intro i _
        exact ⟨H.out.base, hgB⟩
      · have := H.out.base
        simp
        omega
      · rintro k (e | ⟨i, _, e⟩)
        · exact .inl (.inl e)
        · exact .inr (Nat.le_of_eq e.symm)
    · have hn1 : 0 < xs.length := by omega
      have hn0 := h.node 0 hn1
      have hnl := h.node (xs.length - 1) (by omega)
      have a0 := hn0.cell (i := 1) rfl
      rw [show pv xs.length 0 = xs.length - 1 from rfl] at a0
      have al := hnl.cell (i := 2) rfl
      have fa := hn0.free 1
      have fl := hnl.free 2
      have g1 := (h.ge 0 hn1).2
      have g2 := (h.ge (xs.length - 1) (by omega)).2
      have l1 := hn0.lt
      have l2 := hnl.lt
      rw [show hdF f xs.length = pt (f 0) from by unfold hdF; rw [if_neg hn]] at q0
      have HF := hid hf
      have H := hid h
      clear hf h hin hn hn0 hnl
      go_enter Try.func59, Try.ntmps59
      go_wp2_with fail
      refine HF.out.mono ?_
      rintro e w1 ⟨rfl, rfl⟩
      go_wp2_with fail
      go_region
      all_goals
        go_wp2_with fail
        go_region
        all_goals
          go_wp2_with fail
          go_ret
          have hsz : ∀ a b c d e g : _, (((w.setCell a b).setCell c d).setCell e g).heap.size = w.heap.size := fun a b c d e g => by simp
          have hW : Touch (footR B f xs.length) w (((w.setCell ⟨f (xs.length - 1), 2, none⟩ (pt w.heap.size)).setCell ⟨f 0, 1, none⟩ (pt w.heap.size)).setCell ⟨B, 1, none⟩ (.int .i64 ((xs.length : Int) + 1))) :=
            (((Touch.refl _ w).put (a := ⟨f (xs.length - 1), 2, none⟩) (.inr ⟨_, by omega, rfl⟩) _).put (a := ⟨f 0, 1, none⟩) (.inr ⟨0, hn1, rfl⟩) _).put (a := ⟨B, 1, none⟩) (.inl rfl) _
          refine ⟨fun i => if i = xs.length then w.heap.size else f i, rfl, ?_, ((hW.alloc _).drew1).drew1, ?_⟩
          · refine add_fin H.out hn1 (Nat.le_refl _) (by simp) ?_ ?_ ?_
            · exact (((((H.out.blk.other g2 _).other g1 _).set 1 _)).alloc _ : Blk _ _ _ _) |> fun h => by
                rw [show hdF f xs.length = pt (f 0) from by unfold hdF; rw [if_neg (by omega)]] at h
                exact h
            · exact Blk.new (((w.setCell ⟨f (xs.length - 1), 2, none⟩ (pt w.heap.size)).setCell ⟨f 0, 1, none⟩ (pt w.heap.size)).setCell ⟨B, 1, none⟩ (.int .i64 ((xs.length : Int) + 1))) _ _ _ (hsz _ _ _ _ _ _).symm
            · intro i hi
              have h1 := H.out.node i hi
              have h2 := nd_set1 (a := f 0) (v := pt w.heap.size) (nd_set2 (a := f (xs.length - 1)) (v := pt w.heap.size) h1)
              exact (h2.other (a := ⟨B, 1, none⟩) (fun e => (H.out.ge i hi).2 e.symm) (.int .i64 ((xs.length : Int) + 1))).alloc _
          · intro k hk
            rw [List.length_append] at hk
            exact add_foot (Nat.le_refl _) k hk

theorem info_link : ∃ j, Try.prog.info? 172 = some j ∧ j.size ≠ 0 := by
  have h : (Try.prog.info? 172).map (·.size) = some 3 := by kernel_rfl
  cases hj : Try.prog.info? 172 with
  | none => rw [hj] at h; simp at h
  | some j => rw [hj] at h; exact ⟨j, rfl, by simp at h; omega⟩
theorem eql_same (b : Nat) (w : World) : (binOp .eql 110 (pt b) (pt b)).run Try.prog w = .ok (.bool true) w := by
  obtain ⟨j, hj, _⟩ := info_link
  exact run_eql_ptr_same w _ Try.underlying110 hj
theorem eql_other {w : World} {a b : Nat} {ta tb : TypeId} {ca cb : List Value} (h : a ≠ b) (ha : Blk w a ta ca) (hb : Blk w b tb cb) : (binOp .eql 110 (pt a) (pt b)).run Try.prog w = .ok (.bool false) w := by
  obtain ⟨j, hj, hs⟩ := info_link
  exact run_eql_ptr_other w Try.underlying110 hj hs (fun e => h (by injection e)) ha hb
theorem touch3 {F : Nat → Prop} {w : World} {a b c : Addr} (ha : F a.block) (hb : F b.block) (hc : F c.block) (u v x : Value) : Touch F w (((w.setCell a u).setCell b v).setCell c x) := (((Touch.refl _ w).put ha u).put hb v).put hc x
set_option maxRecDepth 100000 in
set_option maxHeartbeats 4000000 in
theorem pdrop_any (w : World) (base B : Nat) (f : Nat → Nat) (xs : List Int) (id : Int) (h : PRing w base B f xs) (hl : xs.length ≤ 8796093022208) :
    Calls Try.prog 60 #[pt B, .int .i64 id] w (PRPost w base B f xs.length (.bool (decide (ixI id xs < xs.length))) (dropL id xs)) := by
  have hf := find_any w base B f xs id h (by omega)
  unfold findV at hf
  unfold dropL
  by_cases hin : ixI id xs < xs.length
  · rw [if_pos hin] at hf ⊢
    rw [decide_eq_true hin]
    generalize ixI id xs = k at *
    have q0 := h.blk.cell (i := 0) rfl
    have q1 := h.blk.cell (i := 1) rfl
    have f0 := h.blk.free 0
    have f1 := h.blk.free 1
    have hBlt := h.blk.lt
    have hp := pv_lt hin
    have hx := nx_lt hin
    rw [show hdF f xs.length = pt (f 0) from by unfold hdF; rw [if_neg (by omega)]] at q0
    have nk := h.node k hin
    have np := h.node _ hp
    have nn := h.node _ hx
    have ka := nk.cell (i := 1) rfl
    have kn := nk.cell (i := 2) rfl
    have pn := np.cell (i := 2) rfl
    have na := nn.cell (i := 1) rfl
    have pf := np.free 2
    have nf := nn.free 1
    have g1 := (h.ge _ hin).2
    have g2 := (h.ge _ hp).2
    have g3 := (h.ge _ hx).2
    by_cases hn : xs.length = 1
    · obtain rfl : k = 0 := by omega
      have e1 : pv xs.length 0 = 0 := by unfold pv; rw [if_pos rfl]; omega
      have e2 : nx xs.length 0 = 0 := by unfold nx; rw [if_pos (by omega)]
      clear np nn
      rw [e1] at ka pn pf g2
      rw [e2] at kn na nf g3
      rw [hn] at q1
      have HF := hid hf
      have H := hid h
      have HN := hid hn
      have hse := eql_same (f 0)
      clear hf h hin hp hx nk e1 e2 hn
      go_enter Try.func60, Try.ntmps60
      go_wp2_with fail
      refine HF.out.mono ?_
      rintro e w1 ⟨rfl, rfl⟩
      go_wp2_with fail
      go_region
      all_goals
        go_wp2_with fail
        go_ret
        have hW := ((((((Touch.refl (footR B f xs.length) w).put (a := ⟨f 0, 2, none⟩) (.inr ⟨0, by have := HN.out; omega, rfl⟩) (pt (f 0))).put (a := ⟨f 0, 1, none⟩) (.inr ⟨0, by have := HN.out; omega, rfl⟩) (pt (f 0))).put (a := ⟨B, 0, none⟩) (.inl rfl) (pt (f 0))).put (a := ⟨B, 1, none⟩) (.inl rfl) (.int .i64 0)).put (a := ⟨B, 0, none⟩) (.inl rfl) (.pointer none)).drew1
        have hx0 : xs.eraseIdx 0 = [] := List.eq_nil_of_length_eq_zero (by rw [List.length_eraseIdx_of_lt (by have := HN.out; omega), HN.out])
        have hx1 : xs.tail = [] := by rw [← List.eraseIdx_zero]; exact hx0
        first | rw [hx0] | rw [hx1]
        refine ⟨fun _ => 0, rfl, ⟨?_, fun i hi => by simp at hi, fun i _ hi => by simp at hi, fun i hi => by simp at hi, H.out.le, ?_⟩, hW, ?_⟩
        · exact (((((H.out.blk.other (a := ⟨f 0, 2, none⟩) g1 _).other (a := ⟨f 0, 1, none⟩) g1 _).set 0 (pt (f 0))).set 1 (.int .i64 0)).set 0 (.pointer none))
        · have := H.out.base
          simp
          omega
        · rintro k (e | ⟨i, hi, _⟩)
          · exact .inl (.inl e)
          · simp at hi
    · have hn2 : 2 ≤ xs.length := by omega
      have HF := hid hf
      have H := hid h
      have hkp : f k ≠ f (pv xs.length k) := fun e => by
        have := h.inj _ _ hin hp e
        unfold pv at this; split at this <;> omega
      have hkn : f k ≠ f (nx xs.length k) := fun e => by
        have := h.inj _ _ hin hx e
        unfold nx at this; split at this <;> omega
      have hz : ((xs.length : Int) - 1 == 0) = false := by simp; omega
      by_cases hk0 : k = 0
      · subst hk0
        have hse := eql_same (f 0)
        clear hf h hin hp hx nk np nn hn
        go_enter Try.func60, Try.ntmps60
        go_wp2_with fail
        refine HF.out.mono ?_
        rintro e w1 ⟨rfl, rfl⟩
        go_wp2_with fail
        go_region
        all_goals
          go_wp2_with fail
          go_ret
          first | rw [← List.eraseIdx_zero] | skip
          have hW := (((((Touch.refl (footR B f xs.length) w).put (a := ⟨f (pv xs.length 0), 2, none⟩) (.inr ⟨_, pv_lt (by omega), rfl⟩) (pt (f (nx xs.length 0)))).put (a := ⟨f (nx xs.length 0), 1, none⟩) (.inr ⟨_, nx_lt (by omega), rfl⟩) (pt (f (pv xs.length 0)))).put (a := ⟨B, 0, none⟩) (.inl rfl) (pt (f (nx xs.length 0)))).put (a := ⟨B, 1, none⟩) (.inl rfl) (.int .i64 ((xs.length : Int) - 1))).drew1
          refine ⟨fun i => f (if i < 0 then i else i + 1), rfl, ?_, hW, ?_⟩
          · refine drop_fin H.out hn2 (by omega) (by simp) ?_ ?_
            · rw [if_pos rfl]
              exact ((((H.out.blk.other (a := ⟨f (pv xs.length 0), 2, none⟩) g2 _).other (a := ⟨f (nx xs.length 0), 1, none⟩) g3 _).set 0 (pt (f (nx xs.length 0)))).set 1 (.int .i64 ((xs.length : Int) - 1)))
            · intro i hi _
              have h2 := nd_set1 (a := f (nx xs.length 0)) (v := pt (f (pv xs.length 0))) (nd_set2 (a := f (pv xs.length 0)) (v := pt (f (nx xs.length 0))) (H.out.node i hi))
              exact (h2.other (a := ⟨B, 0, none⟩) (fun e => (H.out.ge i hi).2 e.symm) (pt (f (nx xs.length 0)))).other (a := ⟨B, 1, none⟩) (fun e => (H.out.ge i hi).2 e.symm) (.int .i64 ((xs.length : Int) - 1))
          · intro j hj
            rw [List.length_eraseIdx_of_lt (by omega)] at hj
            exact drop_foot j hj
      · have h0k : f 0 ≠ f k := fun e => by
          have := h.inj 0 k (by omega) hin e
          omega
        have b0 := nd_set1 (a := f (nx xs.length k)) (v := pt (f (pv xs.length k))) (nd_set2 (a := f (pv xs.length k)) (v := pt (f (nx xs.length k))) (h.node 0 (by omega)))
        have bk := nd_set1 (a := f (nx xs.length k)) (v := pt (f (pv xs.length k))) (nd_set2 (a := f (pv xs.length k)) (v := pt (f (nx xs.length k))) nk)
        have hse := eql_other (w := ((w.setCell ⟨f (pv xs.length k), 2, none⟩ (pt (f (nx xs.length k)))).setCell ⟨f (nx xs.length k), 1, none⟩ (pt (f (pv xs.length k)))).drew) h0k b0 bk
        clear b0 bk
        have HK := hid hin
        clear hf h hin hp hx nk np nn hn
        go_enter Try.func60, Try.ntmps60
        go_wp2_with fail
        refine HF.out.mono ?_
        rintro e w1 ⟨rfl, rfl⟩
        go_wp2_with fail
        go_region
        all_goals
          go_wp2_with fail
          go_ret
          have hW := ((((Touch.refl (footR B f xs.length) w).put (a := ⟨f (pv xs.length k), 2, none⟩) (.inr ⟨_, pv_lt HK.out, rfl⟩) (pt (f (nx xs.length k)))).put (a := ⟨f (nx xs.length k), 1, none⟩) (.inr ⟨_, nx_lt HK.out, rfl⟩) (pt (f (pv xs.length k)))).put (a := ⟨B, 1, none⟩) (.inl rfl) (.int .i64 ((xs.length : Int) - 1))).drew1
          refine ⟨fun i => f (if i < k then i else i + 1), rfl, ?_, hW, ?_⟩
          · refine drop_fin H.out hn2 HK.out (by simp) ?_ ?_
            · rw [if_neg hk0]
              have h0 := H.out.blk
              rw [show hdF f xs.length = pt (f 0) from by unfold hdF; rw [if_neg (by omega)]] at h0
              exact (((h0.other (a := ⟨f (pv xs.length k), 2, none⟩) g2 _).other (a := ⟨f (nx xs.length k), 1, none⟩) g3 _).set 1 (.int .i64 ((xs.length : Int) - 1)))
            · intro i hi _
              have h2 := nd_set1 (a := f (nx xs.length k)) (v := pt (f (pv xs.length k))) (nd_set2 (a := f (pv xs.length k)) (v := pt (f (nx xs.length k))) (H.out.node i hi))
              exact h2.other (a := ⟨B, 1, none⟩) (fun e => (H.out.ge i hi).2 e.symm) (.int .i64 ((xs.length : Int) - 1))
          · intro j hj
            rw [List.length_eraseIdx_of_lt HK.out] at hj
            exact drop_foot j hj
  · rw [if_neg hin] at hf ⊢
    rw [decide_eq_false hin]
    have HF := hid hf
    have H := hid h
    clear hf h hin
    go_enter Try.func60, Try.ntmps60
    go_wp2_with fail
    refine HF.out.mono ?_
    rintro e w1 ⟨rfl, rfl⟩
    go_wp2_with fail
    go_ret
    exact pr_same H.out (Below.refl _ _)

set_option maxRecDepth 100000 in
set_option maxHeartbeats 4000000 in
theorem pnext_any (w : World) (base B : Nat) (f : Nat → Nat) (xs : List Int) (h : PRing w base B f xs) (hl : xs.length ≤ 8796093022208) :
    Calls Try.prog 63 #[pt B] w (PRPost w base B f xs.length (.tuple #[.int .i64 (xs.getD 0 0), .bool (!xs.isEmpty)]) (nextL xs)) := by
  have q0 := h.blk.cell (i := 0) rfl
  have q1 := h.blk.cell (i := 1) rfl
  have f0 := h.blk.free 0
  by_cases hn : xs = []
  · subst hn
    rw [show (([] : List Int).length : Int) = 0 from rfl] at q1
    have H := hid h
    clear h
    go_enter Try.func63, Try.ntmps63
    go_wp2_with fail
    go_ret2
    exact pr_same H.out (Below.refl _ _)
  · have hpos : 0 < xs.length := by cases xs with
      | nil => exact absurd rfl hn
      | cons _ _ => simp
    have he : (!xs.isEmpty) = true := by cases xs with
      | nil => exact absurd rfl hn
      | cons _ _ => rfl
    have hg : xs.getD 0 0 = xs[0] := by rw [List.getD_eq_getElem?_getD, List.getElem?_eq_getElem hpos]; rfl
    rw [he, hg]
    rw [show hdF f xs.length = pt (f 0) from by unfold hdF; rw [if_neg (by omega)]] at q0
    have n0 := h.node 0 hpos
    have x0 := n0.cell (i := 0) rfl
    have x2 := n0.cell (i := 2) rfl
    have hz : ((xs.length : Int) == 0) = false := by simp; omega
    have H := hid h
    generalize xs[0] = x at *
    clear h he hg hn n0
    go_enter Try.func63, Try.ntmps63
    go_wp2_with fail
    go_ret2
    refine ⟨fun i => f (nx xs.length i), rfl, ?_, (Touch.refl _ w).put (a := ⟨B, 0, none⟩) (.inl rfl) _, ?_⟩
    · refine next_fin H.out hpos (by simp) ?_ ?_
      · exact H.out.blk.set 0 _
      · intro i hi
        exact (H.out.node i hi).other (a := ⟨B, 0, none⟩) (fun e => (H.out.ge i hi).2 e.symm) _
    · intro k hk
      have e3 : (nextL xs).length = xs.length := by unfold nextL; simp; omega
      rw [e3] at hk
      exact next_foot k hk

theorem retIB {k : IntKind} {a a' : Int} {b b' : Bool} (h1 : a = a') (h2 : b = b') : Ending.returned (.tuple #[.int k a, .bool b]) = .returned (.tuple #[.int k a', .bool b']) := by rw [h1, h2]
theorem pick_pos {n t k : Int} (h : k.tmod n = t) (hn : 0 < n) (h0 : 0 ≤ t) : k % n = t := by rw [rest_pos (by omega) (by omega), h]
theorem pick_neg {n t k : Int} (h : k.tmod n = t) (hn : 0 < n) (h0 : t < 0) : k % n = t + n := by rw [rest_neg (by omega) (by omega), h]
set_option maxRecDepth 100000 in
set_option maxHeartbeats 4000000 in
theorem ppick_any (w : World) (base B : Nat) (f : Nat → Nat) (xs : List Int) (k : Int) (h : PRing w base B f xs) (hl : xs.length ≤ 8796093022208) :
    Calls Try.prog 65 #[pt B, .int .i64 k] w (fun e w' => e = .returned (.tuple #[.int .i64 (pickI k xs), .bool (!xs.isEmpty)]) ∧ w = w') := by
  have q0 := h.blk.cell (i := 0) rfl
  have q1 := h.blk.cell (i := 1) rfl
  unfold pickI
  by_cases hn : xs = []
  · rw [if_pos hn]
    subst hn
    rw [show (([] : List Int).length : Int) = 0 from rfl] at q1
    clear h
    go_enter Try.func65, Try.ntmps65
    go_wp2_with fail
    go_ret2
    exact ⟨rfl, rfl⟩
  · rw [if_neg hn]
    have hpos : 0 < xs.length := by cases xs with
      | nil => exact absurd rfl hn
      | cons _ _ => simp
    have he : (!xs.isEmpty) = true := by cases xs with
      | nil => exact absurd rfl hn
      | cons _ _ => rfl
    rw [he]
    rw [show hdF f xs.length = pt (f 0) from by unfold hdF; rw [if_neg (by omega)]] at q0
    have hz : ((xs.length : Int) == 0) = false := by simp; omega
    have hn0 : (0 : Int) < xs.length := by omega
    have t1 := Int.tmod_lt_of_pos k hn0
    have t2 := Int.lt_tmod_of_pos k hn0
    generalize ht : k.tmod (xs.length : Int) = t at *
    have H := hid h
    have HT := hid ht
    clear h hn he
    by_cases h0 : 0 ≤ t
    · obtain ⟨m, rfl⟩ := Int.eq_ofNat_of_zero_le h0
      have hm : m < xs.length := by omega
      have hk := pick_pos HT.out hn0 (by omega)
      have hg : xs.getD (k % xs.length).toNat 0 = xs[m] := by rw [hk, Int.toNat_natCast, List.getD_eq_getElem?_getD, List.getElem?_eq_getElem hm]; rfl
      rw [hg]
      clear hk hg
      go_enter Try.func65, Try.ntmps65
      go_wp2_with fail
      go_loop [1, 6] (fun i l => ∃ j : Nat, j ≤ m ∧ i = .int .i64 ((m : Int) - j) ∧ l = pt (f j)) (fun i _ => (intOf i).toNat)
      case atStart => exact ⟨0, Nat.zero_le _, by simp [ht], rfl⟩
      case round =>
        obtain ⟨j, hj, rfl, rfl⟩ := hrel
        by_cases hlt : j < m
        · have hnd := H.out.node j (by omega)
          have x2 := hnd.cell (i := 2) rfl
          rw [show nx xs.length j = j + 1 from by unfold nx; rw [if_neg (by omega)]] at x2
          have hd : decide (j < m) = true := decide_eq_true hlt
          have hd2 : decide ((0 : Int) < (m : Int) - j) = true := decide_eq_true (by omega)
          clear hnd
          go_wp2_with fail
          go_round
          case rel => exact ⟨j + 1, by omega, by congr 1; omega, rfl⟩
          case measure => simp [intOf]; omega
        · obtain rfl : j = m := by omega
          have hnd := H.out.node j hm
          have x0 := hnd.cell (i := 0) rfl
          generalize hx : xs[j] = x at *
          have HX := hid hx
          clear hx
          rw [Int.sub_self]
          clear hnd
          go_wp2_with fail
          go_loop [1, 6] (fun i l => i = .int .i64 0 ∧ l = pt (f j)) (fun i _ => 0)
          case atStart => exact ⟨rfl, rfl⟩
          case round =>
            obtain ⟨rfl, rfl⟩ := hrel
            go_wp2_with fail
            go_ret2
            exact ⟨retIB HX.out.symm rfl, rfl⟩
    · have hk := pick_neg HT.out hn0 (by omega)
      obtain ⟨m, hm⟩ := Int.eq_ofNat_of_zero_le (by omega : 0 ≤ -t)
      obtain rfl : t = -(m : Int) := by omega
      have hm1 : 1 ≤ m := by omega
      have hm2 : m < xs.length := by omega
      have hidx : xs.length - m < xs.length := by omega
      have hg : xs.getD (k % xs.length).toNat 0 = xs[xs.length - m] := by
        rw [hk, show (-(m : Int) + xs.length).toNat = xs.length - m from by omega, List.getD_eq_getElem?_getD, List.getElem?_eq_getElem hidx]; rfl
      rw [hg]
      clear hk hg
      go_enter Try.func65, Try.ntmps65
      go_wp2_with fail
      go_loop [1, 6] (fun i l => i = .int .i64 (-(m : Int)) ∧ l = pt (f 0)) (fun i _ => 0)
      case atStart => exact ⟨by simp [ht], rfl⟩
      case round =>
        obtain ⟨rfl, rfl⟩ := hrel
        go_wp2_with fail
        go_loop [1, 6] (fun i l => ∃ j : Nat, j ≤ m ∧ i = .int .i64 (-(m : Int) + j) ∧ l = pt (f (if j = 0 then 0 else xs.length - j))) (fun i _ => (-(intOf i)).toNat)
        case atStart => exact ⟨0, Nat.zero_le _, by simp, rfl⟩
        case round =>
          obtain ⟨j, hj, rfl, rfl⟩ := hrel
          by_cases hlt : j < m
          · have hnd := H.out.node (if j = 0 then 0 else xs.length - j) (by split <;> omega)
            have x1 := hnd.cell (i := 1) rfl
            rw [show pv xs.length (if j = 0 then 0 else xs.length - j) = xs.length - (j + 1) from by unfold pv; split <;> split <;> omega] at x1
            have hd2 : decide (-(m : Int) + j < 0) = true := decide_eq_true (by omega)
            clear hnd
            generalize (if j = 0 then 0 else xs.length - j) = jj at *
            go_wp2_with fail
            go_round
            case rel => exact ⟨j + 1, by omega, by congr 1; omega, by rw [if_neg (by omega)]⟩
            case measure => simp [intOf]; omega
          · obtain rfl : j = m := by omega
            rw [if_neg (by omega)]
            have hnd := H.out.node (xs.length - j) hidx
            have x0 := hnd.cell (i := 0) rfl
            generalize hx : xs[xs.length - j] = x at *
            have HX := hid hx
            clear hx
            rw [show -(j : Int) + j = 0 from by omega]
            clear hnd
            go_wp2_with fail
            go_ret2
            exact ⟨retIB HX.out.symm rfl, rfl⟩
end Go.Proofs.Ytbjhedfgnocflaa
