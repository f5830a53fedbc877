/-
  BODIES: the reference's NestMatch and NestCheck. Condition: the library's variable that strings.Contains reads holds some number.
-/
import Derived.Test.YtnifgmijjggjjaaDoorNsQ
import Derived.Test.YtnifgmijjggjjaaDoorNsR
namespace Go.Proofs.YtnifgmijjggjjaaDoor
open Go.RowKit Go.Lib
attribute [local go_sem ↓] Go.wp_at_zero Go.wp_at_succ

theorem ints_none (w : World) : Ints w .i64 (.slice none 0 0) [] := ⟨none, 0, rfl, by simp, by simp, by simp, .inl rfl⟩
theorem nc_all (l : List It) (h : ¬ 200 < l.length) : ncM l = (allM itC It.op l).1 := by
  unfold ncM
  rw [if_neg h]
  exact (all_laws l).1
theorem mk_all (l : List It) (h : (allM itC It.op l).1 = 0) : mkM l = (allM itC It.op l).2 := (all_laws (c := itC) l).2 h _ ⟨by simp, by simp⟩
set_option maxRecDepth 100000 in
set_option maxHeartbeats 4000000 in
theorem rnmatch_any (w : World) (v : Value) (l : List It) (hok : ∀ x ∈ l, ItOk x) (h : BodS w v l) (hM : MaxL w) :
    Calls Tryd.prog 33 #[v] w fun e w' => ∃ va vb, e = .returned (.tuple #[va, vb, .int .i64 (ncM l)]) ∧ Ints w' .i64 va (if ncM l = 0 then (mkM l).1 else []) ∧ Ints w' .i64 vb (if ncM l = 0 then (mkM l).2 else []) ∧ Below w.heap.size w w' := by
  by_cases hbig : 200 < l.length
  · have hn : ncM l = 2 := by unfold ncM; rw [if_pos hbig]
    rw [hn]
    simp only [show ¬ ((2 : Int) = 0) from by decide, if_false]
    obtain ⟨css, _, ⟨ao, cap, rfl, _⟩, _⟩ := h
    have hb2 : (200 : Int) < (l.length : Int) := by omega
    go_enter Tryd.func33, Tryd.ntmps33
    go_wp2_with fail
    go_ret3
    exact ⟨_, _, rfl, ints_none _, ints_none _, Below.refl _ _⟩
  · rw [nc_all l hbig]
    have hb2 : ¬ (200 : Int) < (l.length : Int) := by omega
    have HB := hid (show Below w.heap.size w (w.alloc (.cells #[v, .slice none 0 0, .slice none 0 0] 85)) from (Below.refl _ _).alloc (Nat.le_refl _) _)
    by_cases h0 : 0 < l.length
    · obtain ⟨b, off, cap, rfl, hcap, hrow⟩ := h.rows h0
      have HA := hid (rall_any w l hok (by omega) h0 hM b off cap hcap hrow _ HB.out w.heap.size (Blk.new w _ _ _ rfl) (Nat.le_refl _) (fun E cE S cS => rseq_any w l hok (by omega) hM b off cap hcap w.heap.size E cE S cS hrow 12 0 (by omega)))
      have hmk := mk_all l
      generalize mkM l = mk at *
      generalize allM itC It.op l = fin at *
      obtain ⟨E0, m0⟩ := fin
      simp only at HA hmk ⊢
      by_cases he : E0 = 0
      · have hm := hmk he
        subst hm
        subst he
        simp only [if_true]
        clear hok h hM hrow hmk
        go_enter Tryd.func33, Tryd.ntmps33
        go_wp2_with fail
        refine HA.out.mono ?_
        rintro r w2 ⟨rfl, ⟨E, cE, S, cS, g1⟩, g2⟩
        have K2 := hid g1
        have B2 := hid g2
        clear g1 g2
        have mk1 := K2.out.blk.cell (i := 1) rfl
        have mk2 := K2.out.blk.cell (i := 2) rfl
        have mk1d : w2.drew.cell? ⟨w.heap.size, 1, none⟩ = some (.slice (some ⟨E, 0, none⟩) l.length cE) := mk1
        have mk2d : w2.drew.cell? ⟨w.heap.size, 2, none⟩ = some (.slice (some ⟨S, 0, none⟩) l.length cS) := mk2
        go_wp2_with fail
        go_region_law (fail)
        all_goals
          go_wp2_with fail
          go_ret3
          exact ⟨_, _, rfl, K2.out.drew.en.ints, K2.out.drew.el.ints, drew_bel' (n := 1) B2.out⟩
      · have he2 : (E0 != 0) = true := by simpa using he
        simp only [if_neg he]
        clear hok h hM hrow hmk he
        go_enter Tryd.func33, Tryd.ntmps33
        go_wp2_with fail
        refine HA.out.mono ?_
        rintro r w2 ⟨rfl, _, g2⟩
        have B2 := hid g2
        clear g2
        go_wp2_with fail
        go_ret3
        exact ⟨_, _, rfl, ints_none _, ints_none _, B2.out⟩
    · have hl : l = [] := List.length_eq_zero_iff.1 (by omega)
      subst hl
      rw [show (allM itC It.op ([] : List It)).1 = 3 from rfl]
      simp only [show ¬ ((3 : Int) = 0) from by decide, if_false]
      obtain ⟨css, _, ⟨ao, cap, rfl, _⟩, _⟩ := h
      have HA := hid (rall_nil (w.alloc (.cells #[.slice ao 0 cap, .slice none 0 0, .slice none 0 0] 85)) w.heap.size ao cap (Blk.new w _ _ _ rfl))
      clear hok hM
      go_enter Tryd.func33, Tryd.ntmps33
      go_wp2_with fail
      refine HA.out.mono ?_
      rintro r w2 ⟨rfl, rfl⟩
      go_wp2_with fail
      go_ret3
      exact ⟨_, _, rfl, ints_none _, ints_none _, HB.out⟩
set_option maxRecDepth 100000 in
set_option maxHeartbeats 1000000 in
theorem rncheck_any (w : World) (v : Value) (l : List It) (hok : ∀ x ∈ l, ItOk x) (h : BodS w v l) (hM : MaxL w) :
    Calls Tryd.prog 19 #[v] w fun e w' => e = .returned (.int .i64 (ncM l)) ∧ Below w.heap.size w w' := by
  have HA := hid (rnmatch_any w v l hok h hM)
  obtain ⟨css, _, ⟨ao, cap, rfl, _⟩, _⟩ := h
  generalize ncM l = E at *
  clear hok hM
  go_enter Tryd.func19, Tryd.ntmps19
  go_wp2_with fail
  refine HA.out.mono ?_
  rintro r w2 ⟨va, vb, rfl, _, _, g2⟩
  have B2 := hid g2
  clear g2
  go_wp2_with fail
  go_ret
  exact ⟨rfl, B2.out⟩
end Go.Proofs.YtnifgmijjggjjaaDoor
