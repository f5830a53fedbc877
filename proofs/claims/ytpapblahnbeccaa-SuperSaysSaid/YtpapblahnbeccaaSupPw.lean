/-
  PACKAGE super: the walk of Plan past its first tests, by strategy. Conditions: the children are at most eight; the one that failed is kept.
-/
import Derived.Test.YtpapblahnbeccaaSupPl
import Derived.Test.YtpapblahnbeccaaRev
namespace Go.Proofs.Ytpapblahnbeccaa
open Go.RowKit

theorem nums_rev (l : List Nat) : (nums l).reverse = nums l.reverse := by unfold nums; rw [List.map_reverse]
theorem sel_of {ks : List (Bool × Bool)} {f i : Nat} {r k : Bool} (h : i < ks.length) (H : Hid ((r, k) = ks[i])) : selStop ks f i = ((i != f) && r) ∧ selStart ks i = k := by
  have e : ks.getD i (false, false) = (r, k) := by rw [List.getD_eq_getElem?_getD, List.getElem?_eq_getElem h, ← H.out]; rfl
  unfold selStop selStart
  rw [e]
  exact ⟨rfl, rfl⟩

set_option maxRecDepth 100000 in
set_option maxHeartbeats 4000000 in
theorem plan_all (v : Value) (ks : List (Bool × Bool)) (f : Nat) (w : World) (hv : Kids w v ks) (hlen : ks.length ≤ 8) (hf : f < ks.length) (hk : ks[f].2 = true) :
    Calls Try.prog 102 #[.int .i64 2, v, .int .i64 f] w (PlanPost w (nums ((List.range' 0 (ks.length)).filter (selStop ks f)).reverse, nums ((List.range' 0 (ks.length)).filter (selStart ks)), 0)) := by
  rcases hv.open with ⟨ao, cap, rfl, rfl, _⟩ | ⟨b, off, cap, rfl, h0, hcap, hm, hc1, hc2⟩
  · simp at hf
  · have hd1 : decide (8 < (ks.length : Int)) = false := decide_eq_false (by omega)
    have hd2 : decide ((f : Int) < 0) = false := decide_eq_false (by omega)
    have hd3 : decide (ks.length ≤ f) = false := decide_eq_false (by omega)
    have hcf := hc2 f hf
    rw [hk] at hcf
    have HC1 := hid hc1
    have HC2 := hid hc2
    have HKF := hid hk
    clear hc1 hc2 hk
    go_enter Try.func102, Try.ntmps102
    go_wp2_with (go_at_call 99; refine (isStr_yes _ _ (by omega)).mono ?_; rintro e w' ⟨rfl, rfl⟩)
    go_loopw [6, 7, 50] (fun v u i wr => ∃ j : Nat, j ≤ ks.length ∧ i = .int .i64 j ∧ PlanRel w ks f 0 j v u wr) (fun _ _ i _ => ks.length - (intOf i).toNat)
    case atStart => exact ⟨0, by omega, rfl, OwnI.nil _ _ _ _, OwnI.nil _ _ _ _, Sep.nil_left _, Below.refl _ _⟩
    case round =>
      obtain ⟨j, hj, rfl, hrel⟩ := hrel
      by_cases hlt : j < ks.length
      · have hlk : 0 + j < ks.length := by omega
        have e1 := HC1.out (0 + j) hlk
        have e2 := HC2.out (0 + j) hlk
        obtain ⟨hs, ht, hsep, hbel⟩ := id hrel
        obtain ⟨⟨r, k⟩, hrk⟩ : ∃ x, x = ks[0 + j] := ⟨_, rfl⟩
        have hff : 0 + j = f → k = true := by
          intro e
          have := HKF.out
          have e' : ks[0 + j] = ks[f] := by congr 1
          rw [← e', ← hrk] at this
          exact this
        rw [← hrk] at e1 e2
        have hse := sel_of (f := f) hlk (hid hrk)
        clear hrk
        rw [show off + (0 + j) * 2 = off + j * 2 by omega] at e1 e2
        have e1' : wr.cell? ⟨b, off + j * 2, none⟩ = some (.bool r) := by rw [← e1]; exact hbel.cell (p := ⟨b, _, none⟩) (World.block_lt_of_cell? w ⟨b, _, none⟩ e1)
        have e2' : wr.cell? ⟨b, off + j * 2 + 1, none⟩ = some (.bool k) := by rw [← e2]; exact hbel.cell (p := ⟨b, _, none⟩) (World.block_lt_of_cell? w ⟨b, _, none⟩ e2)
        clear e1 e2
        have hsz := hbel.size
        have hl1 : (nums ((List.range' 0 j).filter (selStop ks f))).length ≤ j := nums_len
        have hl2 : (nums ((List.range' 0 j).filter (selStart ks))).length ≤ j := nums_len
        by_cases hif : 0 + j = f
        · have hneq : ((j : Int) != (f : Int)) = false := by simp; omega
          obtain rfl := hff hif
          have h1 : selStop ks f (0 + j) = false := by rw [hse.1]; simp [hif]
          have h2 : selStart ks (0 + j) = true := hse.2
          clear hff hse
          have HR := hid (And.intro h1 h2)
          have HIF := hid hif
          clear h1 h2 hif
          go_wp2_with (at_builtin; refine app_int elem_int (base := w.heap.size) rfl (.tmp 71) (.tmp 73) rfl rfl rfl (by simp) (World.ownsRow.alloc ht _) (by omega) (by omega) (by simp; omega) ?_; intro v2 w2 ho2 hb2 hg2)
          obtain ⟨h1, h2⟩ := HR.out
          go_roundw
          case rel => exact ⟨j + 1, by omega, by go_num, pr_start hrel h1 h2 (by omega) ho2 hb2 hg2⟩
          case measure => simp [intOf]; omega
        · have hneq : ((j : Int) != (f : Int)) = true := by simp; omega
          have hbn : (0 + j != f) = true := by simp only [bne_iff_ne]; exact hif
          have h1' : selStop ks f (0 + j) = r := by rw [hse.1, hbn, Bool.true_and]
          have h2' : selStart ks (0 + j) = k := hse.2
          clear hff hse
          have HR := hid (And.intro h1' h2')
          clear h1' h2' hif hbn
          cases r
          · cases k
            · go_wp2_with fail
              obtain ⟨h1, h2⟩ := HR.out
              go_roundw
              case rel => exact ⟨j + 1, by omega, by go_num, pr_none hrel h1 h2 _⟩
              case measure => simp [intOf]; omega
            · go_wp2_with (at_builtin; refine app_int elem_int (base := w.heap.size) rfl (.tmp 71) (.tmp 73) rfl rfl rfl (by simp) (World.ownsRow.alloc ht _) (by omega) (by omega) (by simp; omega) ?_; intro v2 w2 ho2 hb2 hg2)
              obtain ⟨h1, h2⟩ := HR.out
              go_roundw
              case rel => exact ⟨j + 1, by omega, by go_num, pr_start hrel h1 h2 (by omega) ho2 hb2 hg2⟩
              case measure => simp [intOf]; omega
          · cases k
            · go_wp2_with (at_builtin; refine app_int elem_int (base := w.heap.size) rfl (.tmp 65) (.tmp 67) rfl rfl rfl (by simp) (World.ownsRow.alloc hs _) (by omega) (by omega) (by simp; omega) ?_; intro v1 w1 ho1 hb1 hg1; have hsz1 := hb1.size; simp at hsz1; have hk1 : w1.cell? ⟨wr.heap.size, 1, none⟩ = some (.bool _) := hg1.newcell hs 1)
              obtain ⟨h1, h2⟩ := HR.out
              go_roundw
              case rel => exact ⟨j + 1, by omega, by go_num, pr_stop hrel h1 h2 (by omega) ho1 hb1 hg1⟩
              case measure => simp [intOf]; omega
            · go_wp2_with (first | (at_builtin; refine app_int elem_int (base := w.heap.size) rfl (.tmp 65) (.tmp 67) rfl rfl rfl (by simp) (World.ownsRow.alloc hs _) (by omega) (by omega) (by simp; omega) ?_; intro v1 w1 ho1 hb1 hg1; have hsz1 := hb1.size; simp at hsz1; have hk1 : w1.cell? ⟨wr.heap.size, 1, none⟩ = some (.bool _) := hg1.newcell hs 1) | (at_builtin; refine app_int elem_int (base := w.heap.size) rfl (.tmp 71) (.tmp 73) rfl rfl rfl (by simp) (hg1.other (World.ownsRow.alloc ht _) hsep.symm).1 (by omega) (by omega) (by omega) ?_; intro v2 w2 ho2 hb2 hg2))
              obtain ⟨h1, h2⟩ := HR.out
              go_roundw
              case rel => exact ⟨j + 1, by omega, by go_num, pr_both hrel h1 h2 (by omega) (by omega) ho1 hb1 hg1 ho2 hb2 hg2⟩
              case measure => simp [intOf]; omega
      · obtain rfl : j = ks.length := by omega
        obtain ⟨hs, ht, hsep, hbel⟩ := hrel
        have hl1 : (nums ((List.range' 0 (ks.length)).filter (selStop ks f))).length ≤ ks.length := nums_len
        go_wp2_with fail
        refine (reverse_own hs (by omega)).mono ?_
        rintro e w2 ⟨rfl, hs2, hg2⟩
        obtain ⟨ht2, hsep2⟩ := hg2.other ht hsep.symm
        have hb2 := hbel.trans ((Below.refl w.heap.size wr).grown hg2.1 hbel.size (own_block hs))
        go_wp2_with fail
        go_ret3
        rw [nums_rev] at hs2
        exact ⟨_, _, rfl, hs2, ht2, hsep2.symm, hb2⟩

set_option maxRecDepth 100000 in
set_option maxHeartbeats 4000000 in
theorem plan_one (v : Value) (ks : List (Bool × Bool)) (f : Nat) (w : World) (hv : Kids w v ks) (hlen : ks.length ≤ 8) (hf : f < ks.length) (hk : ks[f].2 = true) :
    Calls Try.prog 102 #[.int .i64 1, v, .int .i64 f] w (PlanPost w (nums ((List.range' f (1)).filter (selStop ks f)).reverse, nums ((List.range' f (1)).filter (selStart ks)), 0)) := by
  rcases hv.open with ⟨ao, cap, rfl, rfl, _⟩ | ⟨b, off, cap, rfl, h0, hcap, hm, hc1, hc2⟩
  · simp at hf
  · have hd1 : decide (8 < (ks.length : Int)) = false := decide_eq_false (by omega)
    have hd2 : decide ((f : Int) < 0) = false := decide_eq_false (by omega)
    have hd3 : decide (ks.length ≤ f) = false := decide_eq_false (by omega)
    have hcapf : ¬ cap = f := by omega
    have hcf := hc2 f hf
    rw [hk] at hcf
    have HC1 := hid hc1
    have HC2 := hid hc2
    have HKF := hid hk
    clear hc1 hc2 hk
    go_enter Try.func102, Try.ntmps102
    go_wp2_with (go_at_call 99; refine (isStr_yes _ _ (by omega)).mono ?_; rintro e w' ⟨rfl, rfl⟩)
    go_loopw [6, 7, 50] (fun v u i wr => ∃ j : Nat, j ≤ 1 ∧ i = .int .i64 j ∧ PlanRel w ks f f j v u wr) (fun _ _ i _ => 1 - (intOf i).toNat)
    case atStart => exact ⟨0, by omega, rfl, OwnI.nil _ _ _ _, OwnI.nil _ _ _ _, Sep.nil_left _, Below.refl _ _⟩
    case round =>
      obtain ⟨j, hj, rfl, hrel⟩ := hrel
      by_cases hlt : j < 1
      · have hlk : f + j < ks.length := by omega
        have e1 := HC1.out (f + j) hlk
        have e2 := HC2.out (f + j) hlk
        obtain ⟨hs, ht, hsep, hbel⟩ := id hrel
        obtain ⟨⟨r, k⟩, hrk⟩ : ∃ x, x = ks[f + j] := ⟨_, rfl⟩
        have hff : f + j = f → k = true := by
          intro e
          have := HKF.out
          have e' : ks[f + j] = ks[f] := by congr 1
          rw [← e', ← hrk] at this
          exact this
        rw [← hrk] at e1 e2
        have hse := sel_of (f := f) hlk (hid hrk)
        clear hrk
        rw [show off + (f + j) * 2 = off + f * 2 + j * 2 by omega] at e1 e2
        have e1' : wr.cell? ⟨b, off + f * 2 + j * 2, none⟩ = some (.bool r) := by rw [← e1]; exact hbel.cell (p := ⟨b, _, none⟩) (World.block_lt_of_cell? w ⟨b, _, none⟩ e1)
        have e2' : wr.cell? ⟨b, off + f * 2 + j * 2 + 1, none⟩ = some (.bool k) := by rw [← e2]; exact hbel.cell (p := ⟨b, _, none⟩) (World.block_lt_of_cell? w ⟨b, _, none⟩ e2)
        clear e1 e2
        have hsz := hbel.size
        have hl1 : (nums ((List.range' f j).filter (selStop ks f))).length ≤ j := nums_len
        have hl2 : (nums ((List.range' f j).filter (selStart ks))).length ≤ j := nums_len
        by_cases hif : f + j = f
        · have hneq : (((j : Int) + (f : Int)) != (f : Int)) = false := by simp; omega
          obtain rfl := hff hif
          have h1 : selStop ks f (f + j) = false := by rw [hse.1]; simp [hif]
          have h2 : selStart ks (f + j) = true := hse.2
          clear hff hse
          have HR := hid (And.intro h1 h2)
          have HIF := hid hif
          clear h1 h2 hif
          go_wp2_with (at_builtin; refine app_int elem_int (base := w.heap.size) rfl (.tmp 71) (.tmp 73) rfl rfl rfl (by simp) (World.ownsRow.alloc ht _) (by omega) (by omega) (by simp; omega) ?_; intro v2 w2 ho2 hb2 hg2)
          obtain ⟨h1, h2⟩ := HR.out
          go_roundw
          case rel => exact ⟨j + 1, by omega, by go_num, pr_start hrel h1 h2 (by omega) ho2 hb2 hg2⟩
          case measure => simp [intOf]; omega
        · have hneq : (((j : Int) + (f : Int)) != (f : Int)) = true := by simp; omega
          have hbn : (f + j != f) = true := by simp only [bne_iff_ne]; exact hif
          have h1' : selStop ks f (f + j) = r := by rw [hse.1, hbn, Bool.true_and]
          have h2' : selStart ks (f + j) = k := hse.2
          clear hff hse
          have HR := hid (And.intro h1' h2')
          clear h1' h2' hif hbn
          cases r
          · cases k
            · go_wp2_with fail
              obtain ⟨h1, h2⟩ := HR.out
              go_roundw
              case rel => exact ⟨j + 1, by omega, by go_num, pr_none hrel h1 h2 _⟩
              case measure => simp [intOf]; omega
            · go_wp2_with (at_builtin; refine app_int elem_int (base := w.heap.size) rfl (.tmp 71) (.tmp 73) rfl rfl rfl (by simp) (World.ownsRow.alloc ht _) (by omega) (by omega) (by simp; omega) ?_; intro v2 w2 ho2 hb2 hg2)
              obtain ⟨h1, h2⟩ := HR.out
              go_roundw
              case rel => exact ⟨j + 1, by omega, by go_num, pr_start hrel h1 h2 (by omega) ho2 hb2 hg2⟩
              case measure => simp [intOf]; omega
          · cases k
            · go_wp2_with (at_builtin; refine app_int elem_int (base := w.heap.size) rfl (.tmp 65) (.tmp 67) rfl rfl rfl (by simp) (World.ownsRow.alloc hs _) (by omega) (by omega) (by simp; omega) ?_; intro v1 w1 ho1 hb1 hg1; have hsz1 := hb1.size; simp at hsz1; have hk1 : w1.cell? ⟨wr.heap.size, 1, none⟩ = some (.bool _) := hg1.newcell hs 1)
              obtain ⟨h1, h2⟩ := HR.out
              go_roundw
              case rel => exact ⟨j + 1, by omega, by go_num, pr_stop hrel h1 h2 (by omega) ho1 hb1 hg1⟩
              case measure => simp [intOf]; omega
            · go_wp2_with (first | (at_builtin; refine app_int elem_int (base := w.heap.size) rfl (.tmp 65) (.tmp 67) rfl rfl rfl (by simp) (World.ownsRow.alloc hs _) (by omega) (by omega) (by simp; omega) ?_; intro v1 w1 ho1 hb1 hg1; have hsz1 := hb1.size; simp at hsz1; have hk1 : w1.cell? ⟨wr.heap.size, 1, none⟩ = some (.bool _) := hg1.newcell hs 1) | (at_builtin; refine app_int elem_int (base := w.heap.size) rfl (.tmp 71) (.tmp 73) rfl rfl rfl (by simp) (hg1.other (World.ownsRow.alloc ht _) hsep.symm).1 (by omega) (by omega) (by omega) ?_; intro v2 w2 ho2 hb2 hg2))
              obtain ⟨h1, h2⟩ := HR.out
              go_roundw
              case rel => exact ⟨j + 1, by omega, by go_num, pr_both hrel h1 h2 (by omega) (by omega) ho1 hb1 hg1 ho2 hb2 hg2⟩
              case measure => simp [intOf]; omega
      · obtain rfl : j = 1 := by omega
        obtain ⟨hs, ht, hsep, hbel⟩ := hrel
        have hl1 : (nums ((List.range' f (1)).filter (selStop ks f))).length ≤ 1 := nums_len
        go_wp2_with fail
        refine (reverse_own hs (by omega)).mono ?_
        rintro e w2 ⟨rfl, hs2, hg2⟩
        obtain ⟨ht2, hsep2⟩ := hg2.other ht hsep.symm
        have hb2 := hbel.trans ((Below.refl w.heap.size wr).grown hg2.1 hbel.size (own_block hs))
        go_wp2_with fail
        go_ret3
        rw [nums_rev] at hs2
        exact ⟨_, _, rfl, hs2, ht2, hsep2.symm, hb2⟩

set_option maxRecDepth 100000 in
set_option maxHeartbeats 4000000 in
theorem plan_rest (v : Value) (ks : List (Bool × Bool)) (f : Nat) (w : World) (hv : Kids w v ks) (hlen : ks.length ≤ 8) (hf : f < ks.length) (hk : ks[f].2 = true) :
    Calls Try.prog 102 #[.int .i64 3, v, .int .i64 f] w (PlanPost w (nums ((List.range' f ((ks.length - f))).filter (selStop ks f)).reverse, nums ((List.range' f ((ks.length - f))).filter (selStart ks)), 0)) := by
  rcases hv.open with ⟨ao, cap, rfl, rfl, _⟩ | ⟨b, off, cap, rfl, h0, hcap, hm, hc1, hc2⟩
  · simp at hf
  · have hd1 : decide (8 < (ks.length : Int)) = false := decide_eq_false (by omega)
    have hd2 : decide ((f : Int) < 0) = false := decide_eq_false (by omega)
    have hd3 : decide (ks.length ≤ f) = false := decide_eq_false (by omega)
    have hcapf : ¬ cap = f := by omega
    have hcf := hc2 f hf
    rw [hk] at hcf
    have HC1 := hid hc1
    have HC2 := hid hc2
    have HKF := hid hk
    clear hc1 hc2 hk
    go_enter Try.func102, Try.ntmps102
    go_wp2_with (go_at_call 99; refine (isStr_yes _ _ (by omega)).mono ?_; rintro e w' ⟨rfl, rfl⟩)
    go_loopw [6, 7, 50] (fun v u i wr => ∃ j : Nat, j ≤ (ks.length - f) ∧ i = .int .i64 j ∧ PlanRel w ks f f j v u wr) (fun _ _ i _ => (ks.length - f) - (intOf i).toNat)
    case atStart => exact ⟨0, by omega, rfl, OwnI.nil _ _ _ _, OwnI.nil _ _ _ _, Sep.nil_left _, Below.refl _ _⟩
    case round =>
      obtain ⟨j, hj, rfl, hrel⟩ := hrel
      by_cases hlt : j < (ks.length - f)
      · have hlk : f + j < ks.length := by omega
        have e1 := HC1.out (f + j) hlk
        have e2 := HC2.out (f + j) hlk
        obtain ⟨hs, ht, hsep, hbel⟩ := id hrel
        obtain ⟨⟨r, k⟩, hrk⟩ : ∃ x, x = ks[f + j] := ⟨_, rfl⟩
        have hff : f + j = f → k = true := by
          intro e
          have := HKF.out
          have e' : ks[f + j] = ks[f] := by congr 1
          rw [← e', ← hrk] at this
          exact this
        rw [← hrk] at e1 e2
        have hse := sel_of (f := f) hlk (hid hrk)
        clear hrk
        rw [show off + (f + j) * 2 = off + f * 2 + j * 2 by omega] at e1 e2
        have e1' : wr.cell? ⟨b, off + f * 2 + j * 2, none⟩ = some (.bool r) := by rw [← e1]; exact hbel.cell (p := ⟨b, _, none⟩) (World.block_lt_of_cell? w ⟨b, _, none⟩ e1)
        have e2' : wr.cell? ⟨b, off + f * 2 + j * 2 + 1, none⟩ = some (.bool k) := by rw [← e2]; exact hbel.cell (p := ⟨b, _, none⟩) (World.block_lt_of_cell? w ⟨b, _, none⟩ e2)
        clear e1 e2
        have hsz := hbel.size
        have hl1 : (nums ((List.range' f j).filter (selStop ks f))).length ≤ j := nums_len
        have hl2 : (nums ((List.range' f j).filter (selStart ks))).length ≤ j := nums_len
        by_cases hif : f + j = f
        · have hneq : (((j : Int) + (f : Int)) != (f : Int)) = false := by simp; omega
          obtain rfl := hff hif
          have h1 : selStop ks f (f + j) = false := by rw [hse.1]; simp [hif]
          have h2 : selStart ks (f + j) = true := hse.2
          clear hff hse
          have HR := hid (And.intro h1 h2)
          have HIF := hid hif
          clear h1 h2 hif
          go_wp2_with (at_builtin; refine app_int elem_int (base := w.heap.size) rfl (.tmp 71) (.tmp 73) rfl rfl rfl (by simp) (World.ownsRow.alloc ht _) (by omega) (by omega) (by simp; omega) ?_; intro v2 w2 ho2 hb2 hg2)
          obtain ⟨h1, h2⟩ := HR.out
          go_roundw
          case rel => exact ⟨j + 1, by omega, by go_num, pr_start hrel h1 h2 (by omega) ho2 hb2 hg2⟩
          case measure => simp [intOf]; omega
        · have hneq : (((j : Int) + (f : Int)) != (f : Int)) = true := by simp; omega
          have hbn : (f + j != f) = true := by simp only [bne_iff_ne]; exact hif
          have h1' : selStop ks f (f + j) = r := by rw [hse.1, hbn, Bool.true_and]
          have h2' : selStart ks (f + j) = k := hse.2
          clear hff hse
          have HR := hid (And.intro h1' h2')
          clear h1' h2' hif hbn
          cases r
          · cases k
            · go_wp2_with fail
              obtain ⟨h1, h2⟩ := HR.out
              go_roundw
              case rel => exact ⟨j + 1, by omega, by go_num, pr_none hrel h1 h2 _⟩
              case measure => simp [intOf]; omega
            · go_wp2_with (at_builtin; refine app_int elem_int (base := w.heap.size) rfl (.tmp 71) (.tmp 73) rfl rfl rfl (by simp) (World.ownsRow.alloc ht _) (by omega) (by omega) (by simp; omega) ?_; intro v2 w2 ho2 hb2 hg2)
              obtain ⟨h1, h2⟩ := HR.out
              go_roundw
              case rel => exact ⟨j + 1, by omega, by go_num, pr_start hrel h1 h2 (by omega) ho2 hb2 hg2⟩
              case measure => simp [intOf]; omega
          · cases k
            · go_wp2_with (at_builtin; refine app_int elem_int (base := w.heap.size) rfl (.tmp 65) (.tmp 67) rfl rfl rfl (by simp) (World.ownsRow.alloc hs _) (by omega) (by omega) (by simp; omega) ?_; intro v1 w1 ho1 hb1 hg1; have hsz1 := hb1.size; simp at hsz1; have hk1 : w1.cell? ⟨wr.heap.size, 1, none⟩ = some (.bool _) := hg1.newcell hs 1)
              obtain ⟨h1, h2⟩ := HR.out
              go_roundw
              case rel => exact ⟨j + 1, by omega, by go_num, pr_stop hrel h1 h2 (by omega) ho1 hb1 hg1⟩
              case measure => simp [intOf]; omega
            · go_wp2_with (first | (at_builtin; refine app_int elem_int (base := w.heap.size) rfl (.tmp 65) (.tmp 67) rfl rfl rfl (by simp) (World.ownsRow.alloc hs _) (by omega) (by omega) (by simp; omega) ?_; intro v1 w1 ho1 hb1 hg1; have hsz1 := hb1.size; simp at hsz1; have hk1 : w1.cell? ⟨wr.heap.size, 1, none⟩ = some (.bool _) := hg1.newcell hs 1) | (at_builtin; refine app_int elem_int (base := w.heap.size) rfl (.tmp 71) (.tmp 73) rfl rfl rfl (by simp) (hg1.other (World.ownsRow.alloc ht _) hsep.symm).1 (by omega) (by omega) (by omega) ?_; intro v2 w2 ho2 hb2 hg2))
              obtain ⟨h1, h2⟩ := HR.out
              go_roundw
              case rel => exact ⟨j + 1, by omega, by go_num, pr_both hrel h1 h2 (by omega) (by omega) ho1 hb1 hg1 ho2 hb2 hg2⟩
              case measure => simp [intOf]; omega
      · obtain rfl : j = (ks.length - f) := by omega
        obtain ⟨hs, ht, hsep, hbel⟩ := hrel
        have hl1 : (nums ((List.range' f ((ks.length - f))).filter (selStop ks f))).length ≤ (ks.length - f) := nums_len
        go_wp2_with fail
        refine (reverse_own hs (by omega)).mono ?_
        rintro e w2 ⟨rfl, hs2, hg2⟩
        obtain ⟨ht2, hsep2⟩ := hg2.other ht hsep.symm
        have hb2 := hbel.trans ((Below.refl w.heap.size wr).grown hg2.1 hbel.size (own_block hs))
        go_wp2_with fail
        go_ret3
        rw [nums_rev] at hs2
        exact ⟨_, _, rfl, hs2, ht2, hsep2.symm, hb2⟩
end Go.Proofs.Ytpapblahnbeccaa
