/-
  THE REFERENCE's Plan, by strategy. Conditions: the children are at most eight.
-/
import Derived.Test.YtpapblahnbeccaaSupPw
namespace Go.Proofs.Ytpapblahnbeccaa
open Go.RowKit

/-- where the loop of the reference's Plan stands after j rounds -/
def RefRel (W : World) (q p1 p2 : Nat → Bool) (j : Nat) (v u : Value) (wr : World) : Prop :=
  OwnI wr W.heap.size .i64 3 v (nums ((List.range j).filter (fun i => q i && p1 i)).reverse) ∧ OwnI wr W.heap.size .i64 3 u (nums ((List.range j).filter (fun i => q i && p2 i))) ∧ Sep v u ∧ Below W.heap.size W wr

theorem ref_yes {p : Nat → Bool} {j : Nat} (h : p j = true) : nums ((List.range (j + 1)).filter p) = nums ((List.range j).filter p) ++ [(j : Int)] := by
  rw [List.range_succ, List.filter_append]
  simp [nums, h]
theorem ref_no {p : Nat → Bool} {j : Nat} (h : p j = false) : (List.range (j + 1)).filter p = (List.range j).filter p := by
  rw [List.range_succ, List.filter_append]
  simp [h]
theorem ref_rev {p : Nat → Bool} {j : Nat} (h : p j = true) : nums ((List.range (j + 1)).filter p).reverse = (j : Int) :: nums ((List.range j).filter p).reverse := by
  rw [List.range_succ, List.filter_append]
  simp [nums, h]
theorem ref_len {p : Nat → Bool} {j : Nat} : (nums ((List.range j).filter p)).length ≤ j := by
  unfold nums
  rw [List.length_map]
  exact Nat.le_trans (List.length_filter_le _ _) (by simp)
theorem ref_len' {p : Nat → Bool} {j : Nat} : (nums ((List.range j).filter p).reverse).length ≤ j := by
  rw [← nums_rev, List.length_reverse]; exact ref_len

theorem rr_none {W : World} {q p1 p2 : Nat → Bool} {j : Nat} {v u : Value} {wr : World} (h : RefRel W q p1 p2 j v u wr) (h1 : (q j && p1 j) = false) (h2 : (q j && p2 j) = false) (o : Obj) : RefRel W q p1 p2 (j + 1) v u (wr.alloc o) := by
  obtain ⟨a, b, c, d⟩ := h
  refine ⟨?_, ?_, c, d.alloc d.size _⟩
  · rw [ref_no h1]; exact World.ownsRow.alloc a _
  · rw [ref_no h2]; exact World.ownsRow.alloc b _
theorem rr_stop {W : World} {q p1 p2 : Nat → Bool} {j : Nat} {v u v' : Value} {wr w1 : World} {o : Obj} (h : RefRel W q p1 p2 j v u wr) (h1 : (q j && p1 j) = true) (h2 : (q j && p2 j) = false)
    (ho : OwnI w1 W.heap.size .i64 3 v' ((j : Int) :: nums ((List.range j).filter (fun i => q i && p1 i)).reverse)) (hb : Below (wr.alloc o).heap.size (wr.alloc o) w1) (hn : New (wr.alloc o) v') : RefRel W q p1 p2 (j + 1) v' u w1 := by
  obtain ⟨a, b, c, d⟩ := h
  have b' := World.ownsRow.alloc b o
  refine ⟨?_, ?_, (sep_new b' hn).symm, (d.alloc d.size _).trans (hb.mono (by have := d.size; simp; omega))⟩
  · rw [ref_rev h1]; exact ho
  · rw [ref_no h2]; exact own_below b' hb
theorem rr_start {W : World} {q p1 p2 : Nat → Bool} {j : Nat} {v u u' : Value} {wr w1 : World} {o : Obj} (h : RefRel W q p1 p2 j v u wr) (h1 : (q j && p1 j) = false) (h2 : (q j && p2 j) = true)
    (ho : OwnI w1 W.heap.size .i64 3 u' (nums ((List.range j).filter (fun i => q i && p2 i)) ++ [(j : Int)])) (hb : Below W.heap.size (wr.alloc o) w1) (hg : Grew (wr.alloc o) u w1 u') : RefRel W q p1 p2 (j + 1) v u' w1 := by
  obtain ⟨a, b, c, d⟩ := h
  obtain ⟨e1, e2⟩ := hg.other (World.ownsRow.alloc a o) c
  refine ⟨?_, ?_, e2, (d.alloc d.size _).trans hb⟩
  · rw [ref_no h1]; exact e1
  · rw [ref_yes h2]; exact ho
theorem rr_both {W : World} {q p1 p2 : Nat → Bool} {j : Nat} {v u v' u' : Value} {wr w1 w2 : World} {o : Obj} (h : RefRel W q p1 p2 j v u wr) (h1 : (q j && p1 j) = true) (h2 : (q j && p2 j) = true)
    (ho : OwnI w1 W.heap.size .i64 3 v' ((j : Int) :: nums ((List.range j).filter (fun i => q i && p1 i)).reverse)) (hb : Below (wr.alloc o).heap.size (wr.alloc o) w1) (hn : New (wr.alloc o) v')
    (ho' : OwnI w2 W.heap.size .i64 3 u' (nums ((List.range j).filter (fun i => q i && p2 i)) ++ [(j : Int)])) (hb' : Below W.heap.size w1 w2) (hg' : Grew w1 u w2 u') : RefRel W q p1 p2 (j + 1) v' u' w2 := by
  obtain ⟨a, b, c, d⟩ := h
  obtain ⟨e3, e4⟩ := hg'.other ho (sep_new (World.ownsRow.alloc b o) hn).symm
  refine ⟨?_, ?_, e4, ((d.alloc d.size _).trans (hb.mono (by have := d.size; simp; omega))).trans hb'⟩
  · rw [ref_rev h1]; exact e3
  · rw [ref_yes h2]; exact ho'

set_option maxRecDepth 100000 in
set_option maxHeartbeats 4000000 in
theorem refPlan_1 (v : Value) (ks : List (Bool × Bool)) (f : Nat) (w : World) (hv : Kids w v ks) (hlen : ks.length ≤ 8) (hf : f < ks.length) (hk : ks[f].2 = true) :
    Calls Try.prog 105 #[.int .i64 1, v, .int .i64 f] w (PlanPost w (nums ((List.range ks.length).filter (fun i => inn 1 f i && selStop ks f i)).reverse, nums ((List.range ks.length).filter (fun i => inn 1 f i && selStart ks i)), 0)) := by
  rcases hv.open with ⟨ao, cap, rfl, rfl, _⟩ | ⟨b, off, cap, rfl, h0, hcap, hm, hc1, hc2⟩
  · simp at hf
  · have hd1 : decide (8 < (ks.length : Int)) = false := decide_eq_false (by omega)
    have hd2 : decide ((f : Int) < 0) = false := decide_eq_false (by omega)
    have hd3 : decide (ks.length ≤ f) = false := decide_eq_false (by omega)
    have hcf := hc2 f hf
    rw [hk] at hcf
    have HC1 := hid hc1
    have HC2 := hid hc2
    have HKF := hid hk
    clear hc1 hc2 hk
    go_enter Try.func105, Try.ntmps105
    go_wp2_with fail
    go_loopw [9, 10, 35] (fun v u i wr => ∃ j : Nat, j ≤ ks.length ∧ i = .int .i64 j ∧ RefRel w (inn 1 f) (selStop ks f) (selStart ks) j v u wr) (fun _ _ i _ => ks.length - (intOf i).toNat)
    case atStart => exact ⟨0, by omega, rfl, OwnI.nil _ _ _ _, OwnI.nil _ _ _ _, Sep.nil_left _, Below.refl _ _⟩
    case round =>
      obtain ⟨j, hj, rfl, hrel⟩ := hrel
      by_cases hlt : j < ks.length
      · have e1 := HC1.out j hlt
        have e2 := HC2.out j hlt
        obtain ⟨hs, ht, hsep, hbel⟩ := id hrel
        obtain ⟨⟨r, k⟩, hrk⟩ : ∃ x, x = ks[j] := ⟨_, rfl⟩
        have hff : j = f → k = true := by
          intro e
          have := HKF.out
          have e' : ks[j] = ks[f] := by congr 1
          rw [← e', ← hrk] at this
          exact this
        rw [← hrk] at e1 e2
        have hse := sel_of (f := f) hlt (hid hrk)
        clear hrk
        have e1' : wr.cell? ⟨b, off + j * 2, none⟩ = some (.bool r) := by rw [← e1]; exact hbel.cell (p := ⟨b, _, none⟩) (World.block_lt_of_cell? w ⟨b, _, none⟩ e1)
        have e2' : wr.cell? ⟨b, off + j * 2 + 1, none⟩ = some (.bool k) := by rw [← e2]; exact hbel.cell (p := ⟨b, _, none⟩) (World.block_lt_of_cell? w ⟨b, _, none⟩ e2)
        have e3' : wr.cell? ⟨b, off + f * 2 + 1, none⟩ = some (.bool true) := by rw [← hcf]; exact hbel.cell (p := ⟨b, _, none⟩) (World.block_lt_of_cell? w ⟨b, _, none⟩ hcf)
        have hbw : b < wr.heap.size := World.block_lt_of_cell? wr ⟨b, _, none⟩ e3'
        clear e1 e2
        have hsz := hbel.size
        have hl1 : (nums ((List.range j).filter (fun i => inn 1 f i && selStop ks f i)).reverse).length ≤ j := ref_len'
        have hl2 : (nums ((List.range j).filter (fun i => inn 1 f i && selStart ks i))).length ≤ j := ref_len
        by_cases hif : j = f
        · have hneq : ((j : Int) == (f : Int)) = true := by simp; omega
          have hneq2 : ((j : Int) != (f : Int)) = false := by simp; omega
          have hin : inn 1 f j = true := by simp [inn, hif]
          obtain rfl := hff hif
          have h1 : (inn 1 f j && selStop ks f j) = false := by rw [hse.1]; simp [hif]
          have h2 : (inn 1 f j && selStart ks j) = true := by rw [hin, hse.2]; rfl
          have HR := hid (And.intro h1 h2)
          have hif2 : j ≤ f := by omega
          clear hff hse h1 h2 hin hif
          cases r
          all_goals
            go_wp2_with (at_builtin; refine app_int elem_int (base := w.heap.size) rfl (.tmp 79) (.tmp 81) rfl rfl rfl (by simp) (World.ownsRow.alloc ht _) (by omega) (by omega) (by simp; omega) ?_; intro v2 w2 ho2 hb2 hg2)
            obtain ⟨h1, h2⟩ := HR.out
            go_roundw
            case rel => exact ⟨j + 1, by omega, by go_num, rr_start hrel h1 h2 ho2 hb2 hg2⟩
            case measure => simp [intOf]; omega
        · have hin : inn 1 f j = false := by simp [inn, hif]
          have hneq : ((j : Int) == (f : Int)) = false := by simp; omega
          have hneq2 : ((j : Int) != (f : Int)) = true := by simp; omega
          have h1' : (inn 1 f j && selStop ks f j) = false := by rw [hin, Bool.false_and]
          have h2' : (inn 1 f j && selStart ks j) = false := by rw [hin, Bool.false_and]
          have HR := hid (And.intro h1' h2')
          clear hff hse h1' h2' hin
          cases r <;> cases k
          all_goals
            go_wp2_with fail
            obtain ⟨h1, h2⟩ := HR.out
            go_roundw
            case rel => exact ⟨j + 1, by omega, by go_num, rr_none hrel h1 h2 _⟩
            case measure => simp [intOf]; omega
      · obtain rfl : j = ks.length := by omega
        obtain ⟨hs, ht, hsep, hbel⟩ := hrel
        go_wp2_with fail
        go_ret3
        exact ⟨_, _, rfl, hs, ht, hsep, hbel⟩

set_option maxRecDepth 100000 in
set_option maxHeartbeats 4000000 in
theorem refPlan_2 (v : Value) (ks : List (Bool × Bool)) (f : Nat) (w : World) (hv : Kids w v ks) (hlen : ks.length ≤ 8) (hf : f < ks.length) (hk : ks[f].2 = true) :
    Calls Try.prog 105 #[.int .i64 2, v, .int .i64 f] w (PlanPost w (nums ((List.range ks.length).filter (fun i => inn 2 f i && selStop ks f i)).reverse, nums ((List.range ks.length).filter (fun i => inn 2 f i && selStart ks i)), 0)) := by
  rcases hv.open with ⟨ao, cap, rfl, rfl, _⟩ | ⟨b, off, cap, rfl, h0, hcap, hm, hc1, hc2⟩
  · simp at hf
  · have hd1 : decide (8 < (ks.length : Int)) = false := decide_eq_false (by omega)
    have hd2 : decide ((f : Int) < 0) = false := decide_eq_false (by omega)
    have hd3 : decide (ks.length ≤ f) = false := decide_eq_false (by omega)
    have hcf := hc2 f hf
    rw [hk] at hcf
    have HC1 := hid hc1
    have HC2 := hid hc2
    have HKF := hid hk
    clear hc1 hc2 hk
    go_enter Try.func105, Try.ntmps105
    go_wp2_with fail
    go_loopw [9, 10, 35] (fun v u i wr => ∃ j : Nat, j ≤ ks.length ∧ i = .int .i64 j ∧ RefRel w (inn 2 f) (selStop ks f) (selStart ks) j v u wr) (fun _ _ i _ => ks.length - (intOf i).toNat)
    case atStart => exact ⟨0, by omega, rfl, OwnI.nil _ _ _ _, OwnI.nil _ _ _ _, Sep.nil_left _, Below.refl _ _⟩
    case round =>
      obtain ⟨j, hj, rfl, hrel⟩ := hrel
      by_cases hlt : j < ks.length
      · have e1 := HC1.out j hlt
        have e2 := HC2.out j hlt
        obtain ⟨hs, ht, hsep, hbel⟩ := id hrel
        obtain ⟨⟨r, k⟩, hrk⟩ : ∃ x, x = ks[j] := ⟨_, rfl⟩
        have hff : j = f → k = true := by
          intro e
          have := HKF.out
          have e' : ks[j] = ks[f] := by congr 1
          rw [← e', ← hrk] at this
          exact this
        rw [← hrk] at e1 e2
        have hse := sel_of (f := f) hlt (hid hrk)
        clear hrk
        have e1' : wr.cell? ⟨b, off + j * 2, none⟩ = some (.bool r) := by rw [← e1]; exact hbel.cell (p := ⟨b, _, none⟩) (World.block_lt_of_cell? w ⟨b, _, none⟩ e1)
        have e2' : wr.cell? ⟨b, off + j * 2 + 1, none⟩ = some (.bool k) := by rw [← e2]; exact hbel.cell (p := ⟨b, _, none⟩) (World.block_lt_of_cell? w ⟨b, _, none⟩ e2)
        have e3' : wr.cell? ⟨b, off + f * 2 + 1, none⟩ = some (.bool true) := by rw [← hcf]; exact hbel.cell (p := ⟨b, _, none⟩) (World.block_lt_of_cell? w ⟨b, _, none⟩ hcf)
        have hbw : b < wr.heap.size := World.block_lt_of_cell? wr ⟨b, _, none⟩ e3'
        clear e1 e2
        have hsz := hbel.size
        have hl1 : (nums ((List.range j).filter (fun i => inn 2 f i && selStop ks f i)).reverse).length ≤ j := ref_len'
        have hl2 : (nums ((List.range j).filter (fun i => inn 2 f i && selStart ks i))).length ≤ j := ref_len
        by_cases hif : j = f
        · have hneq : ((j : Int) == (f : Int)) = true := by simp; omega
          have hneq2 : ((j : Int) != (f : Int)) = false := by simp; omega
          have hin : inn 2 f j = true := by simp [inn, hif]
          obtain rfl := hff hif
          have h1 : (inn 2 f j && selStop ks f j) = false := by rw [hse.1]; simp [hif]
          have h2 : (inn 2 f j && selStart ks j) = true := by rw [hin, hse.2]; rfl
          have HR := hid (And.intro h1 h2)
          have hif2 : j ≤ f := by omega
          clear hff hse h1 h2 hin hif
          cases r
          all_goals
            go_wp2_with (at_builtin; refine app_int elem_int (base := w.heap.size) rfl (.tmp 79) (.tmp 81) rfl rfl rfl (by simp) (World.ownsRow.alloc ht _) (by omega) (by omega) (by simp; omega) ?_; intro v2 w2 ho2 hb2 hg2)
            obtain ⟨h1, h2⟩ := HR.out
            go_roundw
            case rel => exact ⟨j + 1, by omega, by go_num, rr_start hrel h1 h2 ho2 hb2 hg2⟩
            case measure => simp [intOf]; omega
        · have hin : inn 2 f j = true := by simp [inn]
          have hneq : ((j : Int) == (f : Int)) = false := by simp; omega
          have hneq2 : ((j : Int) != (f : Int)) = true := by simp; omega
          have hbn : (j != f) = true := by simp only [bne_iff_ne]; exact hif
          have h1' : (inn 2 f j && selStop ks f j) = r := by rw [hin, hse.1, hbn, Bool.true_and, Bool.true_and]
          have h2' : (inn 2 f j && selStart ks j) = k := by rw [hin, hse.2, Bool.true_and]
          have HR := hid (And.intro h1' h2')
          clear hff hse h1' h2' hbn hin
          cases r
          · cases k
            · go_wp2_with fail
              obtain ⟨h1, h2⟩ := HR.out
              go_roundw
              case rel => exact ⟨j + 1, by omega, by go_num, rr_none hrel h1 h2 _⟩
              case measure => simp [intOf]; omega
            · go_wp2_with (at_builtin; refine app_int elem_int (base := w.heap.size) rfl (.tmp 79) (.tmp 81) rfl rfl rfl (by simp) (World.ownsRow.alloc ht _) (by omega) (by omega) (by simp; omega) ?_; intro v2 w2 ho2 hb2 hg2)
              obtain ⟨h1, h2⟩ := HR.out
              go_roundw
              case rel => exact ⟨j + 1, by omega, by go_num, rr_start hrel h1 h2 ho2 hb2 hg2⟩
              case measure => simp [intOf]; omega
          · cases k
            · go_wp2_with (at_builtin; refine app_cons elem_int (base := w.heap.size) rfl (.tmp 74) (.tmp 75) rfl rfl rfl (by simp) (World.ownsRow.alloc hs _) (by omega) (by omega) (by simp; omega) ?_; intro v1 w1 ho1 hb1 hn1; have hsz1 := hb1.size; simp at hsz1; have hk1 : w1.cell? ⟨wr.heap.size, 1, none⟩ = some (.bool _) := (hb1.cell (p := ⟨wr.heap.size, 1, none⟩) (by simp)).trans (World.cell?_alloc_new _ _ _ _))
              obtain ⟨h1, h2⟩ := HR.out
              go_roundw
              case rel => exact ⟨j + 1, by omega, by go_num, rr_stop hrel h1 h2 ho1 hb1 hn1⟩
              case measure => simp [intOf]; omega
            · go_wp2_with (first | (at_builtin; refine app_cons elem_int (base := w.heap.size) rfl (.tmp 74) (.tmp 75) rfl rfl rfl (by simp) (World.ownsRow.alloc hs _) (by omega) (by omega) (by simp; omega) ?_; intro v1 w1 ho1 hb1 hn1; have hsz1 := hb1.size; simp at hsz1; have hk1 : w1.cell? ⟨wr.heap.size, 1, none⟩ = some (.bool _) := (hb1.cell (p := ⟨wr.heap.size, 1, none⟩) (by simp)).trans (World.cell?_alloc_new _ _ _ _)) | (at_builtin; refine app_int elem_int (base := w.heap.size) rfl (.tmp 79) (.tmp 81) rfl rfl rfl (by simp) (own_below (World.ownsRow.alloc ht _) hb1) (by omega) (by omega) (by omega) ?_; intro v2 w2 ho2 hb2 hg2))
              obtain ⟨h1, h2⟩ := HR.out
              go_roundw
              case rel => exact ⟨j + 1, by omega, by go_num, rr_both hrel h1 h2 ho1 hb1 hn1 ho2 hb2 hg2⟩
              case measure => simp [intOf]; omega
      · obtain rfl : j = ks.length := by omega
        obtain ⟨hs, ht, hsep, hbel⟩ := hrel
        go_wp2_with fail
        go_ret3
        exact ⟨_, _, rfl, hs, ht, hsep, hbel⟩

set_option maxRecDepth 100000 in
set_option maxHeartbeats 4000000 in
theorem refPlan_3 (v : Value) (ks : List (Bool × Bool)) (f : Nat) (w : World) (hv : Kids w v ks) (hlen : ks.length ≤ 8) (hf : f < ks.length) (hk : ks[f].2 = true) :
    Calls Try.prog 105 #[.int .i64 3, v, .int .i64 f] w (PlanPost w (nums ((List.range ks.length).filter (fun i => inn 3 f i && selStop ks f i)).reverse, nums ((List.range ks.length).filter (fun i => inn 3 f i && selStart ks i)), 0)) := by
  rcases hv.open with ⟨ao, cap, rfl, rfl, _⟩ | ⟨b, off, cap, rfl, h0, hcap, hm, hc1, hc2⟩
  · simp at hf
  · have hd1 : decide (8 < (ks.length : Int)) = false := decide_eq_false (by omega)
    have hd2 : decide ((f : Int) < 0) = false := decide_eq_false (by omega)
    have hd3 : decide (ks.length ≤ f) = false := decide_eq_false (by omega)
    have hcf := hc2 f hf
    rw [hk] at hcf
    have HC1 := hid hc1
    have HC2 := hid hc2
    have HKF := hid hk
    clear hc1 hc2 hk
    go_enter Try.func105, Try.ntmps105
    go_wp2_with fail
    go_loopw [9, 10, 35] (fun v u i wr => ∃ j : Nat, j ≤ ks.length ∧ i = .int .i64 j ∧ RefRel w (inn 3 f) (selStop ks f) (selStart ks) j v u wr) (fun _ _ i _ => ks.length - (intOf i).toNat)
    case atStart => exact ⟨0, by omega, rfl, OwnI.nil _ _ _ _, OwnI.nil _ _ _ _, Sep.nil_left _, Below.refl _ _⟩
    case round =>
      obtain ⟨j, hj, rfl, hrel⟩ := hrel
      by_cases hlt : j < ks.length
      · have e1 := HC1.out j hlt
        have e2 := HC2.out j hlt
        obtain ⟨hs, ht, hsep, hbel⟩ := id hrel
        obtain ⟨⟨r, k⟩, hrk⟩ : ∃ x, x = ks[j] := ⟨_, rfl⟩
        have hff : j = f → k = true := by
          intro e
          have := HKF.out
          have e' : ks[j] = ks[f] := by congr 1
          rw [← e', ← hrk] at this
          exact this
        rw [← hrk] at e1 e2
        have hse := sel_of (f := f) hlt (hid hrk)
        clear hrk
        have e1' : wr.cell? ⟨b, off + j * 2, none⟩ = some (.bool r) := by rw [← e1]; exact hbel.cell (p := ⟨b, _, none⟩) (World.block_lt_of_cell? w ⟨b, _, none⟩ e1)
        have e2' : wr.cell? ⟨b, off + j * 2 + 1, none⟩ = some (.bool k) := by rw [← e2]; exact hbel.cell (p := ⟨b, _, none⟩) (World.block_lt_of_cell? w ⟨b, _, none⟩ e2)
        have e3' : wr.cell? ⟨b, off + f * 2 + 1, none⟩ = some (.bool true) := by rw [← hcf]; exact hbel.cell (p := ⟨b, _, none⟩) (World.block_lt_of_cell? w ⟨b, _, none⟩ hcf)
        have hbw : b < wr.heap.size := World.block_lt_of_cell? wr ⟨b, _, none⟩ e3'
        clear e1 e2
        have hsz := hbel.size
        have hl1 : (nums ((List.range j).filter (fun i => inn 3 f i && selStop ks f i)).reverse).length ≤ j := ref_len'
        have hl2 : (nums ((List.range j).filter (fun i => inn 3 f i && selStart ks i))).length ≤ j := ref_len
        by_cases hif : j = f
        · have hneq : ((j : Int) == (f : Int)) = true := by simp; omega
          have hneq2 : ((j : Int) != (f : Int)) = false := by simp; omega
          have hin : inn 3 f j = true := by simp [inn, hif]
          obtain rfl := hff hif
          have h1 : (inn 3 f j && selStop ks f j) = false := by rw [hse.1]; simp [hif]
          have h2 : (inn 3 f j && selStart ks j) = true := by rw [hin, hse.2]; rfl
          have HR := hid (And.intro h1 h2)
          have hif2 : j ≤ f := by omega
          clear hff hse h1 h2 hin hif
          cases r
          all_goals
            go_wp2_with (at_builtin; refine app_int elem_int (base := w.heap.size) rfl (.tmp 79) (.tmp 81) rfl rfl rfl (by simp) (World.ownsRow.alloc ht _) (by omega) (by omega) (by simp; omega) ?_; intro v2 w2 ho2 hb2 hg2)
            obtain ⟨h1, h2⟩ := HR.out
            go_roundw
            case rel => exact ⟨j + 1, by omega, by go_num, rr_start hrel h1 h2 ho2 hb2 hg2⟩
            case measure => simp [intOf]; omega
        · by_cases hlf : f < j
          · have hin : inn 3 f j = true := by simp [inn, hlf]
            have hneq : ((j : Int) == (f : Int)) = false := by simp; omega
            have hneq2 : ((j : Int) != (f : Int)) = true := by simp; omega
            have hbn : (j != f) = true := by simp only [bne_iff_ne]; exact hif
            have h1' : (inn 3 f j && selStop ks f j) = r := by rw [hin, hse.1, hbn, Bool.true_and, Bool.true_and]
            have h2' : (inn 3 f j && selStart ks j) = k := by rw [hin, hse.2, Bool.true_and]
            have HR := hid (And.intro h1' h2')
            clear hff hse h1' h2' hbn hin
            cases r
            · cases k
              · go_wp2_with fail
                obtain ⟨h1, h2⟩ := HR.out
                go_roundw
                case rel => exact ⟨j + 1, by omega, by go_num, rr_none hrel h1 h2 _⟩
                case measure => simp [intOf]; omega
              · go_wp2_with (at_builtin; refine app_int elem_int (base := w.heap.size) rfl (.tmp 79) (.tmp 81) rfl rfl rfl (by simp) (World.ownsRow.alloc ht _) (by omega) (by omega) (by simp; omega) ?_; intro v2 w2 ho2 hb2 hg2)
                obtain ⟨h1, h2⟩ := HR.out
                go_roundw
                case rel => exact ⟨j + 1, by omega, by go_num, rr_start hrel h1 h2 ho2 hb2 hg2⟩
                case measure => simp [intOf]; omega
            · cases k
              · go_wp2_with (at_builtin; refine app_cons elem_int (base := w.heap.size) rfl (.tmp 74) (.tmp 75) rfl rfl rfl (by simp) (World.ownsRow.alloc hs _) (by omega) (by omega) (by simp; omega) ?_; intro v1 w1 ho1 hb1 hn1; have hsz1 := hb1.size; simp at hsz1; have hk1 : w1.cell? ⟨wr.heap.size, 1, none⟩ = some (.bool _) := (hb1.cell (p := ⟨wr.heap.size, 1, none⟩) (by simp)).trans (World.cell?_alloc_new _ _ _ _))
                obtain ⟨h1, h2⟩ := HR.out
                go_roundw
                case rel => exact ⟨j + 1, by omega, by go_num, rr_stop hrel h1 h2 ho1 hb1 hn1⟩
                case measure => simp [intOf]; omega
              · go_wp2_with (first | (at_builtin; refine app_cons elem_int (base := w.heap.size) rfl (.tmp 74) (.tmp 75) rfl rfl rfl (by simp) (World.ownsRow.alloc hs _) (by omega) (by omega) (by simp; omega) ?_; intro v1 w1 ho1 hb1 hn1; have hsz1 := hb1.size; simp at hsz1; have hk1 : w1.cell? ⟨wr.heap.size, 1, none⟩ = some (.bool _) := (hb1.cell (p := ⟨wr.heap.size, 1, none⟩) (by simp)).trans (World.cell?_alloc_new _ _ _ _)) | (at_builtin; refine app_int elem_int (base := w.heap.size) rfl (.tmp 79) (.tmp 81) rfl rfl rfl (by simp) (own_below (World.ownsRow.alloc ht _) hb1) (by omega) (by omega) (by omega) ?_; intro v2 w2 ho2 hb2 hg2))
                obtain ⟨h1, h2⟩ := HR.out
                go_roundw
                case rel => exact ⟨j + 1, by omega, by go_num, rr_both hrel h1 h2 ho1 hb1 hn1 ho2 hb2 hg2⟩
                case measure => simp [intOf]; omega
          · have hin : inn 3 f j = false := by simp [inn, hif]; omega
            have hneq : ((j : Int) == (f : Int)) = false := by simp; omega
            have hneq2 : ((j : Int) != (f : Int)) = true := by simp; omega
            have h1' : (inn 3 f j && selStop ks f j) = false := by rw [hin, Bool.false_and]
            have h2' : (inn 3 f j && selStart ks j) = false := by rw [hin, Bool.false_and]
            have HR := hid (And.intro h1' h2')
            clear hff hse h1' h2' hin
            cases r <;> cases k
            all_goals
              go_wp2_with fail
              obtain ⟨h1, h2⟩ := HR.out
              go_roundw
              case rel => exact ⟨j + 1, by omega, by go_num, rr_none hrel h1 h2 _⟩
              case measure => simp [intOf]; omega
      · obtain rfl : j = ks.length := by omega
        obtain ⟨hs, ht, hsep, hbel⟩ := hrel
        go_wp2_with fail
        go_ret3
        exact ⟨_, _, rfl, hs, ht, hsep, hbel⟩
end Go.Proofs.Ytpapblahnbeccaa
