/-
  PACKAGE super AND ITS REFERENCE: Past and Plan. Contracts: each returns what the plain functions here say. Conditions: the lists' lengths are in the form's reach.
-/
import Derived.Test.YtpapblahnbeccaaBase
namespace Go.Proofs.Ytpapblahnbeccaa
open Go.RowKit

theorem elem_int : Elem Try.prog 51 3 (.int .i64 0) 1 8 := ⟨Try.underlying51, by kernel_rfl, rfl, by decide⟩

def maxT : Int := 1099511627776
def isT (n : Int) : Prop := 0 ≤ n ∧ n ≤ maxT
instance (n : Int) : Decidable (isT n) := by unfold isT; infer_instance

/-- what both Past's answer -/
def pastF (past : List Int) (now most window : Int) : List Int × Bool × Int :=
  if 64 < past.length then ([], false, 2)
  else if most < 0 ∨ 64 < most ∨ ¬ isT now ∨ ¬ isT window ∨ ∃ n ∈ past, ¬ isT n then ([], false, 1)
  else (past.filter (fun n => now - window ≤ n) ++ [now], decide (most < ((past.filter (fun n => now - window ≤ n) ++ [now]).length : Int)), 0)

set_option maxRecDepth 100000 in
theorem isTime_yes (n : Int) (w : World) (h : 0 ≤ n ∧ n ≤ 1099511627776) : Calls Try.prog 100 #[.int .i64 n] w fun e w' => e = .returned (.bool true) ∧ w = w' := by
  obtain ⟨h1, h2⟩ := h
  go_enter Try.func100, Try.ntmps100
  go_wp2
  go_ret
  exact ⟨rfl, rfl⟩
set_option maxRecDepth 100000 in
theorem isTime_no (n : Int) (w : World) (h : n < 0 ∨ 1099511627776 < n) : Calls Try.prog 100 #[.int .i64 n] w fun e w' => e = .returned (.bool false) ∧ w = w' := by
  rcases h with h | h
  · go_enter Try.func100, Try.ntmps100
    go_wp2
    go_ret
    exact ⟨rfl, rfl⟩
  · have h0 : 0 ≤ n := by omega
    have h1 : ¬ n ≤ 1099511627776 := by omega
    go_enter Try.func100, Try.ntmps100
    go_wp2
    go_ret
    exact ⟨rfl, rfl⟩

set_option maxRecDepth 100000 in
theorem copy_int (v : Value) (xs : List Int) (w : World) (hv : Ints w .i64 v xs) (hl : xs.length * 8 ≤ 140737488355328) :
    Calls Try.prog 164 #[v] w fun e w' => ∃ v', e = .returned v' ∧ OwnI w' w.heap.size .i64 3 v' xs ∧ Below w.heap.size w w' := by
  have HV := hid hv
  clear hv
  go_enter Try.func164, Try.ntmps164
  go_wp2_with (at_builtin; refine app_ints elem_int (base := w.heap.size) rfl (.const (.slice none 0 0)) (.tmp 3) rfl rfl rfl (OwnI.nil _ _ _ _) HV.out (by simp; omega) (by simp; omega) (Nat.le_refl _) ?_; intro v' w' ho hbel _)
  go_ret
  exact ⟨_, rfl, ho, hbel⟩

theorem all_snoc {p : Int → Prop} {l : List Int} {x : Int} (h : ∀ n ∈ l, p n) (hx : p x) : Hid (∀ n ∈ l ++ [x], p n) := by
  intro n hn
  rcases List.mem_append.1 hn with hn | hn
  · exact h n hn
  · simp at hn; subst hn; exact hx
theorem filter_no {p : Int → Bool} {x : Int} (h : p x = false) : [x].filter p = [] := by simp [h]

def PastPost (W : World) (r : List Int × Bool × Int) (e : Ending) (w' : World) : Prop :=
  ∃ v', e = .returned (.tuple #[v', .bool r.2.1, .int .i64 r.2.2]) ∧ OwnI w' W.heap.size .i64 3 v' r.1 ∧ Below W.heap.size W w'

theorem PastPost.err (W : World) (n : Int) : PastPost W ([], false, n) (.returned (.tuple #[.slice none 0 0, .bool false, .int .i64 n])) W := ⟨_, rfl, OwnI.nil _ _ _ _, Below.refl _ _⟩

set_option maxRecDepth 100000 in
set_option maxHeartbeats 1000000 in
theorem past_any (v : Value) (xs : List Int) (now most window : Int) (w : World) (hv : Ints w .i64 v xs) :
    Calls Try.prog 101 #[v, .int .i64 now, .int .i64 most, .int .i64 window] w (PastPost w (pastF xs now most window)) := by
  obtain ⟨ao, cap, hvv, _⟩ := id hv
  by_cases hlen : 64 < xs.length
  · have e : pastF xs now most window = ([], false, 2) := by unfold pastF; rw [if_pos hlen]
    rw [e]
    subst hvv
    clear hv e
    have h1 : (64 : Int) < (xs.length : Int) := by omega
    go_enter Try.func101, Try.ntmps101
    go_wp2_with fail
    go_ret3
    exact PastPost.err _ _
  · have h64 : (xs.length : Int) ≤ 64 := by omega
    by_cases hbad : most < 0 ∨ 64 < most ∨ ¬ isT now ∨ ¬ isT window
    · have e : pastF xs now most window = ([], false, 1) := by
        unfold pastF
        rw [if_neg hlen, if_pos (by rcases hbad with h | h | h | h <;> simp [h])]
      rw [e]
      have hcases : most < 0 ∨ (0 ≤ most ∧ 64 < most) ∨ (0 ≤ most ∧ most ≤ 64 ∧ (now < 0 ∨ 1099511627776 < now)) ∨ (0 ≤ most ∧ most ≤ 64 ∧ (0 ≤ now ∧ now ≤ 1099511627776) ∧ (window < 0 ∨ 1099511627776 < window)) := by
        simp only [isT, maxT] at hbad; omega
      subst hvv
      clear hv hbad e hlen
      rcases hcases with h1 | ⟨h1, h2⟩ | ⟨h1, h2, h3⟩ | ⟨h1, h2, h3, h4⟩
      all_goals
        go_enter Try.func101, Try.ntmps101
        go_wp2_with (first | (go_at_call 100; refine (isTime_yes _ _ (by omega)).mono ?_; rintro e w' ⟨rfl, rfl⟩) | (go_at_call 100; refine (isTime_no _ _ (by omega)).mono ?_; rintro e w' ⟨rfl, rfl⟩))
        go_ret3
        exact PastPost.err _ _
    · have hb : 0 ≤ most ∧ most ≤ 64 ∧ (0 ≤ now ∧ now ≤ 1099511627776) ∧ (0 ≤ window ∧ window ≤ 1099511627776) := by
        simp only [isT, maxT] at hbad; omega
      obtain ⟨hm1, hm2, hn, hw⟩ := hb
      obtain ⟨hn1, hn2⟩ := hn
      obtain ⟨hw1, hw2⟩ := hw
      have HF : Hid (pastF xs now most window = if ∃ n ∈ xs, ¬ isT n then ([], false, 1) else (xs.filter (fun n => now - window ≤ n) ++ [now], decide (most < ((xs.filter (fun n => now - window ≤ n) ++ [now]).length : Int)), 0)) := by
        show _ = _
        unfold pastF
        rw [if_neg hlen]
        by_cases hx : ∃ n ∈ xs, ¬ isT n
        · rw [if_pos (.inr (.inr (.inr (.inr hx)))), if_pos hx]
        · rw [if_neg (fun h => by rcases h with h | h | h | h | h <;> first | exact hx h | exact hbad (by simp [h])), if_neg hx]
      generalize pastF xs now most window = r at *
      clear hbad hlen hvv
      rcases hv.open with ⟨ao, cap, rfl, rfl, _⟩ | ⟨b, off, cap, rfl, h0, hcap, hm, hc⟩
      · clear hv
        go_enter Try.func101, Try.ntmps101
        go_wp2_with (go_at_call 100; refine (isTime_yes _ _ (by omega)).mono ?_; rintro e w' ⟨rfl, rfl⟩)
        refine wp_loop_rounds 1 ?_; rw [rounds_succ]
        go_wp2_with (at_builtin; refine app_int elem_int (base := w.heap.size) rfl (.tmp 52) (.tmp 54) rfl rfl rfl (by simp) (OwnI.nil _ _ _ _) (by simp) (by simp) (Nat.le_refl _) ?_; intro v' w' ho hbel _; obtain ⟨g, cp, hv', hg⟩ := O1.head_snoc ho; rw [hv'] at ho ⊢)
        go_ret3
        exact ⟨_, by rw [HF.out]; rfl, by rw [HF.out]; exact ho, hbel⟩
      · clear hv
        go_enter Try.func101, Try.ntmps101
        go_wp2_with (go_at_call 100; refine (isTime_yes _ _ (by omega)).mono ?_; rintro e w' ⟨rfl, rfl⟩)
        go_loopw [11, 35] (fun o i wr => ∃ k : Nat, k ≤ xs.length ∧ i = .int .i64 k ∧ OwnI wr w.heap.size .i64 3 o ((xs.take k).filter (fun n => now - window ≤ n)) ∧ Below w.heap.size w wr ∧ Hid (∀ n ∈ xs.take k, isT n)) (fun _ i _ => xs.length - (intOf i).toNat)
        case atStart => exact ⟨0, Nat.zero_le _, rfl, OwnI.nil _ _ _ _, Below.refl _ _, by simp [Hid]⟩
        case round =>
          obtain ⟨k, hk, rfl, hown, hbel, hall⟩ := hrel
          have hsz := hbel.size
          have hfl : ((xs.take k).filter (fun n => decide (now - window ≤ n))).length ≤ k := Nat.le_trans (List.length_filter_le _ _) (by simp; omega)
          by_cases hlt : k < xs.length
          · have hcx : wr.cell? ⟨b, off + k, none⟩ = some (.int .i64 xs[k]) := by
              rw [← hc k hlt]
              exact hbel.cell (p := ⟨b, off + k, none⟩) (World.block_lt_of_cell? w ⟨b, off + k, none⟩ (hc k hlt))
            have htk : xs.take (k + 1) = xs.take k ++ [xs[k]] := List.take_succ_eq_append_getElem hlt
            have HTK := hid htk
            clear htk
            by_cases htime : 0 ≤ xs[k] ∧ xs[k] ≤ 1099511627776
            · obtain ⟨ht1, ht2⟩ := htime
              by_cases hin : now - window ≤ xs[k]
              · go_wp2_with (first | (go_at_call 100; refine (isTime_yes _ _ (by omega)).mono ?_; rintro e w' ⟨rfl, rfl⟩) | (at_builtin; refine app_int elem_int (base := w.heap.size) rfl (.tmp 47) (.tmp 49) rfl rfl rfl (by simp) hown (by omega) (by omega) hsz ?_; intro v' w' ho hbel2 _))
                go_roundw
                case rel => exact ⟨k + 1, by omega, by go_num, by rw [HTK.out, List.filter_append]; simp only [List.filter_cons, hin, decide_true, if_true, List.filter_nil]; exact ho, hbel.trans hbel2, by rw [HTK.out]; exact all_snoc hall.out ⟨ht1, ht2⟩⟩
                case measure => simp [intOf]; omega
              · go_wp2_with (go_at_call 100; refine (isTime_yes _ _ (by omega)).mono ?_; rintro e w' ⟨rfl, rfl⟩)
                go_roundw
                case rel => exact ⟨k + 1, by omega, by go_num, by rw [HTK.out, List.filter_append, filter_no (by simp; omega), List.append_nil]; exact hown, hbel, by rw [HTK.out]; exact all_snoc hall.out ⟨ht1, ht2⟩⟩
                case measure => simp [intOf]; omega
            · have hq : ∃ n ∈ xs, ¬ isT n := ⟨xs[k], List.getElem_mem hlt, htime⟩
              have HQ := hid hq
              clear hq
              go_wp2_with (go_at_call 100; refine (isTime_no _ _ (by omega)).mono ?_; rintro e w' ⟨rfl, rfl⟩)
              go_ret3
              exact ⟨_, by rw [HF.out, if_pos HQ.out]; rfl, by rw [HF.out, if_pos HQ.out]; exact OwnI.nil _ _ _ _, hbel⟩
          · obtain rfl : k = xs.length := by omega
            rw [List.take_length] at hall hown hfl
            have HQ := hid (fun h : ∃ n ∈ xs, ¬ isT n => by obtain ⟨n, hn, hx⟩ := h; exact hx (hall.out n hn))
            go_wp2_with (at_builtin; refine app_int elem_int (base := w.heap.size) rfl (.tmp 52) (.tmp 54) rfl rfl rfl (by simp) hown (by omega) (by omega) hsz ?_; intro v' w' ho hbel2 _; obtain ⟨g, cp, hv', hg⟩ := O1.head_snoc ho; rw [hv'] at ho ⊢)
            go_ret3
            refine ⟨_, ?_, by rw [HF.out, if_neg HQ.out]; exact ho, hbel.trans hbel2⟩
            rw [HF.out, if_neg HQ.out]
            exact retVBI (by simp) rfl

theorem past_filter {xs : List Int} {now window : Int} (hw : 0 ≤ window) : (xs ++ [now]).filter (fun n => decide (now - n ≤ window)) = xs.filter (fun n => decide (now - window ≤ n)) ++ [now] := by
  rw [List.filter_append]
  congr 1
  · apply List.filter_congr
    intro n _
    simp; omega
  · simp; omega

set_option maxRecDepth 100000 in
set_option maxHeartbeats 2000000 in
theorem refPast_any (v : Value) (xs : List Int) (now most window : Int) (w : World) (hv : Ints w .i64 v xs) :
    Calls Try.prog 104 #[v, .int .i64 now, .int .i64 most, .int .i64 window] w (PastPost w (pastF xs now most window)) := by
  obtain ⟨ao, cap, hvv, _⟩ := id hv
  by_cases hlen : 64 < xs.length
  · have e : pastF xs now most window = ([], false, 2) := by unfold pastF; rw [if_pos hlen]
    rw [e]
    subst hvv
    clear hv e
    have h1 : (64 : Int) < (xs.length : Int) := by omega
    go_enter Try.func104, Try.ntmps104
    go_wp2_with fail
    go_ret3
    exact PastPost.err _ _
  · have h64 : (xs.length : Int) ≤ 64 := by omega
    have HF := hid (show pastF xs now most window = if most < 0 ∨ 64 < most ∨ ¬ isT now ∨ ¬ isT window ∨ ∃ n ∈ xs, ¬ isT n then ([], false, 1)
      else (xs.filter (fun n => now - window ≤ n) ++ [now], decide (most < ((xs.filter (fun n => now - window ≤ n) ++ [now]).length : Int)), 0) by unfold pastF; rw [if_neg hlen])
    generalize pastF xs now most window = r at *
    have HV := hid hv
    rw [hvv] at hv
    have HV2 := hid hv
    rw [hvv]
    clear hlen hvv hv
    have hd64 : decide (64 < (xs.length : Int)) = false := by simp; omega
    go_enter Try.func104, Try.ntmps104
    go_wp2_with fail
    refine (copy_int _ xs _ HV2.out (by omega)).mono ?_
    rintro e w1 ⟨v1, rfl, ho1, hb1⟩
    have hs1 := hb1.size
    go_wp2_with (at_builtin; refine app_int2 elem_int (base := w.heap.size) rfl (.tmp 20) (.tmp 23) rfl rfl rfl (by simp) ho1 (by omega) (by omega) hs1 ?_; intro v2 w2 ho2 hb2; obtain ⟨g2, cp2, hv2, hg2, hlc, hcm, hcell⟩ := O1.head ho2 (by simp); rw [hv2] at ho2 ⊢)
    have hlz : (xs ++ [now, window]).length = xs.length + 2 := by simp
    have HLZ := hid hlz
    have hbel2 := hb1.trans hb2
    clear hlz ho1 ho2 hlc hb1 hb2
    generalize hzs : xs ++ [now, window] = zs at *
    have HZS := hid hzs
    clear hzs hv2
    go_loop [26] (fun i => ∃ k : Nat, k ≤ xs.length + 2 ∧ i = .int .i64 k ∧ Hid (∀ n ∈ zs.take k, isT n)) (fun i => xs.length + 2 - (intOf i).toNat)
    case atStart => exact ⟨0, Nat.zero_le _, rfl, by simp [Hid]⟩
    case round =>
      obtain ⟨k, hk, rfl, hall⟩ := hrel
      by_cases hlt : k < xs.length + 2
      · have hlt' : k < zs.length := by rw [HLZ.out]; exact hlt
        have hcx := hcell k hlt'
        have htk : zs.take (k + 1) = zs.take k ++ [zs[k]] := List.take_succ_eq_append_getElem hlt'
        have HTK := hid htk
        clear htk
        by_cases htime : 0 ≤ zs[k] ∧ zs[k] ≤ 1099511627776
        · obtain ⟨ht1, ht2⟩ := htime
          go_wp2_with fail
          go_round
          case rel => exact ⟨k + 1, by omega, by go_num, by rw [HTK.out]; exact all_snoc hall.out ⟨ht1, ht2⟩⟩
          case measure => simp [intOf]; omega
        · have hq : most < 0 ∨ 64 < most ∨ ¬ isT now ∨ ¬ isT window ∨ ∃ n ∈ xs, ¬ isT n := by
            have hm : zs[k] ∈ xs ++ [now, window] := by rw [HZS.out]; exact List.getElem_mem hlt'
            rcases List.mem_append.1 hm with h | h
            · exact .inr (.inr (.inr (.inr ⟨_, h, htime⟩)))
            · simp at h
              rcases h with h | h
              · exact .inr (.inr (.inl (by rw [← h]; exact htime)))
              · exact .inr (.inr (.inr (.inl (by rw [← h]; exact htime))))
          have HQ := hid hq
          have hcase : zs[k] < 0 ∨ (0 ≤ zs[k] ∧ 1099511627776 < zs[k]) := by omega
          clear hq htime
          rcases hcase with h1 | ⟨h1, h2⟩
          all_goals
            go_wp2_with fail
            go_ret3
            exact ⟨_, by rw [HF.out, if_pos HQ.out]; rfl, by rw [HF.out, if_pos HQ.out]; exact OwnI.nil _ _ _ _, hbel2⟩
      · obtain rfl : k = xs.length + 2 := by omega
        have hall2 : ∀ n ∈ xs ++ [now, window], isT n := by
          rw [HZS.out]
          have := hall.out
          rwa [List.take_of_length_le (by rw [HLZ.out]; exact Nat.le_refl _)] at this
        have hnow := hall2 now (by simp)
        have hwin := hall2 window (by simp)
        have HX := hid (fun h : ∃ n ∈ xs, ¬ isT n => by obtain ⟨n, hn, hx⟩ := h; exact hx (hall2 n (by simp [hn])))
        have HX2 := hid (fun n (hn : n ∈ xs) => hall2 n (by simp [hn]))
        clear hall hall2
        obtain ⟨hn1, hn2⟩ := hnow
        obtain ⟨hw1, hw2⟩ := hwin
        simp only [maxT] at hn2 hw2
        by_cases hm : most < 0 ∨ 64 < most
        · have hcase : most < 0 ∨ (0 ≤ most ∧ 64 < most) := by omega
          have HQ := hid (show most < 0 ∨ 64 < most ∨ ¬ isT now ∨ ¬ isT window ∨ ∃ n ∈ xs, ¬ isT n by rcases hm with h | h <;> simp [h])
          clear hm
          rcases hcase with h1 | ⟨h1, h2⟩
          all_goals
            go_wp2_with fail
            go_ret3
            exact ⟨_, by rw [HF.out, if_pos HQ.out]; rfl, by rw [HF.out, if_pos HQ.out]; exact OwnI.nil _ _ _ _, hbel2⟩
        · have hm1 : 0 ≤ most := by omega
          have hm2 : most ≤ 64 := by omega
          have HQ := hid (show ¬ (most < 0 ∨ 64 < most ∨ ¬ isT now ∨ ¬ isT window ∨ ∃ n ∈ xs, ¬ isT n) from fun h => by
            rcases h with h | h | h | h | h
            · omega
            · omega
            · exact h ⟨hn1, hn2⟩
            · exact h ⟨hw1, hw2⟩
            · exact HX.out h)
          have hs2 := hbel2.size
          clear hm
          go_wp2_with fail
          refine (copy_int _ xs _ (L1.below HV2.out (hbel2.mono (Nat.le_refl _))) (by omega)).mono ?_
          rintro e w3 ⟨v3, rfl, ho3, hb3⟩
          have hs3 := hb3.size
          go_wp2_with (at_builtin; refine app_int elem_int (base := w.heap.size) rfl (.tmp 44) (.tmp 46) rfl rfl rfl (by simp) (own_mono ho3 hs2) (by omega) (by omega) (by omega) ?_; intro v4 w4 ho4 hb4 _; obtain ⟨g4, cp4, hv4, hg4, hlc4, hcm4, hcell4⟩ := O1.head ho4 (by simp); rw [hv4] at ho4 ⊢)
          have hbel4 : Below w.heap.size w w4 := (hbel2.trans (hb3.mono hs2)).trans hb4
          clear hb3 hb4 ho3 ho4 hv4 hcell
          have hg : ∀ j (h : j < (xs ++ [now]).length), isT (xs ++ [now])[j] := by
            intro j h
            have hm := List.getElem_mem h
            rcases List.mem_append.1 hm with h' | h'
            · exact HX2.out _ h'
            · simp at h'; rw [h']; exact ⟨hn1, hn2⟩
          have HG := hid hg
          have hly : (xs ++ [now]).length = xs.length + 1 := by simp
          have HLY := hid hly
          clear hg hly hlc4
          generalize hys : xs ++ [now] = ys at *
          have HYS := hid hys
          clear hys
          go_loopw [13, 49] (fun o i wr => ∃ k : Nat, k ≤ xs.length + 1 ∧ i = .int .i64 k ∧ OwnI wr w4.heap.size .i64 3 o ((ys.take k).filter (fun n => now - n ≤ window)) ∧ Below w4.heap.size w4 wr) (fun _ i _ => xs.length + 1 - (intOf i).toNat)
          case atStart => exact ⟨0, Nat.zero_le _, rfl, OwnI.nil _ _ _ _, Below.refl _ _⟩
          case round =>
            obtain ⟨k, hk, rfl, hown, hbel⟩ := hrel
            have hsz := hbel.size
            have hfl : ((ys.take k).filter (fun n => decide (now - n ≤ window))).length ≤ k := Nat.le_trans (List.length_filter_le _ _) (by simp; omega)
            by_cases hlt : k < xs.length + 1
            · have hlt' : k < ys.length := by rw [HLY.out]; exact hlt
              have hcx : wr.cell? ⟨g4, k, none⟩ = some (.int .i64 ys[k]) := by
                rw [← hcell4 k hlt']
                exact hbel.cell (p := ⟨g4, k, none⟩) (World.block_lt_of_cell? w4 ⟨g4, k, none⟩ (hcell4 k hlt'))
              obtain ⟨ht1, ht2⟩ := HG.out k hlt'
              simp only [maxT] at ht2
              have htk : ys.take (k + 1) = ys.take k ++ [ys[k]] := List.take_succ_eq_append_getElem hlt'
              have HTK := hid htk
              clear htk
              by_cases hin : now - ys[k] ≤ window
              · go_wp2_with (at_builtin; refine app_int elem_int (base := w4.heap.size) rfl (.tmp 58) (.tmp 60) rfl rfl rfl (by simp) hown (by omega) (by omega) hsz ?_; intro v' w' ho hbel2 _)
                go_roundw
                case rel => exact ⟨k + 1, by omega, by go_num, by rw [HTK.out, List.filter_append]; simp only [List.filter_cons, hin, decide_true, if_true, List.filter_nil]; exact ho, hbel.trans hbel2⟩
                case measure => simp [intOf]; omega
              · go_wp2_with fail
                go_roundw
                case rel => exact ⟨k + 1, by omega, by go_num, by rw [HTK.out, List.filter_append, filter_no (by simp; omega), List.append_nil]; exact hown, hbel⟩
                case measure => simp [intOf]; omega
            · obtain rfl : k = xs.length + 1 := by omega
              rw [List.take_of_length_le (by rw [HLY.out]; exact Nat.le_refl _), ← HYS.out, past_filter hw1] at hown
              obtain ⟨g5, cp5, hv5, _⟩ := O1.head_snoc hown
              rw [hv5] at hown ⊢
              go_wp2_with fail
              go_ret3
              refine ⟨_, ?_, by rw [HF.out, if_neg HQ.out]; exact own_mono hown hbel4.size, hbel4.trans (hbel.mono hbel4.size)⟩
              rw [HF.out, if_neg HQ.out]
              exact retVBI (by simp) rfl
end Go.Proofs.Ytpapblahnbeccaa
