/-
  PACKAGE turns AND ITS REFERENCE: Share. Conditions: the list's length is in the form's reach.
-/
import Derived.Test.YtbjhedfgnocflaaSupP
import Derived.WalkLawsBesides
namespace Go.Proofs.Ytbjhedfgnocflaa
open Go.RowKit

def badN (n : Int) : Prop := n < 0 ∨ 2000 < n
instance (n : Int) : Decidable (badN n) := by unfold badN; infer_instance

set_option maxRecDepth 100000 in
theorem bad_yes (n : Int) (w : World) (h : n < 0 ∨ (0 ≤ n ∧ 2000 < n)) : Calls Try.prog 81 #[.int .i64 n] w fun e w' => e = .returned (.bool true) ∧ w = w' := by
  rcases h with h | ⟨h1, h2⟩
  all_goals
    go_enter Try.func81, Try.ntmps81
    go_wp2
    go_ret
    exact ⟨rfl, rfl⟩
set_option maxRecDepth 100000 in
theorem bad_no (n : Int) (w : World) (h : 0 ≤ n ∧ n ≤ 2000) : Calls Try.prog 81 #[.int .i64 n] w fun e w' => e = .returned (.bool false) ∧ w = w' := by
  obtain ⟨h1, h2⟩ := h
  go_enter Try.func81, Try.ntmps81
  go_wp2
  go_ret
  exact ⟨retB (by simp <;> omega), rfl⟩

set_option maxRecDepth 100000 in
set_option maxHeartbeats 1000000 in
theorem index_any (v : Value) (xs : List Int) (w : World) (hv : Ints w .i64 v xs) :
    Calls Try.prog 107 #[v, .func (.func 81) #[] #[]] w fun e w' => (∃ n : Int, e = .returned (.int .i64 n) ∧ Hid (0 ≤ n ↔ ∃ x ∈ xs, badN x)) ∧ w = w' := by
  rcases hv.open with ⟨ao, cap, rfl, rfl, _⟩ | ⟨b, off, cap, rfl, h0, hcap, hm, hc⟩
  · clear hv
    go_enter Try.func107, Try.ntmps107
    go_wp2_with fail
    refine wp_loop_rounds 1 ?_; rw [rounds_succ]; go_wp2_with fail
    go_ret
    exact ⟨⟨-1, rfl, by simp [Hid]⟩, rfl⟩
  · clear hv
    go_enter Try.func107, Try.ntmps107
    go_wp2_with fail
    go_loop [8] (fun i => ∃ k : Nat, k ≤ xs.length ∧ i = .int .i64 k ∧ Hid (∀ n ∈ xs.take k, ¬ badN n)) (fun i => xs.length - (intOf i).toNat)
    case atStart => exact ⟨0, Nat.zero_le _, rfl, by simp [Hid]⟩
    case round =>
      obtain ⟨k, hk, rfl, hall⟩ := hrel
      by_cases hlt : k < xs.length
      · have htk : xs.take (k + 1) = xs.take k ++ [xs[k]] := List.take_succ_eq_append_getElem hlt
        have HTK := hid htk
        clear htk
        by_cases hb : badN xs[k]
        · have hq : ∃ x ∈ xs, badN x := ⟨xs[k], List.getElem_mem hlt, hb⟩
          have HQ := hid hq
          clear hq
          have hb' : xs[k] < 0 ∨ (0 ≤ xs[k] ∧ 2000 < xs[k]) := by unfold badN at hb; omega
          clear hb
          go_wp2_with (go_at_call 81; refine (bad_yes _ _ (by omega)).mono ?_; rintro e w' ⟨rfl, rfl⟩)
          go_ret
          exact ⟨⟨_, rfl, ⟨fun _ => HQ.out, fun _ => by omega⟩⟩, rfl⟩
        · have HB := hid hb
          have hb' : 0 ≤ xs[k] ∧ xs[k] ≤ 2000 := by unfold badN at hb; omega
          clear hb
          go_wp2_with (go_at_call 81; refine (bad_no _ _ (by omega)).mono ?_; rintro e w' ⟨rfl, rfl⟩)
          go_round
          case rel => exact ⟨k + 1, by omega, by go_num, by rw [HTK.out]; exact all_snoc hall.out HB.out⟩
          case measure => simp [intOf]; omega
      · obtain rfl : k = xs.length := by omega
        rw [List.take_length] at hall
        go_wp2_with fail
        go_ret
        exact ⟨⟨-1, rfl, ⟨fun h => by omega, fun ⟨x, hx, hb⟩ => absurd hb (hall.out x hx)⟩⟩, rfl⟩

set_option maxRecDepth 100000 in
set_option maxHeartbeats 1000000 in
theorem contains_any (v : Value) (xs : List Int) (w : World) (hv : Ints w .i64 v xs) (r : Bool) (hr : r = true ↔ ∃ x ∈ xs, badN x) :
    Calls Try.prog 82 #[v, .func (.func 81) #[] #[]] w fun e w' => e = .returned (.bool r) ∧ w = w' := by
  have HV := hid hv
  have HR := hid hr
  clear hv hr
  go_enter Try.func82, Try.ntmps82
  go_wp2_with fail
  refine (index_any _ _ _ HV.out).mono ?_
  rintro e w' ⟨⟨n, rfl, hn⟩, rfl⟩
  go_wp2_with fail
  go_ret
  refine ⟨retB ?_, rfl⟩
  have h1 := hn.out
  have h2 := HR.out
  cases r
  · simp only [decide_eq_false_iff_not]
    intro h
    exact absurd (h2.2 (h1.1 h)) (by simp)
  · simp only [decide_eq_true_eq]
    exact h1.2 (h2.1 rfl)


/-- what one need gets: slice, what is left of it above p, the budget: the least -/
def giv (p slice x bud : Int) : Int :=
  if bud < (if (if p < x then x - p else 0) < slice then (if p < x then x - p else 0) else slice) then bud else (if (if p < x then x - p else 0) < slice then (if p < x then x - p else 0) else slice)
theorem giv_bd {p slice x bud : Int} (hs : 1 ≤ slice) (hb : 0 ≤ bud) : 0 ≤ giv p slice x bud ∧ giv p slice x bud ≤ bud ∧ giv p slice x bud ≤ slice := by
  unfold giv
  refine ⟨?_, ?_, ?_⟩ <;> split <;> split <;> (try split) <;> omega
theorem giv_zero {p slice x : Int} (hs : 1 ≤ slice) : giv p slice x 0 = 0 := by
  have := @giv_bd p slice x 0 hs (by omega)
  omega

abbrev ShSt := List Int × List Int × Int
/-- one need in a round -/
def stepS (p slice : Int) (st : ShSt) (j : Nat) (x : Int) : ShSt :=
  if 0 < giv p slice x st.2.2 then (st.1.set j (st.1.getD j 0 + giv p slice x st.2.2), st.2.1 ++ [(j : Int)], st.2.2 - giv p slice x st.2.2) else st
def runS (p slice : Int) : List Int → Nat → ShSt → ShSt
  | [], _, st => st
  | x :: r, j, st => runS p slice r (j + 1) (stepS p slice st j x)
/-- the reference's rounds -/
def goS (slice most : Int) (xs : List Int) : Nat → Nat → ShSt → ShSt
  | 0, _, st => st
  | f + 1, k, st => if (k : Int) * slice < most then goS slice most xs f (k + 1) (runS ((k : Int) * slice) slice xs 0 st) else st
def mostL : List Int → Int → Int
  | [], m => m
  | x :: r, m => mostL r (if m < x then x else m)
def shareF (xs : List Int) (slice budget : Int) : List Int × List Int × Int :=
  if 16 < xs.length then ([], [], 2)
  else if slice < 1 ∨ 2000 < slice ∨ budget < 0 ∨ 2000 < budget ∨ ∃ n ∈ xs, badN n then ([], [], 1)
  else ((goS slice (mostL xs 0) xs 2001 0 (List.replicate xs.length 0, [], budget)).1, (goS slice (mostL xs 0) xs 2001 0 (List.replicate xs.length 0, [], budget)).2.1, 0)

theorem goS_stop {slice most : Int} {xs : List Int} {k : Nat} {st r : ShSt} (h : Hid (goS slice most xs (2001 - k) k st = r)) (hk : k ≤ 2000) (hm : ¬ (k : Int) * slice < most) : st = r := by
  rw [← h.out]
  obtain ⟨q, hq⟩ : ∃ q, 2001 - k = q + 1 := ⟨2000 - k, by omega⟩
  rw [hq, goS, if_neg hm]
theorem goS_go {slice most : Int} {xs : List Int} {k : Nat} {st r : ShSt} (h : Hid (goS slice most xs (2001 - k) k st = r)) (hk : k ≤ 2000) (hm : (k : Int) * slice < most) : Hid (goS slice most xs (2001 - (k + 1)) (k + 1) (runS ((k : Int) * slice) slice (xs.drop 0) 0 st) = r) := by
  show _ = _
  rw [← h.out]
  obtain ⟨q, hq⟩ : ∃ q, 2001 - k = q + 1 := ⟨2000 - k, by omega⟩
  rw [hq, goS, if_pos hm, show 2001 - (k + 1) = q by omega, List.drop_zero]

def SharePost (W : World) (r : List Int × List Int × Int) (e : Ending) (w' : World) : Prop :=
  ∃ v u, e = .returned (.tuple #[v, u, .int .i64 r.2.2]) ∧ OwnI w' W.heap.size .i64 3 v r.1 ∧ OwnI w' W.heap.size .i64 3 u r.2.1 ∧ Below W.heap.size W w'
theorem SharePost.err (W : World) (n : Int) : SharePost W ([], [], n) (.returned (.tuple #[.slice none 0 0, .slice none 0 0, .int .i64 n])) W := ⟨_, _, rfl, OwnI.nil _ _ _ _, OwnI.nil _ _ _ _, Below.refl _ _⟩

/-- what both loops keep: the two lists, the budget, the world -/
structure ShRel (W : World) (n : Nat) (got order : List Int) (bud : Int) (o : Value) (wr : World) : Prop where
  b0 : 0 ≤ bud
  b1 : bud ≤ 2000
  gl : got.length = n
  hg : OwnI wr W.heap.size .i64 3 (.slice (some ⟨W.heap.size, 0, none⟩) n n) got
  ho : OwnI wr W.heap.size .i64 3 o order
  sep : Sep (.slice (some ⟨W.heap.size, 0, none⟩) n n) o
  bel : Below W.heap.size W wr
  ol : order.length + bud ≤ 2000
  gb : ∀ g ∈ got, 0 ≤ g ∧ g + bud ≤ 2000

theorem ShRel.step {W : World} {n : Nat} {got order : List Int} {bud : Int} {o o' : Value} {wr w' : World} (h : ShRel W n got order bud o wr) (j : Nat) (hj : j < got.length) (gv y z : Int) (h0 : 0 < gv) (h1 : gv ≤ bud) (hy : y = got[j] + gv) (hz : z = (j : Int))
    (ho : OwnI w' W.heap.size .i64 3 o' (order ++ [z])) (hb : Below W.heap.size (wr.setCell ⟨W.heap.size, j, none⟩ (.int .i64 y)) w') (hgr : Grew (wr.setCell ⟨W.heap.size, j, none⟩ (.int .i64 y)) o w' o') :
    ShRel W n (got.set j (got[j] + gv)) (order ++ [(j : Int)]) (bud - gv) o' w' := by
  subst hy; subst hz
  obtain ⟨s1, s2⟩ := h.hg.stored h.gl.symm j (got[j] + gv)
  obtain ⟨e1, e2⟩ := hgr.other s1 h.sep
  refine ⟨by omega, by have := h.b1; omega, by simp [h.gl], e1, ho, e2, (h.bel.setCell (Nat.le_refl _) _).trans hb, by have := h.ol; simp; omega, ?_⟩
  intro g hg
  rcases List.mem_or_eq_of_mem_set hg with hg | rfl
  · have := h.gb g hg; omega
  · have := h.gb _ (List.getElem_mem hj); omega

theorem runS_cons {p slice : Int} {xs : List Int} {j : Nat} (h : j < xs.length) (st : ShSt) : runS p slice (xs.drop j) j st = runS p slice (xs.drop (j + 1)) (j + 1) (stepS p slice st j xs[j]) := by
  rw [drop_cons xs j h, runS]
theorem stepS_yes {p slice x : Int} {got order : List Int} {bud : Int} {j : Nat} (hj : j < got.length) (h : 0 < giv p slice x bud) : stepS p slice (got, order, bud) j x = (got.set j (got[j] + giv p slice x bud), order ++ [(j : Int)], bud - giv p slice x bud) := by
  unfold stepS
  rw [if_pos h]
  have : got.getD j 0 = got[j] := by rw [List.getD_eq_getElem?_getD, List.getElem?_eq_getElem hj]; rfl
  rw [this]
theorem stepS_no {p slice x : Int} {st : ShSt} {j : Nat} (h : ¬ 0 < giv p slice x st.2.2) : stepS p slice st j x = st := by
  unfold stepS; rw [if_neg h]

theorem mostL_snoc (l : List Int) (x m : Int) : mostL (l ++ [x]) m = if mostL l m < x then x else mostL l m := by
  induction l generalizing m with
  | nil => rfl
  | cons y r ih => rw [List.cons_append, mostL, ih, mostL]

set_option maxRecDepth 100000 in
set_option maxHeartbeats 4000000 in
theorem refShare_go (v : Value) (xs : List Int) (slice budget : Int) (w : World) (hv : Ints w .i64 v xs) (hlen : xs.length ≤ 16) (hs1 : 1 ≤ slice) (hs2 : slice ≤ 2000) (hb1 : 0 ≤ budget) (hb2 : budget ≤ 2000) (hgood : ∀ n ∈ xs, 0 ≤ n ∧ n ≤ 2000) (hne : 0 < xs.length) :
    Calls Try.prog 35 #[v, .int .i64 slice, .int .i64 budget] w (SharePost w ((goS slice (mostL xs 0) xs 2001 0 (List.replicate xs.length 0, [], budget)).1, (goS slice (mostL xs 0) xs 2001 0 (List.replicate xs.length 0, [], budget)).2.1, 0)) := by
  rcases hv.open with ⟨ao, cap, rfl, rfl, _⟩ | ⟨b, off, cap, rfl, h0, hcap, hm, hc⟩
  · simp at hne
  · have HG := hid hgood
    clear hgood
    have hd : decide (16 < (xs.length : Int)) = false := decide_eq_false (by omega)
    obtain ⟨fin, hfin⟩ : ∃ r, goS slice (mostL xs 0) xs 2001 0 (List.replicate xs.length 0, [], budget) = r := ⟨_, rfl⟩
    rw [hfin]
    have HF := hid hfin
    clear hfin
    go_enter Try.func35, Try.ntmps35
    go_wp2_with fail
    go_loop [9, 37] (fun m i => ∃ (k : Nat) (y : Int), k ≤ xs.length ∧ i = .int .i64 k ∧ m = .int .i64 y ∧ 0 ≤ y ∧ y ≤ 2000 ∧ Hid (mostL (xs.take k) 0 = y)) (fun _ i => xs.length - (intOf i).toNat)
    case atStart => exact ⟨0, 0, Nat.zero_le _, rfl, rfl, by omega, by omega, rfl⟩
    case round =>
      obtain ⟨k, y, hk, rfl, rfl, hy1, hy2, hmost⟩ := hrel
      by_cases hlt : k < xs.length
      · obtain ⟨hx1, hx2⟩ := HG.out xs[k] (List.getElem_mem hlt)
        have htk : xs.take (k + 1) = xs.take k ++ [xs[k]] := List.take_succ_eq_append_getElem hlt
        have HTK := hid htk
        clear htk
        go_wp2_with fail
        go_round
        case rel => exact ⟨k + 1, _, by omega, by go_num, rfl, by split <;> omega, by split <;> omega, by rw [HTK.out]; show _ = _; rw [mostL_snoc, hmost.out]⟩
        case measure => simp [intOf]; omega
      · obtain rfl : k = xs.length := by omega
        rw [List.take_length] at hmost
        go_wp2_with (at_make; go_must (refine app_make elem_int (base := w.heap.size) (n := xs.length) rfl _ _ rfl rfl rfl rfl (by omega) (by omega) (Nat.le_refl _) ?_); intro w1 hgot hbel1 hlt1)
        go_loopw [2, 13, 14] (fun bd o kk wr => ∃ (k : Nat) (got order : List Int) (bud : Int), bd = .int .i64 bud ∧ kk = .int .i64 k ∧ k ≤ 2000 ∧ ShRel w xs.length got order bud o wr ∧ Hid (0 ≤ (k : Int) * slice ∧ (k : Int) * slice ≤ 4000) ∧ Hid (goS slice y xs (2001 - k) k (got, order, bud) = fin)) (fun _ _ kk _ => 2001 - (intOf kk).toNat)
        case atStart => exact ⟨0, _, [], budget, rfl, rfl, by omega, ⟨hb1, hb2, by simp, hgot, OwnI.nil _ _ _ _, Sep.nil_right _, hbel1, by simp; omega, fun g hg => by simp at hg; omega⟩, by simp [Hid], by rw [hmost.out] at HF; exact HF⟩
        case round =>
          obtain ⟨k, got, order, bud, rfl, rfl, hk2, hsr, hks, hgo⟩ := hrel
          obtain ⟨hks0, hks1⟩ := hks.out
          by_cases hmore : (k : Int) * slice < y
          · have hgo2 := goS_go hgo hk2 hmore
            have hkn : k < 2000 := by
              rcases Nat.lt_or_ge k 2000 with h | h
              · exact h
              · exfalso
                have h1 : (2000 : Int) * 1 ≤ (k : Int) * slice := Int.mul_le_mul (by omega) hs1 (by omega) (by omega)
                omega
            have hks2 : 0 ≤ ((k + 1 : Nat) : Int) * slice ∧ ((k + 1 : Nat) : Int) * slice ≤ 4000 := by
              have e : ((k + 1 : Nat) : Int) * slice = (k : Int) * slice + slice := by push_cast; rw [Int.add_mul, Int.one_mul]
              omega
            have HKS2 := hid hks2
            clear hgo hks2
            go_wp2_with fail
            obtain ⟨wo, rfl⟩ : ∃ wo : World, wo = wr := ⟨_, rfl⟩
            go_loopw [2, 13, 63] (fun bd o ii wr => ∃ (j : Nat) (got order : List Int) (bud : Int), j ≤ xs.length ∧ bd = .int .i64 bud ∧ ii = .int .i64 j ∧ ShRel w xs.length got order bud o wr ∧ Hid (goS slice y xs (2001 - (k + 1)) (k + 1) (runS ((k : Int) * slice) slice (xs.drop j) j (got, order, bud)) = fin)) (fun _ _ ii _ => xs.length - (intOf ii).toNat)
            case atStart => exact ⟨0, got, order, bud, Nat.zero_le _, rfl, rfl, hsr, hgo2⟩
            case round =>
              clear hsr hgo2
              obtain ⟨j, got, order, bud, hj, rfl, rfl, hsr, hgo⟩ := hrel
              by_cases hlt : j < xs.length
              · obtain ⟨hx1, hx2⟩ := HG.out xs[j] (List.getElem_mem hlt)
                have hcx : wr.cell? ⟨b, off + j, none⟩ = some (.int .i64 xs[j]) := by
                  rw [← hc j hlt]
                  exact hsr.bel.cell (p := ⟨b, off + j, none⟩) (World.block_lt_of_cell? w ⟨b, off + j, none⟩ (hc j hlt))
                have hjg : j < got.length := by rw [hsr.gl]; exact hlt
                rw [runS_cons hlt] at hgo
                generalize xs[j] = x at *
                obtain ⟨hgc, hgf⟩ := hsr.hg.cellAt hsr.gl.symm j hjg
                obtain ⟨hgb1, hgb2⟩ := hsr.gb got[j] (List.getElem_mem hjg)
                have hsy := fun (gv y z : Int) (w' : World) (o' : Value) h0 h1 hy hz ho hb hgr => hsr.step (o' := o') (w' := w') j hjg gv y z h0 h1 hy hz ho hb hgr
                have hst := fun h => @stepS_yes ((k : Int) * slice) slice x got order bud j hjg h
                have HSY := hid hsy
                have HST := hid hst
                clear hsy hst
                generalize got[j] = gj at *
                have hbb1 := hsr.b0
                have hbb2 := hsr.b1
                have hsz := hsr.bel.size
                have hol := hsr.ol
                have hgvb := @giv_bd ((k : Int) * slice) slice x bud hs1 hbb1
                obtain ⟨mx, hmx⟩ : ∃ m, (if (k : Int) * slice < x then x - (k : Int) * slice else 0) = m := ⟨_, rfl⟩
                obtain ⟨mi, hmi⟩ : ∃ m, (if mx < slice then mx else slice) = m := ⟨_, rfl⟩
                obtain ⟨gv, hgv⟩ : ∃ m, (if bud < mi then bud else mi) = m := ⟨_, rfl⟩
                have hgiv : giv ((k : Int) * slice) slice x bud = gv := by unfold giv; rw [hmx, hmi, hgv]
                rw [hgiv] at hgvb
                obtain ⟨hv1, hv2, hv3⟩ := hgvb
                have HGIV := hid hgiv
                have hmm : gv = min (min (max 0 (x - (k : Int) * slice)) slice) bud := by
                  rw [← hgv, ← hmi, ← hmx]
                  (repeat' split) <;> omega
                have HMM := hid hmm
                clear hgiv hmm
                by_cases hpos : 0 < gv
                · go_wp2_with (at_builtin; go_must (refine app_int elem_int (base := w.heap.size) rfl (.tmp 89) (.tmp 91) rfl rfl rfl (by simp) ((hsr.hg.stored hsr.gl.symm j _).2.other hsr.ho hsr.sep.symm).1 (by omega) (by omega) (by simp; omega) ?_); intro v2 w2 ho2 hb2 hg2)
                  all_goals
                    have hmm := HMM.out
                    go_roundw
                    case rel => exact ⟨j + 1, got.set j (gj + gv), order ++ [(j : Int)], bud - gv, by omega, by congr 1; (repeat' split) <;> omega, by go_num, HSY.out gv _ _ _ _ hpos hv2 (by (repeat' split) <;> omega) rfl ho2 hb2 hg2, by rw [HST.out (by rw [HGIV.out]; exact hpos), HGIV.out] at hgo; exact hgo⟩
                    case measure => simp [intOf]; omega
                · go_wp2_with fail
                  go_roundw
                  case rel => exact ⟨j + 1, got, order, bud, by omega, rfl, by go_num, hsr, by rw [stepS_no (by show ¬ 0 < giv _ _ _ bud; rw [HGIV.out]; exact hpos)] at hgo; exact hgo⟩
                  case measure => simp [intOf]; omega
              · obtain rfl : j = xs.length := by omega
                rw [List.drop_of_length_le (Nat.le_refl _), runS] at hgo
                go_wp2_with fail
                go_roundw
                case rel => exact ⟨k + 1, got, order, bud, rfl, by go_num, by omega, hsr, HKS2.out, hgo⟩
                case measure => simp [intOf]; omega
          · have hst := goS_stop hgo hk2 hmore
            have HST := hid hst
            clear hst hgo
            go_wp2_with fail
            go_ret3
            exact ⟨_, _, rfl, by rw [← HST.out]; exact hsr.hg, by rw [← HST.out]; exact hsr.ho, hsr.bel⟩


/-- what is still to come behind round k -/
def nxt (slice most : Int) (xs : List Int) (k : Nat) (st : ShSt) : ShSt := if (k : Int) * slice < most then goS slice most xs (2001 - (k + 1)) (k + 1) st else st

theorem giv_low {p slice x bud : Int} (hs : 1 ≤ slice) (hb : 0 ≤ bud) (hx : x ≤ p) : giv p slice x bud = 0 := by
  unfold giv
  rw [if_neg (by omega), if_pos (by omega), if_neg (by omega)]
theorem runS_id {p slice : Int} (hs : 1 ≤ slice) (l : List Int) : ∀ (j : Nat) (st : ShSt), 0 ≤ st.2.2 → (∀ x ∈ l, x ≤ p) → runS p slice l j st = st := by
  induction l with
  | nil => intro j st _ _; rfl
  | cons x r ih =>
    intro j st hb hx
    have h0 : stepS p slice st j x = st := stepS_no (by rw [giv_low hs hb (hx x (by simp))]; omega)
    rw [runS, h0]
    exact ih (j + 1) st hb (fun y hy => hx y (by simp [hy]))
theorem runS_zero {p slice : Int} (hs : 1 ≤ slice) (l : List Int) : ∀ (j : Nat) (st : ShSt), st.2.2 = 0 → runS p slice l j st = st := by
  induction l with
  | nil => intro j st _; rfl
  | cons x r ih =>
    intro j st hb
    have h0 : stepS p slice st j x = st := stepS_no (by rw [hb, giv_zero hs]; omega)
    rw [runS, h0]
    exact ih (j + 1) st hb
theorem goS_zero {slice most : Int} (hs : 1 ≤ slice) (xs : List Int) (f : Nat) : ∀ (k : Nat) (st : ShSt), st.2.2 = 0 → goS slice most xs f k st = st := by
  induction f with
  | zero => intro k st _; rfl
  | succ f ih =>
    intro k st h
    rw [goS]
    split
    · rw [runS_zero hs xs 0 st h]; exact ih (k + 1) st h
    · rfl
theorem nxt_zero {slice most : Int} (hs : 1 ≤ slice) {xs : List Int} {k : Nat} {st : ShSt} (h : st.2.2 = 0) : nxt slice most xs k st = st := by
  unfold nxt
  split
  · exact goS_zero hs xs _ _ st h
  · rfl
theorem mostL_le (l : List Int) : ∀ m : Int, m ≤ mostL l m ∧ ∀ x ∈ l, x ≤ mostL l m := by
  induction l with
  | nil => intro m; exact ⟨Int.le_refl _, fun x h => by simp at h⟩
  | cons y r ih =>
    intro m
    obtain ⟨h1, h2⟩ := ih (if m < y then y else m)
    rw [mostL]
    refine ⟨?_, fun x hx => ?_⟩
    · by_cases hc : m < y
      · rw [if_pos hc] at h1 ⊢; omega
      · rw [if_neg hc] at h1 ⊢; omega
    · rcases List.mem_cons.1 hx with rfl | hx
      · by_cases hc : m < x
        · rw [if_pos hc] at h1 ⊢; omega
        · rw [if_neg hc] at h1 ⊢; omega
      · exact h2 x hx
theorem mostL_ub {B : Int} (l : List Int) : ∀ m : Int, m ≤ B → (∀ x ∈ l, x ≤ B) → mostL l m ≤ B := by
  induction l with
  | nil => intro m h _; exact h
  | cons y r ih =>
    intro m h hx
    rw [mostL]
    refine ih _ ?_ (fun z hz => hx z (by simp [hz]))
    have := hx y (by simp)
    split <;> omega

theorem head_nxt {slice : Int} {xs : List Int} {k : Nat} {st r : ShSt} (h : Hid (goS slice (mostL xs 0) xs (2001 - k) k st = r)) (hs : 1 ≤ slice) (hk : k ≤ 2000) (hb : 0 ≤ st.2.2) : Hid (nxt slice (mostL xs 0) xs k (runS ((k : Int) * slice) slice (xs.drop 0) 0 st) = r) := by
  by_cases hm : (k : Int) * slice < mostL xs 0
  · have := goS_go h hk hm
    show _ = _
    unfold nxt
    rw [if_pos hm]
    exact this
  · have h1 := goS_stop h hk hm
    show _ = _
    unfold nxt
    rw [if_neg hm, List.drop_zero, runS_id hs xs 0 st hb (fun x hx => by have := (mostL_le xs 0).2 x hx; omega)]
    exact h1

def ShQ (xs got : List Int) (slice ks bud : Int) (j : Nat) : Prop :=
  ∀ i, i < xs.length → got.getD i 0 ≤ xs.getD i 0 ∧ (0 < bud → got.getD i 0 = min (xs.getD i 0) (if i < j then ks + slice else ks))

theorem getD_at {l : List Int} {i : Nat} (h : i < l.length) : l.getD i 0 = l[i] := by
  rw [List.getD_eq_getElem?_getD, List.getElem?_eq_getElem h]; rfl
theorem getD_set' {l : List Int} {i j : Nat} {v : Int} (h : j < l.length) : (l.set j v).getD i 0 = if i = j then v else l.getD i 0 := by
  rw [List.getD_eq_getElem?_getD, List.getD_eq_getElem?_getD, List.getElem?_set]
  by_cases hij : i = j
  · subst hij; simp [h]
  · rw [if_neg (fun e => hij e.symm), if_neg hij]

theorem ShQ.no {xs got : List Int} {slice ks bud : Int} {j : Nat} (h : ShQ xs got slice ks bud j) (hj : j < xs.length) (hz : 0 < bud → xs.getD j 0 - got.getD j 0 = 0) (hs : 1 ≤ slice) : ShQ xs got slice ks bud (j + 1) := by
  intro i hi
  obtain ⟨h1, h2⟩ := h i hi
  refine ⟨h1, fun hb => ?_⟩
  have h3 := h2 hb
  by_cases hij : i = j
  · subst hij
    have := hz hb
    rw [if_neg (by omega)] at h3
    rw [if_pos (by omega)]
    omega
  · by_cases hlt : i < j
    · rw [if_pos hlt] at h3; rw [if_pos (by omega)]; exact h3
    · rw [if_neg hlt] at h3; rw [if_neg (by omega)]; exact h3
theorem ShQ.yes {xs got : List Int} {slice ks bud gv : Int} {j : Nat} (h : ShQ xs got slice ks bud j) (hj : j < xs.length) (hjg : j < got.length) (h0 : 0 < gv) (hg : gv = min (min (xs.getD j 0 - got.getD j 0) slice) bud) : ShQ xs (got.set j (got.getD j 0 + gv)) slice ks (bud - gv) (j + 1) := by
  intro i hi
  obtain ⟨h1, h2⟩ := h i hi
  rw [getD_set' hjg]
  by_cases hij : i = j
  · subst hij
    rw [if_pos rfl]
    refine ⟨by omega, fun hb => ?_⟩
    have h3 := h2 (by omega)
    rw [if_neg (by omega)] at h3
    rw [if_pos (by omega)]
    omega
  · rw [if_neg hij]
    refine ⟨h1, fun hb => ?_⟩
    have h3 := h2 (by omega)
    by_cases hlt : i < j
    · rw [if_pos hlt] at h3; rw [if_pos (by omega)]; exact h3
    · rw [if_neg hlt] at h3; rw [if_neg (by omega)]; exact h3
theorem ShQ.done {xs got : List Int} {slice ks ks' bud : Int} (h : ShQ xs got slice ks bud xs.length) (e : ks' = ks + slice) : ShQ xs got slice ks' bud 0 := by
  subst e
  intro i hi
  obtain ⟨h1, h2⟩ := h i hi
  refine ⟨h1, fun hb => ?_⟩
  have h3 := h2 hb
  rw [if_pos hi] at h3
  rw [if_neg (by omega)]
  exact h3
/-- what the program gives is what the reference gives -/
theorem giv_of {xs got : List Int} {slice ks bud gv : Int} {j : Nat} (h : ShQ xs got slice ks bud j) (hj : j < xs.length) (hs : 1 ≤ slice) (hb : 0 ≤ bud) (hg : gv = min (min (xs.getD j 0 - got.getD j 0) slice) bud) : giv ks slice (xs.getD j 0) bud = gv ∧ 0 ≤ gv := by
  obtain ⟨h1, h2⟩ := h j hj
  rw [if_neg (by omega)] at h2
  by_cases hb0 : 0 < bud
  · have h3 := h2 hb0
    generalize xs.getD j 0 = x at *
    generalize got.getD j 0 = g at *
    have e : giv ks slice x bud = min (min (max 0 (x - ks)) slice) bud := by
      unfold giv
      (repeat' split) <;> omega
    rw [e]
    omega
  · have hb1 : bud = 0 := by omega
    subst hb1
    rw [giv_zero hs]
    omega

set_option maxRecDepth 100000 in
set_option maxHeartbeats 4000000 in
theorem share_go (v : Value) (xs : List Int) (slice budget : Int) (w : World) (hv : Ints w .i64 v xs) (hlen : xs.length ≤ 16) (hs1 : 1 ≤ slice) (hs2 : slice ≤ 2000) (hb1 : 0 ≤ budget) (hb2 : budget ≤ 2000) (hgood : ∀ n ∈ xs, 0 ≤ n ∧ n ≤ 2000) (hne : 0 < xs.length) :
    Calls Try.prog 34 #[v, .int .i64 slice, .int .i64 budget] w (SharePost w ((goS slice (mostL xs 0) xs 2001 0 (List.replicate xs.length 0, [], budget)).1, (goS slice (mostL xs 0) xs 2001 0 (List.replicate xs.length 0, [], budget)).2.1, 0)) := by
  have hcon := fun w' (hv' : Ints w' .i64 v xs) => contains_any v xs w' hv' false (by simp; intro x hx; have := hgood x hx; unfold badN; omega)
  have HCON := hid hcon
  clear hcon
  have HV := hid hv
  rcases hv.open with ⟨ao, cap, rfl, rfl, _⟩ | ⟨b, off, cap, rfl, h0, hcap, hm, hc⟩
  · simp at hne
  · have HG := hid hgood
    clear hgood
    have hd : decide (16 < (xs.length : Int)) = false := decide_eq_false (by omega)
    have hs0 : (slice == 0) = false := by simp; omega
    obtain ⟨fin, hfin⟩ : ∃ r, goS slice (mostL xs 0) xs 2001 0 (List.replicate xs.length 0, [], budget) = r := ⟨_, rfl⟩
    rw [hfin]
    have HF := hid hfin
    clear hfin
    go_enter Try.func34, Try.ntmps34
    go_wp2_with fail
    go_step3
    go_wp2_with (first | (go_at_call 81; go_must (refine (bad_no _ _ (by omega)).mono ?_); rintro e w' ⟨rfl, rfl⟩) | (go_at_call 82; go_must (refine (HCON.out _ HV.out).mono ?_); rintro e w' ⟨rfl, rfl⟩) | (at_make; go_must (refine app_make elem_int (base := w.heap.size) (n := xs.length) rfl _ _ rfl rfl rfl rfl (by omega) (by omega) (Nat.le_refl _) ?_); intro w1 hgot hbel1 hlt1))
    go_step3
    go_wp2_with fail
    have hsl := hs1
    go_loopw [2, 11] (fun bd o wr => ∃ (k : Nat) (got order : List Int) (bud : Int), bd = .int .i64 bud ∧ (k : Int) + bud ≤ 2000 ∧ ShRel w xs.length got order bud o wr ∧ Hid (ShQ xs got slice ((k : Int) * slice) bud 0) ∧ Hid (0 ≤ (k : Int) * slice) ∧ Hid (goS slice (mostL xs 0) xs (2001 - k) k (got, order, bud) = fin)) (fun bd _ _ => (intOf bd).toNat)
    case atStart => exact ⟨0, _, [], budget, rfl, by omega, ⟨hb1, hb2, by simp, hgot, OwnI.nil _ _ _ _, Sep.nil_right _, hbel1, by simp; omega, fun g hg => by simp at hg; omega⟩, (fun i hi => by have := HG.out xs[i] (List.getElem_mem hi); rw [getD_at hi, getD_at (by simpa using hi), List.getElem_replicate]; refine ⟨this.1, fun _ => ?_⟩; simp; omega), by simp [Hid], HF⟩
    case round =>
      obtain ⟨k, got, order, bud, rfl, hkb, hsr, hq, hks, hgo⟩ := hrel
      have hbud0 := hsr.b0
      have hk2 : k ≤ 2000 := by omega
      have hgo2 := head_nxt hgo hs1 hk2 hsr.b0
      have HKB := hid hkb
      clear hgo hkb
      obtain ⟨bud0, hbd0⟩ : ∃ b0, b0 = bud := ⟨_, rfl⟩
      have HBD0 := hid hbd0
      clear hbd0
      go_wp2_with fail
      obtain ⟨wo, rfl⟩ : ∃ wo : World, wo = wr := ⟨_, rfl⟩
      go_loopw [2, 11, 12, 41] (fun bd o sm ii wr => ∃ (j : Nat) (got order : List Int) (bud : Int) (s : Bool), j ≤ xs.length ∧ bd = .int .i64 bud ∧ ii = .int .i64 j ∧ sm = .bool s ∧ ShRel w xs.length got order bud o wr ∧ Hid (ShQ xs got slice ((k : Int) * slice) bud j) ∧ Hid (nxt slice (mostL xs 0) xs k (runS ((k : Int) * slice) slice (xs.drop j) j (got, order, bud)) = fin) ∧ Hid (s = true → (k : Int) * slice < mostL xs 0 ∧ bud < bud0) ∧ Hid (s = false → bud = bud0 ∧ (bud = 0 ∨ ∀ i, i < j → xs.getD i 0 ≤ (k : Int) * slice))) (fun _ _ _ ii _ => xs.length - (intOf ii).toNat)
      case atStart => exact ⟨0, got, order, bud, false, Nat.zero_le _, rfl, rfl, rfl, hsr, hq, hgo2, (fun h => by simp at h), (fun _ => ⟨HBD0.out.symm, .inr (fun i hi => by omega)⟩)⟩
      case round =>
        clear hsr hq hgo2 hbud0
        obtain ⟨j, got, order, bud, s, hj, rfl, rfl, rfl, hsr, hq, hgo, hst, hsf⟩ := hrel
        by_cases hlt : j < xs.length
        · obtain ⟨hx1, hx2⟩ := HG.out xs[j] (List.getElem_mem hlt)
          have hcx : wr.cell? ⟨b, off + j, none⟩ = some (.int .i64 xs[j]) := by
            rw [← hc j hlt]
            exact hsr.bel.cell (p := ⟨b, off + j, none⟩) (World.block_lt_of_cell? w ⟨b, off + j, none⟩ (hc j hlt))
          have hjg : j < got.length := by rw [hsr.gl]; exact hlt
          rw [runS_cons hlt] at hgo
          obtain ⟨hgc, hgf⟩ := hsr.hg.cellAt hsr.gl.symm j hjg
          obtain ⟨hgb1, hgb2⟩ := hsr.gb got[j] (List.getElem_mem hjg)
          have hqj := (hq.out j hlt).1
          rw [getD_at hlt, getD_at hjg] at hqj
          have hsy := fun (gv y z : Int) (w' : World) (o' : Value) h0 h1 hy hz ho hb hgr => hsr.step (o' := o') (w' := w') j hjg gv y z h0 h1 hy hz ho hb hgr
          have hstp := fun (h : 0 < giv ((k : Int) * slice) slice (xs[j]'hlt) bud) => @stepS_yes ((k : Int) * slice) slice xs[j] got order bud j hjg h
          have hbb1 := hsr.b0
          have hbb2 := hsr.b1
          have hsz := hsr.bel.size
          have hol := hsr.ol
          have hgof := fun gv (h : gv = min (min (xs[j] - got[j]) slice) bud) => giv_of (gv := gv) hq.out hlt hs1 hbb1 (by rw [getD_at hlt, getD_at hjg]; exact h)
          have hqy := fun gv h0 (h : gv = min (min (xs[j] - got[j]) slice) bud) => hq.out.yes (gv := gv) hlt hjg h0 (by rw [getD_at hlt, getD_at hjg]; exact h)
          have hqn := fun (h : 0 < bud → xs[j] - got[j] = 0) => hq.out.no hlt (by rw [getD_at hlt, getD_at hjg]; exact h) hs1
          have hmx := (mostL_le xs 0).2 xs[j] (List.getElem_mem hlt)
          rw [getD_at hlt] at hgof
          rw [getD_at hjg] at hqy
          have hxj := getD_at hlt
          have HXJ := hid hxj
          have HSY := hid hsy
          have HSTP := hid hstp
          have HGOF := hid hgof
          have HQY := hid hqy
          have HQN := hid hqn
          have HMX := hid hmx
          clear hsy hstp hgof hqy hqn hmx hxj
          generalize got[j] = gj at *
          generalize xs[j] = x at *
          obtain ⟨mi, hmi⟩ : ∃ m, (if x - gj < slice then x - gj else slice) = m := ⟨_, rfl⟩
          obtain ⟨gv, hgv⟩ : ∃ m, (if bud < mi then bud else mi) = m := ⟨_, rfl⟩
          have hmm : gv = min (min (x - gj) slice) bud := by
            rw [← hgv, ← hmi]
            (repeat' split) <;> omega
          obtain ⟨hgiv, hv0⟩ := HGOF.out gv hmm
          have hv1 : gv ≤ bud := by omega
          have hv2 : gv ≤ x - gj := by omega
          have HGIV := hid hgiv
          have HMM := hid hmm
          clear hgiv hmm
          by_cases hpos : 0 < gv
          · have hne0 : (gv == 0) = false := by simp; omega
            have hmore : (k : Int) * slice < mostL xs 0 := by
              have h1 := HGIV.out
              have h2 := HMX.out
              by_cases hx : x ≤ (k : Int) * slice
              · rw [giv_low hs1 hbb1 hx] at h1; omega
              · omega
            have hbl : bud - gv < bud0 := by
              cases s
              · have := (hsf.out rfl).1; omega
              · have := (hst.out rfl).2; omega
            have HMORE := hid (And.intro hmore hbl)
            clear hmore hbl
            rw [HSTP.out (by rw [HGIV.out]; exact hpos), HGIV.out] at hgo
            by_cases hz : bud - gv = 0
            · have hze : (bud - gv == 0) = true := by simp; omega
              have hfin2 : (got.set j (gj + gv), order ++ [(j : Int)], bud - gv) = fin := by
                rw [← hgo.out, runS_zero hs1 _ _ _ hz, nxt_zero hs1 hz]
              have HFIN2 := hid hfin2
              have hbg : bud = gv := by omega
              have HBG := hid hbg
              clear hfin2 hz hbg
              go_wp2_with (at_builtin; go_must (refine app_int elem_int (base := w.heap.size) rfl (.tmp 64) (.tmp 66) rfl rfl rfl (by simp) ((hsr.hg.stored hsr.gl.symm j _).2.other hsr.ho hsr.sep.symm).1 (by omega) (by omega) (by simp; omega) ?_); intro v2 w2 ho2 hb2 hg2)
              all_goals
                (try rw [Exit.noGoto_ret])
                go_ret3
                have hsr2 := HSY.out gv _ _ _ _ hpos hv1 (by omega) rfl ho2 hb2 hg2
                exact ⟨_, _, rfl, by rw [← HFIN2.out]; exact hsr2.hg, by rw [← HFIN2.out]; exact hsr2.ho, hsr2.bel⟩
            · have hze : (bud - gv == 0) = false := by simp; omega
              have hz' : 0 < bud - gv := by omega
              clear hz
              go_wp2_with (at_builtin; go_must (refine app_int elem_int (base := w.heap.size) rfl (.tmp 64) (.tmp 66) rfl rfl rfl (by simp) ((hsr.hg.stored hsr.gl.symm j _).2.other hsr.ho hsr.sep.symm).1 (by omega) (by omega) (by simp; omega) ?_); intro v2 w2 ho2 hb2 hg2)
              have hsr2 := HSY.out gv _ _ _ _ hpos hv1 (by omega) rfl ho2 hb2 hg2
              go_roundw
              case rel => exact ⟨j + 1, got.set j (gj + gv), order ++ [(j : Int)], bud - gv, true, by omega, by congr 1 <;> omega, by go_num, rfl, hsr2, HQY.out gv hpos HMM.out, hgo, fun _ => HMORE.out, fun h => by simp at h⟩
              case measure => simp [intOf]; omega
          · have hz : gv = 0 := by omega
            have hne0 : (gv == 0) = true := by simp; omega
            have hqn := HQN.out (fun hb => by have := HMM.out; omega)
            rw [stepS_no (by show ¬ 0 < giv _ _ _ bud; rw [HGIV.out]; exact hpos)] at hgo
            have hlow : bud = 0 ∨ x ≤ (k : Int) * slice := by
              rcases Int.lt_or_le 0 bud with h | h
              · right
                rcases Int.lt_or_le ((k : Int) * slice) x with h2 | h2
                · exfalso
                  have h3 := HGIV.out
                  rw [hz] at h3
                  have e : giv ((k : Int) * slice) slice x bud = min (min (max 0 (x - (k : Int) * slice)) slice) bud := by
                    unfold giv
                    (repeat' split) <;> omega
                  omega
                · exact h2
              · left; omega
            have hsf2 : s = false → bud = bud0 ∧ (bud = 0 ∨ ∀ i, i < j + 1 → xs.getD i 0 ≤ (k : Int) * slice) := by
              intro h
              obtain ⟨h1, h2⟩ := hsf.out h
              refine ⟨h1, ?_⟩
              rcases hlow with h3 | h3
              · exact .inl h3
              · rcases h2 with h2 | h2
                · exact .inl h2
                · refine .inr fun i hi => ?_
                  by_cases hij : i = j
                  · subst hij; rw [HXJ.out]; exact h3
                  · exact h2 i (by omega)
            have HQN2 := hid hqn
            have HSF2 := hid hsf2
            clear hqn hsf2 hlow
            go_wp2_with fail
            go_roundw
            case rel => exact ⟨j + 1, got, order, bud, s, by omega, rfl, by go_num, rfl, hsr, HQN2.out, hgo, hst, HSF2.out⟩
            case measure => simp [intOf]; omega
        · obtain rfl : j = xs.length := by omega
          rw [List.drop_of_length_le (Nat.le_refl _), runS] at hgo
          cases s
          · obtain ⟨h1, h2⟩ := hsf.out rfl
            have hfin2 : (got, order, bud) = fin := by
              rw [← hgo.out]
              rcases h2 with h2 | h2
              · rw [nxt_zero hs1 h2]
              · unfold nxt
                rw [if_neg]
                have := mostL_ub (B := (k : Int) * slice) xs 0 hks.out (fun x hx => by
                  obtain ⟨i, hi, rfl⟩ := List.getElem_of_mem hx
                  rw [← getD_at hi]; exact h2 i hi)
                omega
            have HFIN2 := hid hfin2
            clear hfin2 h1 h2 hgo
            go_wp2_with fail
            all_goals
              (try rw [Exit.noGoto_ret])
              go_ret3
              exact ⟨_, _, rfl, by rw [← HFIN2.out]; exact hsr.hg, by rw [← HFIN2.out]; exact hsr.ho, hsr.bel⟩
          · obtain ⟨h1, h2⟩ := hst.out rfl
            have hks2 : ((k + 1 : Nat) : Int) * slice = (k : Int) * slice + slice := by push_cast; rw [Int.add_mul, Int.one_mul]
            have hq2 := hq.out.done hks2
            have hgo3 : goS slice (mostL xs 0) xs (2001 - (k + 1)) (k + 1) (got, order, bud) = fin := by
              rw [← hgo.out]; unfold nxt; rw [if_pos h1]
            have hks3 : 0 ≤ ((k + 1 : Nat) : Int) * slice := by rw [hks2]; have := hks.out; omega
            have HH := hid (And.intro hq2 (And.intro hks3 hgo3))
            have HKB2 : Hid (((k + 1 : Nat) : Int) + bud ≤ 2000) := by have := HKB.out; have := HBD0.out; show _ ≤ _; omega
            have HBL : Hid (bud < bud0) := h2
            clear hks2 hq2 hgo3 hks3 h1 h2
            have hb00 := hsr.b0
            go_wp2_with fail
            go_roundw
            case rel => exact ⟨k + 1, got, order, bud, rfl, HKB2.out, hsr, HH.out.1, HH.out.2.1, HH.out.2.2⟩
            case measure => have h1 := HBL.out; have h2 := HBD0.out; simp [intOf]; omega
end Go.Proofs.Ytbjhedfgnocflaa
