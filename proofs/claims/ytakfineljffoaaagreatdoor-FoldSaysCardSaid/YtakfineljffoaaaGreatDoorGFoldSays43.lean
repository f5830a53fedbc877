/-
  FOLDED BODIES: the program's list of rules: each keeps the contract of a rule. No condition.
-/
import Derived.Test.YtakfineljffoaaaGreatDoorGFoldSays32
import Derived.Test.YtakfineljffoaaaGreatDoorGFoldSays33
import Derived.Test.YtakfineljffoaaaGreatDoorGFoldSays40
import Derived.Test.YtakfineljffoaaaGreatDoorGFoldSays41
import Derived.Test.YtakfineljffoaaaGreatDoorGFoldSays42
namespace Go.Proofs.YtakfineljffoaaaGreatDoor
open Go.RowKit Go.Lib

def ruleF : List Nat := [65, 66, 67, 68, 69, 70, 71, 72, 73, 74, 75]
def fnV (f : Nat) : Value := .func (.func f) #[] #[]
def RulesAt (w : World) (R : Nat) : Prop := Blk w R 125 (ruleF.map fnV)
theorem rules_any (w : World) : Calls Tryz.prog 40 #[] w fun e w' => e = .returned (.slice (some ⟨w.heap.size, 0, none⟩) 11 11) ∧ RulesAt w' w.heap.size ∧ Below w.heap.size w w' := by
  go_enter Tryz.func40, Tryz.ntmps40
  go_wp2_with fail
  go_ret
  exact ⟨rfl, Blk.new w _ _ _ rfl, by (repeat (first | exact Below.refl _ _ | assumption | refine bel_al ?_ _ | refine Below.drew ?_ | refine bel_dn ?_ _ | refine bel_set ?_ (Nat.le_refl _) _))⟩
structure RuleC (f : Nat) (R : Rule) : Prop where
  c : RuleP f R
  call : ∀ (args : Array Value) (wx : World), (callFunc f args).run Tryz.prog wx = .ok (.enter f args) wx
theorem ruleC_all (j : Nat) (h : j < 11) : ∃ f R, ruleF[j]? = some f ∧ rulesL[j]? = some R ∧ RuleC f R := by
  rcases (by omega : j = 0 ∨ j = 1 ∨ j = 2 ∨ j = 3 ∨ j = 4 ∨ j = 5 ∨ j = 6 ∨ j = 7 ∨ j = 8 ∨ j = 9 ∨ j = 10) with rfl | rfl | rfl | rfl | rfl | rfl | rfl | rfl | rfl | rfl | rfl
  · exact ⟨_, _, rfl, rfl, idle_any, fun _ _ => by kernel_rfl⟩
  · exact ⟨_, _, rfl, rfl, one_any, fun _ _ => by kernel_rfl⟩
  · exact ⟨_, _, rfl, rfl, two_any, fun _ _ => by kernel_rfl⟩
  · exact ⟨_, _, rfl, rfl, unused_any, fun _ _ => by kernel_rfl⟩
  · exact ⟨_, _, rfl, rfl, sure_any, fun _ _ => by kernel_rfl⟩
  · exact ⟨_, _, rfl, rfl, dead_any, fun _ _ => by kernel_rfl⟩
  · exact ⟨_, _, rfl, rfl, kept_any, fun _ _ => by kernel_rfl⟩
  · exact ⟨_, _, rfl, rfl, choice_any, fun _ _ => by kernel_rfl⟩
  · exact ⟨_, _, rfl, rfl, empty_any, fun _ _ => by kernel_rfl⟩
  · exact ⟨_, _, rfl, rfl, lost_any, fun _ _ => by kernel_rfl⟩
  · exact ⟨_, _, rfl, rfl, chosen_any, fun _ _ => by kernel_rfl⟩
theorem RulesAt.below {w w' : World} {R : Nat} (h : RulesAt w R) (hb : Below w.heap.size w w') : RulesAt w' R := Blk.below h hb
theorem RulesAt.cell {w : World} {R j f : Nat} (h : RulesAt w R) (hj : ruleF[j]? = some f) : w.cell? ⟨R, j, none⟩ = some (fnV f) := Blk.cell h (by rw [List.getElem?_map, hj]; rfl)
theorem first_some {j : Nat} {R : Rule} (hj : rulesL[j]? = some R) {l : List It} {q : Nat × List It} (hq : R l = some q) : firstR (rulesL.drop j) l = some q := by
  obtain ⟨h, rfl⟩ := List.getElem?_eq_some_iff.1 hj
  rw [List.drop_eq_getElem_cons h, firstR, hq]
theorem first_none {j : Nat} {R : Rule} (hj : rulesL[j]? = some R) {l : List It} (hq : R l = none) : firstR (rulesL.drop j) l = firstR (rulesL.drop (j + 1)) l := by
  obtain ⟨h, rfl⟩ := List.getElem?_eq_some_iff.1 hj
  rw [List.drop_eq_getElem_cons h, firstR, hq]
noncomputable def firstM (l : List It) : Option (List It) := stepM oM pM l
theorem place_some {l : List It} {i : Nat} (h : i < l.length) {q : Nat × List It} (hq : ruleM oM pM (l.drop i) = some q) : placeM oM pM l (l.length - i) i = some (i, q) := by
  rw [show l.length - i = (l.length - (i + 1)) + 1 by omega, placeM, hq]
theorem place_none {l : List It} {i : Nat} (h : i < l.length) (hq : ruleM oM pM (l.drop i) = none) : placeM oM pM l (l.length - i) i = placeM oM pM l (l.length - (i + 1)) (i + 1) := by
  rw [show l.length - i = (l.length - (i + 1)) + 1 by omega, placeM, hq]
theorem place_end {l : List It} {i : Nat} (h : ¬ i < l.length) : placeM oM pM l (l.length - i) i = none := by
  rw [show l.length - i = 0 by omega]; rfl
theorem fits_at {l : List It} (hf : Fits l) {i : Nat} (h : i < l.length) : ∃ k st, run (l.drop i) (k :: st) = some [] := by
  have hd : l.drop i ≠ [] := by
    intro e
    have := congrArg List.length e
    simp only [List.length_drop, List.length_nil] at this
    omega
  have := hf
  unfold Fits at this
  rw [← List.take_append_drop i l] at this
  obtain ⟨k, s, -, h2⟩ := run_prefix _ _ _ hd this
  exact ⟨k, s, h2⟩
end Go.Proofs.YtakfineljffoaaaGreatDoor
namespace Go.Proofs.YtakfineljffoaaaGreatDoor
open Go.RowKit Go.Lib

def FPost (w : World) (v : Value) (l : List It) (e : Ending) (w' : World) : Prop := Below w.heap.size w w' ∧ match firstM l with
  | some l' => ∃ v', e = .returned (.tuple #[v', .bool true]) ∧ BodS w' v' l'
  | none => e = .returned (.tuple #[v, .bool false])
theorem tcell {w : World} {B : Nat} {a b : Value} (h : Blk w B 127 [a, b]) : w.cell? ⟨B, 0, none⟩ = some a ∧ w.cell? ⟨B, 1, none⟩ = some b := ⟨h.cell (i := 0) rfl, h.cell (i := 1) rfl⟩
theorem step_is {l : List It} {i : Nat} (h : i < l.length) {q : Nat × List It} (hq : ruleM oM pM (l.drop i) = some q) (hp : placeM oM pM l (l.length - i) i = placeM oM pM l l.length 0) : firstM l = some (l.take i ++ (q.2 ++ l.drop (i + q.1))) := by
  unfold firstM stepM
  rw [← hp, place_some h hq]
theorem step_no {l : List It} (hp : placeM oM pM l l.length 0 = none) : firstM l = none := by
  unfold firstM stepM
  rw [hp]
set_option maxRecDepth 100000 in
set_option maxHeartbeats 16000000 in
theorem first_any (w : World) (v : Value) (R : Nat) (l : List It) (hok : ∀ z ∈ l, ItOk z) (hf : Fits l) (hT : Tabs w) (h : BodS w v l) (h200 : l.length ≤ 200) (hR : RulesAt w R) :
    Calls Tryz.prog 41 #[v, .slice (some ⟨R, 0, none⟩) 11 11] w fun e w' => FPost w v l e w' := by
  obtain ⟨x, t, hxt⟩ : ∃ x t, l = x :: t := by
    cases l with
    | nil => exact absurd hf (by simp [Fits, run])
    | cons x t => exact ⟨x, t, rfl⟩
  obtain ⟨b, off, n, cap, rfl, hn, hc1, hc2, -⟩ := BodS.one (hxt ▸ h)
  have hnl : n = l.length := by rw [hn, hxt]; rfl
  clear hxt hn x t
  have HB := hid h
  have HRA := hid hR
  have HOK := hid hok
  have HTB := hid hT
  have HF := hid hf
  have HL := hid (show n = l.length ∧ n ≤ 200 from ⟨hnl, by omega⟩)
  have hn2 : n ≤ 200 := by omega
  have HP0 := hid (show placeM oM pM l (l.length - 0) 0 = placeM oM pM l l.length 0 from rfl)
  clear h hR hok hT hf hnl h200
  go_enter Tryz.func41, Tryz.ntmps41
  go_wp2_with fail
  go_loopw [14] (fun iv wr => ∃ i : Nat, i ≤ n ∧ iv = .int .i64 i ∧ Hid (Below w.heap.size w wr) ∧ Hid (placeM oM pM l (l.length - i) i = placeM oM pM l l.length 0)) (fun iv _ => n - (RowKit.intOf iv).toNat)
  case atStart => exact ⟨0, Nat.zero_le _, rfl, hid (Below.refl _ _), HP0⟩
  case round =>
    obtain ⟨i, hi, rfl, BL, HP⟩ := hrel
    by_cases hlt : i < n
    · have hlt2 : (i : Int) < (n : Int) := by omega
      have hil := hid (show i < l.length by have := HL.out.1; omega)
      obtain ⟨k, st, hrun⟩ := fits_at HF.out hil.out
      obtain ⟨o, ho, hsl⟩ := run_lo elem_insv b off n cap i .i64 (i : Int) rfl hi
      have hsh := fun w => run_hi elem_insv b off n cap i .i64 (i : Int) rfl (by omega) w
      have HBD := hid (HB.out.drop i (by have := hil.out; omega) ho)
      have HBT := hid (HB.out.take i (by have := hil.out; omega))
      obtain ⟨x, t, hxt⟩ : ∃ x t, l.drop i = x :: t := ⟨_, _, List.drop_eq_getElem_cons hil.out⟩
      have hlen : (x :: t).length ≤ 200 := by rw [← hxt, List.length_drop]; have := HL.out; omega
      rw [hxt] at HBD hrun
      have hoks : ∀ z ∈ x :: t, ItOk z := fun z hz => HOK.out z (List.mem_of_mem_drop (hxt ▸ hz))
      have HRL := hid (fun (j : Nat) (hj : j < 11) (wx : World) (hb : Below w.heap.size w wx) => show ∃ f R', ruleF[j]? = some f ∧ rulesL[j]? = some R' ∧ (∀ args wx, (callFunc f args).run Tryz.prog wx = .ok (.enter f args) wx) ∧ Calls Tryz.prog f #[.slice (some ⟨b, o, none⟩) (n - i) (cap - i)] wx fun e w' => RPost wx (R' (x :: t)) e w' from by
        obtain ⟨f, R', h1, h2, h3⟩ := ruleC_all j hj
        exact ⟨f, R', h1, h2, h3.call, h3.c wx _ x t k st hoks hrun (HTB.out.below hb) (HBD.out.below hb) hlen⟩)
      have HXT := hid hxt
      have HRUN := hid hrun
      have hwk : wrap64 ((i : Int) + 1) = ((i + 1 : Nat) : Int) := by unfold wrap64; omega
      clear hoks hlen hxt hrun ho
      go_wp2_with fail
      go_loopw [19] (fun jv wr2 => ∃ j : Nat, j ≤ 11 ∧ jv = .int .i64 j ∧ Hid (Below w.heap.size w wr2) ∧ Hid (firstR (rulesL.drop j) (x :: t) = ruleM oM pM (x :: t))) (fun jv _ => 11 - (RowKit.intOf jv).toNat)
      case atStart => exact ⟨0, Nat.zero_le _, rfl, BL, hid (first_is _)⟩
      case round =>
        obtain ⟨j, hj, rfl, BL2, HFR⟩ := hrel
        by_cases hjl : j < 11
        · have hjl2 : (j : Int) < 11 := by omega
          obtain ⟨F, R', hF, hRj, hcf, hC⟩ := HRL.out j hjl _ BL2.out
          have HC := hid hC
          have HRJ := hid hRj
          have hcell := (HRA.out.below BL2.out).cell hF
          unfold fnV at hcell
          clear hC hF hRj
          have hwj : wrap64 ((j : Int) + 1) = ((j + 1 : Nat) : Int) := by unfold wrap64; omega
          go_wp2_with fail
          refine HC.out.mono ?_
          rintro r w2 ⟨g, ao, m, cp, is, rfl, hb2, hG⟩
          have B2 := hid (bel_tr BL2.out hb2)
          cases hq : R' (x :: t) with
          | none =>
            rw [hq] at hG
            have his : is = false := hG
            subst his
            have HNX := hid ((first_none HRJ.out hq).symm.trans HFR.out)
            have B3 := hid (bel_al B2.out (.cells #[.int .i64 g, .slice ao m cp] 127))
            clear hG hb2 hq HC hcf
            go_wp2_with fail
            go_roundw
            case rel => exact ⟨j + 1, by omega, by go_num, B3, HNX⟩
            case measure => simp [RowKit.intOf]; omega
          | some q =>
            rw [hq] at hG
            obtain ⟨rfl, rfl, hbod⟩ := hG
            have HQ := hid (HFR.out.symm.trans (first_some HRJ.out hq))
            have HOKR := hid (rule_ok numR HRUN.out HQ.out)
            obtain ⟨q1, q2⟩ := q
            simp only at hbod ⊢
            have HST := hid (step_is hil.out (show ruleM oM pM (l.drop i) = some (q1, q2) by rw [HXT.out]; exact HQ.out) HP.out)
            simp only at HST
            have hin : i + q1 ≤ n := by
              have h1 := HOKR.out.1
              rw [← HXT.out, List.length_drop, ← HL.out.1] at h1
              simp only at h1
              omega
            have hq2 : q2.length ≤ 200 := by
              have h1 := HOKR.out.2.1
              simp only at h1
              omega
            have B3 := hid (bel_al B2.out (.cells #[.int .i64 q1, .slice ao m cp] 127))
            have HBN := hid (hbod.below ((Below.refl _ _).alloc (Nat.le_refl _) (.cells #[.int .i64 q1, .slice ao m cp] 127)))
            have XT := hid (Blk.new w2 #[.int .i64 q1, .slice ao m cp] 127 _ rfl)
            obtain ⟨o3, ho3, hs3⟩ := run_lo elem_insv b off n cap (i + q1) .i64 ((i : Int) + (q1 : Int)) (by simp) hin
            have HBE := hid ((HB.out.drop (i + q1) (by have := HL.out; omega) ho3).below B3.out)
            have HBS := hid (HBT.out.below B3.out)
            have hlt' : (l.take i).length ≤ 200 := by rw [List.length_take]; omega
            have hle' : (l.drop (i + q1)).length ≤ 200 := by rw [List.length_drop]; have := HL.out; omega
            have hwq : wrap64 ((i : Int) + (q1 : Int)) = (i : Int) + (q1 : Int) := by unfold wrap64; omega
            have HEQ := hid (show l.take i ++ (q2 ++ l.drop (i + q1)) = l.take i ++ q2 ++ l.drop (i + q1) by rw [List.append_assoc])
            generalize l.take i = la at *
            generalize l.drop (i + q1) = lc at *
            have HLN := hid (show la.length ≤ 200 ∧ q2.length ≤ 200 ∧ lc.length ≤ 200 from ⟨hlt', hq2, hle'⟩)
            clear hbod hb2 hq HC hcf hlt' hq2 hle' ho3 HQ HOKR HP HFR HRL
            go_wp2_with (at_builtin; first | (refine app_bod (W := (w2.alloc (.cells #[.int .i64 q1, .slice ao m cp] 127))) (base := w2.heap.size + 1) (l := [] ++ la ++ q2) (m := lc) rfl _ _ rfl rfl rfl HO2.out HBE.out BW2.out (by have := HLN.out; simp only [List.nil_append, List.length_append]; omega) (Nat.le_trans (by simp) BW2.out.size) ?_; intro v3 w5 ho3 hb3 hl3; have HO3 := hid ho3; have BW3 : Hid (Below (w2.alloc (.cells #[.int .i64 q1, .slice ao m cp] 127)).heap.size (w2.alloc (.cells #[.int .i64 q1, .slice ao m cp] 127)) w5) := hid (bel_tr2 BW2.out hb3 (by simp)); obtain ⟨t0, t1⟩ := tcell (XT.out.below BW3.out); clear ho3 hb3) | (refine app_bod (W := (w2.alloc (.cells #[.int .i64 q1, .slice ao m cp] 127))) (base := w2.heap.size + 1) (l := [] ++ la) (m := q2) rfl _ _ rfl rfl rfl HO1.out HBN.out BW1.out (by have := HLN.out; simp only [List.nil_append]; omega) (Nat.le_trans (by simp) BW1.out.size) ?_; intro v2 w4 ho2 hb2 hl2; have HO2 := hid ho2; have BW2 : Hid (Below (w2.alloc (.cells #[.int .i64 q1, .slice ao m cp] 127)).heap.size (w2.alloc (.cells #[.int .i64 q1, .slice ao m cp] 127)) w4) := hid (bel_tr2 BW1.out hb2 (by simp)); obtain ⟨t0, t1⟩ := tcell (XT.out.below BW2.out); clear ho2 hb2) | (refine app_bod (W := (w2.alloc (.cells #[.int .i64 q1, .slice ao m cp] 127))) (base := w2.heap.size + 1) (l := []) (m := la) rfl _ _ rfl rfl rfl (OwnF.nil _ _ _) HBS.out (by (repeat (first | exact Below.refl _ _ | assumption | refine bel_al ?_ _ | refine Below.drew ?_ | refine bel_dn ?_ _ | refine bel_set ?_ (Nat.le_refl _) _))) (by have := HLN.out; simp only [List.length_nil]; omega) (by simp) ?_; intro v1 w3 ho1 hb1 hl1; have HO1 := hid ho1; have BW1 : Hid (Below (w2.alloc (.cells #[.int .i64 q1, .slice ao m cp] 127)).heap.size (w2.alloc (.cells #[.int .i64 q1, .slice ao m cp] 127)) w3) := hid (hb1.mono (by simp)); obtain ⟨t0, t1⟩ := tcell (XT.out.below BW1.out); clear ho1 hb1))
            refine bodyPost_ret (v := .tuple #[v3, .bool true]) (by simp [results, Tryz.results41, go_sem]) rfl ?_
            refine ⟨bel_tr B3.out BW3.out, ?_⟩
            rw [HST.out, HEQ.out]
            exact ⟨_, rfl, HO3.out.bod BW3.out⟩
        · have hjl2 : ¬ (j : Int) < 11 := by omega
          have hj11 : j = 11 := by omega
          have HNO := hid (show ruleM oM pM (l.drop i) = none by rw [HXT.out, ← HFR.out, hj11]; rfl)
          have HP2 := hid ((place_none hil.out HNO.out).symm.trans HP.out)
          clear hj11
          go_wp2_with fail
          go_roundw
          case rel => exact ⟨i + 1, by omega, by go_num, BL2, HP2⟩
          case measure => simp [RowKit.intOf]; omega
    · have hlt2 : ¬ (i : Int) < (n : Int) := by omega
      have HNO := hid (step_no ((place_end (show ¬ i < l.length by have := HL.out.1; omega)).symm.trans HP.out).symm)
      go_wp2_with fail
      refine bodyPost_ret (v := .tuple #[.slice (some ⟨b, off, none⟩) n cap, .bool false]) (by simp [results, Tryz.results41, go_sem]) rfl ?_
      refine ⟨BL.out, ?_⟩
      rw [HNO.out]
end Go.Proofs.YtakfineljffoaaaGreatDoor
