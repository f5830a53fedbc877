/-
  THE STATEMENT Rows.ValidHeadsUptoSaid: for every input of bulk at most 1048576 the law ValidHeads returns true and each argument reads afterwards as it read before. The only condition is the given bound.
  This text is the row's step (the frame); the walk stands in YtdiiefhklcchmaaDoorWValidHeads.
-/
import Derived.Test.YtdiiefhklcchmaaDoorGValidHeads1
import Derived.Test.YtdiiefhklcchmaaDoorGValidHeads11
import Derived.Test.YtdiiefhklcchmaaDoorGValidHeads14
import Derived.ProofKit
import Derived.OpenShut
import Derived.ShutString
import Derived.SizedLaws
import Derived.Lay
import Derived.SevenTiedAt
import Derived.LaidMore
import Derived.Test.YtdiiefhklcchmaaDoorTie
import Derived.Test.YtdiiefhklcchmaaDoorCards
import Derived.Shelf.Vars
import Derived.JoinedCond
import Derived.Deep.CondSized
namespace Go.Proofs.YtdiiefhklcchmaaDoor.validHeads
open Go.ChangeShapes Go.WideShapes Go.ChangeAt Go.RowKit
set_option linter.unusedVariables false

theorem own : ownKnob Tryd.prog.godebug = none := by kernel_rfl
theorem laidOut : laidOutB Tryd.prog = true := by kernel_rfl

set_option maxRecDepth 100000 in
theorem lifted (os : Os) (started : os.Started) (H : Type) (enc : TypeId × Value → H) (F : Stop.Interp) :
    ReturnsInHanded {} Tryd.checked os 4 .any (fun w args => ((Rows.OpenSpec.upto Rows.validHeadsSpec).pre enc Tryd.prog Tryd.f4 [] false w args ∧ laidMetH Tryd.prog Rows.validHeadsUptoRow.laid w) ∧ sizedMet enc Tryd.prog Tryd.f4 (Rows.OpenSpec.upto Rows.validHeadsSpec) false w args) (((Rows.OpenSpec.upto Rows.validHeadsSpec).at F).post enc Tryd.prog Tryd.f4 false true false false) := by
  refine handed_cond_and (C := Tryd.checked) (s := Rows.OpenSpec.upto Rows.validHeadsSpec) (k := Rows.uptoSmall) rfl (X := fun w _ => laidMetH Tryd.prog Rows.validHeadsUptoRow.laid w) (fun _ _ _ hh h => h.of_heap hh) own started (by kernel_rfl) Tryd.func4
    (witness_cond_and (enc := enc) (C := Tryd.checked) (os := os) (s := Rows.OpenSpec.upto Rows.validHeadsSpec) (k := Rows.uptoSmall) rfl (X := fun w _ => laidMetH Tryd.prog Rows.validHeadsUptoRow.laid w) false (World.laidAll Tryd.prog os Rows.validHeadsUptoRow.laid) #[.agg #[.slice none 0 0, .slice none 0 0, .slice none 0 0, .int .i64 0, .int .i64 0, .int .i64 0, .slice none 0 0, .slice none 0 0, .int .i64 0, .slice none 0 0, .slice none 0 0]] 8 (World.laidAll_os _ _ _)
      (World.shaped_of_ZipB (by kernel_rfl) (by kernel_rfl)) (by kernel_rfl) (x := ([.agg [.nil, .nil, .nil, .lit (.int .i64 0), .lit (.int .i64 0), .lit (.int .i64 0), .nil, .nil, .lit (.int .i64 0), .nil, .nil]], [], [])) (by kernel_rfl) rfl (by kernel_rfl) (by kernel_rfl)
      (by rw [MakeChecks.laidMetH_plain _ _ _ (by kernel_rfl)]; exact laidMet_laidAll _ (by kernel_rfl) (by kernel_rfl))) ?_
  intro W base args ds gs before hval0 hW hcnd hk0 hsz0 hL hShp _
  rw [MakeChecks.laidMetH_plain _ _ _ (by kernel_rfl)] at hL
  have hk : Rows.uptoBulkAll (ds ++ gs) ≤ 1048576 := of_decide_eq_true hk0
  have hsz : (DataW.weightsEach Tryd.prog (Tryd.f4.params.toList ++ Rows.validHeadsSpec.plain.varTypes Tryd.prog) (ds ++ gs)).all (· ≤ reachBytes) = true := hsz0
  have hval : ∀ (j : Nat) t v, Tryd.f4.params[j]? = some t → args[j]? = some v → Value.okWide Tryd.prog W .any base t v := hval0
  have hW' := hW
  obtain ⟨p, q, hA0, hV, rfl, hfz, hnd⟩ := hW
  have hA : DataW.TrodAll enc Tryd.prog W 0 (fun _ => true) true Tryd.f4.params.toList args.toList ds p := hA0
  rw [Tryd.params4] at hA hval hsz
  obtain ⟨v0, vs0, d0, ds0, p0, q0, hargs, rfl, rfl, h0, r0⟩ := trodAll_cons hA
  obtain ⟨rfl, rfl, rfl⟩ := trodAll_nil r0
  obtain rfl : args = #[v0] := by cases args; simp_all
  obtain ⟨rfl, rfl⟩ := trodVars_none hV
  simp only [List.append_nil, Rows.uptoBulkAll] at hk
  have lt0 : ∀ x ∈ p0, x.block < W.heap.size := by obtain ⟨m, hm⟩ := h0; exact DataW.trod_lt m _ _ _ hm
  have sz0 : ∀ m ∈ d0.weights Tryd.prog 30, m ≤ reachBytes := fun m hm => of_decide_eq_true (List.all_eq_true.1 hsz m (DataW.weights_mem_each (j := 0) (t := 30) (d := d0) rfl rfl m hm))
  obtain ⟨x0, i0, k0⟩ := up_struct Tryd.underlying30 dec_api_Module (hval 0 30 v0 rfl rfl) h0 sz0
  clear hA0 hval0 hsz0
  have hM : MaxL W := Go.Proofs.cell_of_shapedOpen_int (P := Tryd.prog) (g := 2) (t := 3) (zero := #[.int .i64 0]) hShp (of_decide_eq_true (by kernel_rfl)) (by kernel_rfl) rfl (by kernel_rfl) (by kernel_rfl) Tryd.underlying3
  refine (law_ValidHeads v0 x0 W i0 (by omega) (utabs_of_laid hL) hM).mono fun e W' ⟨he, bel⟩ => ?_
  subst he
  exact ⟨_, rfl, _, _, _, [], _, [], hW', trodAll_mk1 (shut_bool Tryd.underlying4 _), (trodAll_cons_mk (Below.trod laidOut (by kernel_rfl) (of_decide_eq_true (by kernel_rfl)) h0 bel lt0) trodAll_mk0), rfl, bel.frame _, fun h => by cases h⟩

theorem over : Rows.validHeadsUptoRow.holds Tryd.pinned (Rows.OpenSpec.upto Rows.validHeadsSpec) :=
  OpenClaim.holds_of_cond 4 Tryd.f4 rfl rfl rfl rfl rfl rfl rfl ⟨rfl, rfl, rfl, rfl, rfl⟩ rfl rfl rfl rfl rfl (by kernel_rfl) Tryd.func4 (by kernel_rfl)
    (of_decide_eq_true (by kernel_rfl)) (by unfold Func.isWrapper; first | (rw [if_pos (by decide +kernel)]; kernel_rfl) | (rw [if_neg (by decide +kernel)]; exact ⟨rfl, rfl⟩))
    (fun os started H enc _ F => lifted os started H enc F)

theorem proved : Rows.ValidHeadsUptoCardSaid :=
  Claim7.holds_tied_plain_at .later [] Rows.validHeadsUptoCard.laidKinds true Rows.validHeadsUptoCard.stood.harness false
    over (fun _ h => by cases h) (by kernel_rfl) (fun _ h => by cases h) validHeadsUpto_row_tie rfl ⟨rfl, rfl⟩ (by kernel_rfl) rfl
    (fun f fn hf hfn => by
      obtain rfl : f = 4 := Option.some.inj ((show Tryd.prog.funcNamed Rows.validHeadsUptoRow.func = some 4 by kernel_rfl).symm.trans hf) |>.symm
      obtain rfl : fn = Tryd.f4 := (Option.some.inj (Tryd.func4.symm.trans hfn)).symm
      exact ⟨by kernel_rfl, fun j t ht => by
        rw [Tryd.params4] at ht
        have hm : t ∈ [30] := by simpa using Array.mem_of_getElem? ht
        have hall : ([30].all fun u => !Tryd.prog.wantsStandIn u) = true := by kernel_rfl
        exact (show Tryd.prog.wantsStandIn t = false by simpa using List.all_eq_true.1 hall t hm)⟩)
    (by kernel_rfl)
#print axioms proved
end Go.Proofs.YtdiiefhklcchmaaDoor.validHeads
