/-
  THE STATEMENT Rows.MemOfsSaid: for every input the law MemOfs returns true and each argument reads afterwards as it read before. No condition is laid.
  This text is the row's step (the frame); the walk stands in YtdiiefhklcchmaaWMemOfs.
-/
import Derived.Test.YtdiiefhklcchmaaWMemOfs
import Derived.Test.YtdiiefhklcchmaaDec
import Derived.ProofKit
import Derived.OpenShut
import Derived.ShutString
import Derived.SizedLaws
import Derived.HandedShaped
import Derived.Shelf.Vars
namespace Go.Proofs.Ytdiiefhklcchmaa.memOfs
open Go.ChangeShapes Go.WideShapes Go.ChangeAt Go.RowKit
set_option linter.unusedVariables false

theorem own : ownKnob Try.prog.godebug = none := by kernel_rfl
theorem laidOut : laidOutB Try.prog = true := by kernel_rfl

set_option maxRecDepth 100000 in
theorem lifted (os : Os) (started : os.Started) (H : Type) (enc : TypeId × Value → H) :
    ReturnsInHanded {} Try.checked os 4 .any (Rows.memOfsSpec.pre6 enc Try.prog Try.f4 Rows.memOfsRow.domain false) (Rows.memOfsSpec.post enc Try.prog Try.f4 false true false false) := by
  refine returnsInHanded_of_change_shaped (C := Try.checked) own started (by kernel_rfl) Try.func4
    (ChangeSpec.witness6 (enc := enc) (C := Try.checked) false ⟨#[], #[.string ByteArray.empty, .int .i64 0, .slice none 0 0], []⟩ 8 (by kernel_rfl) (by kernel_rfl) (by kernel_rfl) (by kernel_rfl)) ?_
  intro W base args ds gs before hval0 hW hcnd hsz0 hShp _
  have hsz : (DataW.weightsEach Try.prog (Try.f4.params.toList ++ Rows.memOfsSpec.plain.varTypes Try.prog) (ds ++ gs)).all (· ≤ reachBytes) = true := hsz0
  have hval : ∀ (j : Nat) t v, Try.f4.params[j]? = some t → args[j]? = some v → Value.okWide Try.prog W .any base t v := hval0
  have hW' := hW
  obtain ⟨p, q, hA0, hV, rfl, hfz, hnd⟩ := hW
  have hA : DataW.TrodAll enc Try.prog W 0 (fun _ => true) true Try.f4.params.toList args.toList ds p := hA0
  rw [Try.params4] at hA hval hsz
  obtain ⟨v0, vs0, d0, ds0, p0, q0, hargs, rfl, rfl, h0, r0⟩ := trodAll_cons hA
  obtain ⟨v1, vs1, d1, ds1, p1, q1, rfl, rfl, rfl, h1, r1⟩ := trodAll_cons r0
  obtain ⟨v2, vs2, d2, ds2, p2, q2, rfl, rfl, rfl, h2, r2⟩ := trodAll_cons r1
  obtain ⟨rfl, rfl, rfl⟩ := trodAll_nil r2
  obtain rfl : args = #[v0, v1, v2] := by cases args; simp_all
  obtain ⟨rfl, rfl⟩ := trodVars_none hV
  have lt0 : ∀ x ∈ p0, x.block < W.heap.size := by obtain ⟨m, hm⟩ := h0; exact DataW.trod_lt m _ _ _ hm
  have sz0 : ∀ m ∈ d0.weights Try.prog 9, m ≤ reachBytes := fun m hm => of_decide_eq_true (List.all_eq_true.1 hsz m (DataW.weights_mem_each (j := 0) (t := 9) (d := d0) rfl rfl m hm))
  obtain ⟨x0, i0, k0⟩ := up_string Try.underlying9 (hval 0 9 v0 rfl rfl) h0 sz0
  have lt1 : ∀ x ∈ p1, x.block < W.heap.size := by obtain ⟨m, hm⟩ := h1; exact DataW.trod_lt m _ _ _ hm
  have sz1 : ∀ m ∈ d1.weights Try.prog 3, m ≤ reachBytes := fun m hm => of_decide_eq_true (List.all_eq_true.1 hsz m (DataW.weights_mem_each (j := 1) (t := 3) (d := d1) rfl rfl m hm))
  obtain ⟨x1, i1, k1⟩ := up_int Try.underlying3 (hval 1 3 v1 rfl rfl) h1 sz1
  have lt2 : ∀ x ∈ p2, x.block < W.heap.size := by obtain ⟨m, hm⟩ := h2; exact DataW.trod_lt m _ _ _ hm
  have sz2 : ∀ m ∈ d2.weights Try.prog 22, m ≤ reachBytes := fun m hm => of_decide_eq_true (List.all_eq_true.1 hsz m (DataW.weights_mem_each (j := 2) (t := 22) (d := d2) rfl rfl m hm))
  obtain ⟨x2, i2, k2⟩ := up_slice Try.underlying22 dec_s_trouperef_MemStep (hval 2 22 v2 rfl rfl) h2 sz2
  clear hA0 hval0 hsz0
  have hM : MaxL W := Go.Proofs.cell_of_shapedOpen_int (P := Try.prog) (g := 0) (t := 3) (zero := #[.int .i64 0]) hShp (of_decide_eq_true (by kernel_rfl)) (by kernel_rfl) rfl (by kernel_rfl) (by kernel_rfl) Try.underlying3
  refine (law_MemOfs v0 v1 v2 x0 x1 x2 W i0 i1 i2 hM).mono fun e W' ⟨he, bel⟩ => ?_
  subst he
  exact ⟨_, rfl, _, _, _, [], _, [], hW', trodAll_mk1 (shut_bool Try.underlying4 _), (trodAll_cons_mk (Below.trod laidOut (by kernel_rfl) (of_decide_eq_true (by kernel_rfl)) h0 bel lt0) (trodAll_cons_mk (Below.trod laidOut (by kernel_rfl) (of_decide_eq_true (by kernel_rfl)) h1 bel lt1) (trodAll_cons_mk (Below.trod laidOut (by kernel_rfl) (of_decide_eq_true (by kernel_rfl)) h2 bel lt2) trodAll_mk0))), rfl, bel.frame _, fun h => by cases h⟩

theorem over : Rows.memOfsRow.holds Try.pinned (OpenSpec.ofChange Rows.memOfsSpec) :=
  OpenClaim.holds_of_wide 4 Try.f4 rfl rfl rfl rfl rfl rfl rfl ⟨rfl, rfl, rfl, rfl, rfl⟩ rfl rfl rfl rfl rfl (by kernel_rfl) Try.func4 (by kernel_rfl)
    (of_decide_eq_true (by kernel_rfl)) (by unfold Func.isWrapper; first | (rw [if_pos (by decide +kernel)]; kernel_rfl) | (rw [if_neg (by decide +kernel)]; exact ⟨rfl, rfl⟩))
    (fun os started H enc _ => lifted os started H enc)

theorem proved : Rows.MemOfsSaid := over
#print axioms proved
end Go.Proofs.Ytdiiefhklcchmaa.memOfs
