/-
  THE LAW NestSays: Check, Match and Write of bodies are the reference's. Condition: the library's variable that strings.Contains reads holds some number.
-/
import Derived.Test.YtomaiolhaenmhaaNsU
import Derived.Test.YtomaiolhaenmhaaEqs
import Derived.Test.YtomaiolhaenmhaaDecN
import Derived.Test.YtomaiolhaenmhaaLawK
namespace Go.Proofs.Ytomaiolhaenmhaa
open Go.RowKit Go.Lib

theorem i64s_ofN {W : World} {v : Value} {zs : List Int} (h : sliceR W 1 8 (intR .i64) [v] zs) : Ints W .i64 v zs := by
  have hf := slice_flat (fun z => [Value.int .i64 z]) (fun z => -9223372036854775808 ≤ z ∧ z ≤ 9223372036854775807) (fun cs z h => by
    obtain ⟨rfl, w⟩ := h
    exact ⟨rfl, wf_i64 w⟩) h
  have h1 : Sl W v zs.length (zs.flatMap fun z => [Value.int .i64 z]) := hf.1
  have e : (zs.flatMap fun z => [Value.int .i64 z]) = zs.map (Value.int .i64) := by
    clear h hf h1
    induction zs with
    | nil => rfl
    | cons z r ih => rw [List.flatMap_cons, ih]; rfl
  rw [e] at h1
  exact h1
def itOf (y : D_api_Ins) : It := ⟨y.1.toNat, y.2.1, y.2.2.1, y.2.2.2.1⟩
theorem body_of {W : World} {v : Value} {ys : List D_api_Ins} (h : R_s_api_Ins W [v] ys) : BodS W v (ys.map itOf) ∧ ∀ x ∈ ys.map itOf, ItOk x := by
  obtain ⟨v', css, hv, hsl, hl, hb, hel⟩ := h
  simp only [List.cons.injEq, and_true] at hv
  subst hv
  have key : ∀ i (h1 : i < css.length) (h2 : i < ys.length), ItAt W css[i] (itOf ys[i]) ∧ ItOk (itOf ys[i]) := by
    intro i h1 h2
    obtain ⟨_, hr⟩ := hel i h1 h2
    generalize css[i] = cs at *
    generalize ys[i] = y at *
    obtain ⟨op, A, B, xs, u⟩ := y
    obtain ⟨_, _, rfl, ⟨rfl, w0⟩, _, _, rfl, ⟨rfl, w1⟩, _, _, rfl, ⟨rfl, w2⟩, c3, _, rfl, hs, rfl⟩ := hr
    have hs2 := hs
    obtain ⟨v2, _, rfl, _⟩ := hs
    have h0 : 0 ≤ op ∧ op < 256 := by simp [Lit.wf, IntKind.min, IntKind.max, IntKind.signed, IntKind.bits] at w0; omega
    obtain ⟨n, rfl⟩ := Int.eq_ofNat_of_zero_le h0.1
    exact ⟨⟨v2, rfl, i64s_ofN hs2⟩, by show ((n : Int).toNat : Nat) < 256; rw [Int.toNat_natCast]; omega, wf_i64 w1⟩
  refine ⟨⟨css, by rw [List.length_map]; exact hl, by rw [List.length_map]; exact hsl, fun i h1 h2 => ?_⟩, ?_⟩
  · rw [List.getElem_map]
    exact (key i h1 (by simpa using h2)).1
  · intro x hx
    obtain ⟨y, hy, rfl⟩ := List.mem_map.1 hx
    obtain ⟨i, hi, rfl⟩ := List.getElem_of_mem hy
    exact (key i (by omega) hi).2
set_option maxRecDepth 100000 in
set_option maxHeartbeats 4000000 in
theorem law_NestSays (v0 : Value) (x0 : D_s_api_Ins) (W : World) (i0 : R_s_api_Ins W [v0] x0) (hM : MaxL W) :
    Calls Try.prog 10 #[v0] W fun e w' => e = .returned (.bool true) ∧ Below W.heap.size W w' := by
  obtain ⟨hb, hok⟩ := body_of i0
  clear i0
  generalize x0.map itOf = l at *
  have C1 := hid (nmatch_any W v0 l hok hb)
  have C2 := hid (fun w' (h : Below W.heap.size W w') => rnmatch_any w' v0 l hok (hb.below h) (hM.below h))
  have C3 := hid (fun w' (h : Below W.heap.size W w') => nwrite_any w' v0 l hok (hb.below h))
  have C4 := hid (fun w' (h : Below W.heap.size W w') => rnwrite_any w' v0 l hok (hb.below h) (hM.below h))
  have C5 := hid (fun w' (h : Below W.heap.size W w') => ncheck_any w' v0 l hok (hb.below h))
  obtain ⟨css, _, ⟨ao, cap, rfl, _⟩, _⟩ := hb
  generalize (if ncM l = 0 then (mkM l).1 else []) = P at *
  generalize (if ncM l = 0 then (mkM l).2 else []) = Q at *
  generalize ncM l = E at *
  generalize nwM l = T at *
  clear hok hM
  go_enter Try.func10, Try.ntmps10
  go_wp2_with fail
  refine C1.out.mono ?_
  rintro e w1 ⟨va, vb, rfl, g1, g2, b1⟩
  have A1 := hid (And.intro g1 g2)
  have B1 := hid b1
  clear g1 g2 b1
  go_wp2_with fail
  refine (C2.out _ B1.out).mono ?_
  rintro e w2 ⟨vc, vd, rfl, g1, g2, b2⟩
  have A2 := hid (And.intro g1 g2)
  have A12 := hid (And.intro (L1.below A1.out.1 b2) (L1.below A1.out.2 b2))
  have B2 := hid (B1.out.trans (b2.mono B1.out.size))
  clear g1 g2 b2
  go_wp2_with fail
  refine (C3.out _ B2.out).mono ?_
  rintro e w3 ⟨rfl, b3⟩
  have B3 := hid (B2.out.trans (b3.mono B2.out.size))
  have A23 := hid (And.intro (L1.below A2.out.1 b3) (L1.below A2.out.2 b3))
  have A13 := hid (And.intro (L1.below A12.out.1 b3) (L1.below A12.out.2 b3))
  clear b3
  go_wp2_with fail
  refine (C4.out _ B3.out).mono ?_
  rintro e w4 ⟨rfl, b4⟩
  have B4 := hid (B3.out.trans (b4.mono B3.out.size))
  have H1 := hid (eq_int va vc P P w4 (L1.below A13.out.1 b4) (L1.below A23.out.1 b4))
  have H2 := hid (eq_int vb vd Q Q w4 (L1.below A13.out.2 b4) (L1.below A23.out.2 b4))
  rw [decide_eq_true rfl] at H1 H2
  clear b4
  go_wp2_with (first | (go_at_call 38; first | (with_reducible refine H1.out.mono ?_; rintro r w5 ⟨rfl, rfl⟩) | (with_reducible refine H2.out.mono ?_; rintro r w5 ⟨rfl, rfl⟩)) | (go_at_call 65; refine (C5.out _ B4.out).mono ?_; rintro r w6 ⟨rfl, b6⟩; have B6 := hid (B4.out.trans (b6.mono B4.out.size)); clear b6))
  go_ret
  exact ⟨rfl, B6.out⟩
end Go.Proofs.Ytomaiolhaenmhaa
