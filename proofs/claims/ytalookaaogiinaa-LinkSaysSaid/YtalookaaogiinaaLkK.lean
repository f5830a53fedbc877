/-
  LINKS, the reference's map of what came early: look-up, store, delete. Conditions: keys in their kind's range; lengths.
-/
import Derived.Test.YtalookaaogiinaaLkM
namespace Go.Proofs.Ytalookaaogiinaa
open Go.RowKit Go.Lib Go.Maps

theorem law_int : Keyed Try.prog 3 := int_keyed Try.underlying3
theorem zero_str (w : World) : (zeroValue 9).run Try.prog w = .ok (.string ByteArray.empty) w := by kernel_rfl
theorem wf_of {i : Int} (h0 : -9223372036854775808 ≤ i) (h1 : i ≤ 9223372036854775807) : (Lit.int .i64 i).wf = true := WalkArith.wf_i64 (by omega)
set_option maxRecDepth 100000 in
theorem KeptS.look {w : World} {M : Nat} {f : Int → Option ByteArray} {c : Nat} (h : KeptS w M f c) (i : Int) (h0 : -9223372036854775808 ≤ i) (h1 : i ≤ 9223372036854775807) :
    (Instr.lookup 46 (.map (some M)) (.int .i64 i) true).run Try.prog w = .ok (.tuple #[.string ((f i).getD ByteArray.empty), .bool (f i).isSome]) w := by
  obtain ⟨D, hown, hD⟩ := h
  obtain ⟨v, ps, hrun, hv⟩ := hown.look_ok law_int Try.underlying46 (zero_str w) (zd := .lit (.string ByteArray.empty.data.toList)) (zp := []) (plainElem_string Try.underlying9 (by decide)) (keyOf_int_mk Try.underlying3 (wf_of h0 h1))
  obtain ⟨e1, e2⟩ := hD i (wf_of h0 h1)
  obtain ⟨s, rfl, hs, _⟩ := plainElem_string_inv Try.underlying9 hv
  rw [hrun, e1]
  have hs := congrArg Prod.fst hs
  simp only at hs
  cases hf : f i with
  | some b =>
    rw [e2 b hf] at hs
    injection hs with hs
    injection hs with hs
    have : b = s := by
      have := congrArg S hs
      rwa [S_of, S_of] at this
    rw [this]
    rfl
  | none =>
    rw [hf] at e1
    rw [atKey_of_not_has (by simpa using e1)] at hs
    injection hs with hs
    injection hs with hs
    have : ByteArray.empty = s := by
      have := congrArg S hs
      rwa [S_of, S_of] at this
    rw [← this]
    rfl
set_option maxRecDepth 100000 in
theorem KeptS.put {w : World} {M : Nat} {f : Int → Option ByteArray} {c : Nat} (h : KeptS w M f c) (hc : c < maxLen) (i : Int) (h0 : -9223372036854775808 ≤ i) (h1 : i ≤ 9223372036854775807) (b : ByteArray) (hb : b.size ≤ maxLen) :
    ∃ w', (Instr.mapUpdate 46 (.map (some M)) (.int .i64 i) (.string b)).run Try.prog w = .ok () w' ∧ KeptS w' M (upd f i (some b)) (c + 1) ∧ w.mapTurned w' M := by
  obtain ⟨D, hown, hD⟩ := h
  obtain ⟨w', hrun, hown', ht⟩ := hown.store law_int Try.underlying46 hc (keyOf_int_mk Try.underlying3 (wf_of h0 h1)) (plainElem_string Try.underlying9 hb)
  refine ⟨w', hrun, ⟨_, hown', fun j hj => ?_⟩, ht⟩
  by_cases e : j = i
  · subst e
    rw [upd_same]
    refine ⟨has_put_same hown.isMap (by first | exact trivial | simp [WideAt.IsKeyLit]) _, fun b2 hb2 z => ?_⟩
    injection hb2 with hb2
    subst hb2
    exact atKey_put_same hown.isMap (by first | exact trivial | simp [WideAt.IsKeyLit]) _ _
  · have hne : (Lit.int .i64 j) ≠ .int .i64 i := fun g => e (by injection g)
    rw [upd_ne _ _ _ _ e, has_put_other hne]
    refine ⟨(hD j hj).1, fun b2 hb2 z => ?_⟩
    rw [atKey_put_other hne]
    exact (hD j hj).2 b2 hb2 z
set_option maxRecDepth 100000 in
theorem KeptS.del {w : World} {M : Nat} {f : Int → Option ByteArray} {c : Nat} (h : KeptS w M f c) (i : Int) (h0 : -9223372036854775808 ≤ i) (h1 : i ≤ 9223372036854775807) :
    ∀ ty, ∃ w', (Builtin.delete_ #[46, 3] ty #[.map (some M), .int .i64 i]).run Try.prog w = .ok (.tuple #[]) w' ∧ KeptS w' M (upd f i none) c ∧ w.mapTurned w' M := by
  intro ty
  obtain ⟨D, hown, hD⟩ := h
  obtain ⟨w', hrun, hown', ht⟩ := hown.drop law_int Try.underlying46 (keyOf_int_mk Try.underlying3 (wf_of h0 h1)) ty
  refine ⟨w', hrun, ⟨_, hown', fun j hj => ?_⟩, ht⟩
  by_cases e : j = i
  · subst e
    rw [upd_same]
    exact ⟨has_del_same, fun b2 hb2 => by simp at hb2⟩
  · have hne : (Lit.int .i64 j) ≠ .int .i64 i := fun g => e (by injection g)
    rw [upd_ne _ _ _ _ e, has_del_other hne]
    refine ⟨(hD j hj).1, fun b2 hb2 z => ?_⟩
    rw [atKey_del_other hne]
    exact (hD j hj).2 b2 hb2 z
/-- the object, its map turned -/
theorem REB.turn {w w' : World} {base B : Nat} {p : RV} {s : RE} (h : REB w base B p s) (ht : w.mapTurned w' p.M) {f : Int → Option ByteArray} {c : Nat} (hk : KeptS w' p.M f c) : REB w' base B p { s with kept := f, cnt := c } := by
  have hg := ht.grown
  have hnM : ∀ {e : TypeId} {v : Value} {n : Nat} {cs : List Value}, w.ownsRow base e 1 v n cs → ∀ k, v.ownBlock = some k → k ≠ p.M := by
    intro e v n cs ho k hk2 e2
    obtain ⟨cur, fr, h2⟩ := own_tyL ho hk2
    obtain ⟨_, ⟨es, c3, h1, _⟩, _⟩ := h.rm
    rw [e2, h1] at h2
    simp at h2
  have hs := hg.size
  refine ⟨h.blk.same (hg.block B h.blk.lt (fun e => h.ne.2.2.2 (by injection e with e; exact e.symm))), ?_, ?_, ?_, hk, h.ap, h.le, h.lm, Nat.le_trans h.base hs⟩
  · exact own_same h.ro (fun k hk2 => hg.block k (World.ownsRow.lt h.ro k hk2).2 (fun e => hnM h.ro k hk2 (by injection e)))
  · exact own_same h.rs (fun k hk2 => hg.block k (World.ownsRow.lt h.rs k hk2).2 (fun e => hnM h.rs k hk2 (by injection e)))
  · exact own_same h.rc (fun k hk2 => hg.block k (World.ownsRow.lt h.rc k hk2).2 (fun e => hnM h.rc k hk2 (by injection e)))
theorem turned_touch {F : Nat → Prop} {w w' : World} {M : Nat} (ht : w.mapTurned w' M) (hF : F M) : Touch F w w' := Touch.grown (F := F) ht.grown (fun k hk => by injection hk with hk; exact hk ▸ hF)
end Go.Proofs.Ytalookaaogiinaa
