/-
  SameImage, SameState: what reads alike is the same. Conditions: readings.
-/
import Derived.Test.YtpapblahnbeccaaSaC
import Derived.Test.YtpapblahnbeccaaEqs
import Derived.Test.YtpapblahnbeccaaEq64
import Derived.Test.YtpapblahnbeccaaRsM
namespace Go.Proofs.Ytpapblahnbeccaa
open Go.RowKit Go.Lib

set_option maxRecDepth 100000 in
set_option maxHeartbeats 1000000 in
theorem sameImage_any (w : World) (mem : ByteArray) (vt vg ut ug : Value) (tab glob : List Int) (h1 : Ints w .i64 vt tab) (h2 : Ints w .i64 vg glob) (h3 : Ints w .i64 ut tab) (h4 : Ints w .i64 ug glob) :
    Calls Try.prog 66 #[.agg #[.string mem, vt, vg], .agg #[.string mem, ut, ug]] w fun e w' => e = .returned (.bool true) ∧ Below w.heap.size w w' := by
  have hb : Below w.heap.size w ((w.alloc (.cells #[.string mem, vt, vg] 114)).alloc (.cells #[.string mem, ut, ug] 114)) := ((Below.refl _ _).alloc (Nat.le_refl _) _).alloc (by simp) _
  have e1 := eq_int vt ut tab tab _ (L1.below h1 hb) (L1.below h3 hb)
  have e2 := eq_int64 vg ug glob glob _ (L1.below h2 hb) (L1.below h4 hb)
  rw [decide_eq_true rfl] at e1 e2
  have E1 := hid e1
  have E2 := hid e2
  have HB := hid hb
  obtain ⟨_, _, rfl, _⟩ := h1
  obtain ⟨_, _, rfl, _⟩ := h2
  obtain ⟨_, _, rfl, _⟩ := h3
  obtain ⟨_, _, rfl, _⟩ := h4
  clear e1 e2 hb
  go_enter Try.func66, Try.ntmps66
  go_wp2_with fail
  refine E1.out.mono ?_
  rintro e w1 ⟨rfl, rfl⟩
  go_wp2_with fail
  refine E2.out.mono ?_
  rintro e w1 ⟨rfl, rfl⟩
  go_wp2_with fail
  go_ret
  exact ⟨rfl, HB.out⟩

set_option maxRecDepth 100000 in
set_option maxHeartbeats 1000000 in
theorem sameCall_any (w : World) (ca cb : List Value) (c : Cal) (h1 : CalAt w ca c) (h2 : CalAt w cb c) :
    Calls Try.prog 133 #[.agg ca.toArray, .agg cb.toArray] w fun e w' => e = .returned (.bool true) ∧ Below w.heap.size w w' := by
  obtain ⟨vl, vs, rfl, i1, i2⟩ := h1
  obtain ⟨ul, us, rfl, i3, i4⟩ := h2
  have hb : Below w.heap.size w ((w.alloc (.cells #[.int .i64 c.fn, .int .i64 c.pc, vl, vs] 216)).alloc (.cells #[.int .i64 c.fn, .int .i64 c.pc, ul, us] 216)) := ((Below.refl _ _).alloc (Nat.le_refl _) _).alloc (by simp) _
  have e1 := eq_int64 vl ul _ _ _ (L1.below i1 hb) (L1.below i3 hb)
  have e2 := eq_int64 vs us _ _ _ (L1.below i2 hb) (L1.below i4 hb)
  rw [decide_eq_true rfl] at e1 e2
  have E1 := hid e1
  have E2 := hid e2
  have HB := hid hb
  obtain ⟨_, _, rfl, _⟩ := i1
  obtain ⟨_, _, rfl, _⟩ := i2
  obtain ⟨_, _, rfl, _⟩ := i3
  obtain ⟨_, _, rfl, _⟩ := i4
  clear e1 e2 hb
  go_enter Try.func133, Try.ntmps133
  go_wp2_with fail
  refine E1.out.mono ?_
  rintro e w1 ⟨rfl, rfl⟩
  go_wp2_with fail
  refine E2.out.mono ?_
  rintro e w1 ⟨rfl, rfl⟩
  go_wp2_with fail
  go_ret
  exact ⟨rfl, HB.out⟩

set_option maxRecDepth 100000 in
set_option maxHeartbeats 1000000 in
theorem sameState_any (w : World) (va vb : Value) (n : Int) (calls : List Cal) (h1 : CallsS w va calls) (h2 : CallsS w vb calls) :
    Calls Try.prog 67 #[.agg #[va, .int .i64 n], .agg #[vb, .int .i64 n]] w fun e w' => e = .returned (.bool true) ∧ Below w.heap.size w w' := by
  have hb : Below w.heap.size w ((w.alloc (.cells #[va, .int .i64 n] 117)).alloc (.cells #[vb, .int .i64 n] 117)) := ((Below.refl _ _).alloc (Nat.le_refl _) _).alloc (by simp) _
  have HB := hid hb
  obtain ⟨ca, a1, a2, a3⟩ := h1
  obtain ⟨cb, b1, b2, b3⟩ := h2
  have e1 := sameAll_SaC ((w.alloc (.cells #[va, .int .i64 n] 117)).alloc (.cells #[vb, .int .i64 n] 117)) va vb ca cb (by omega)
    (fun c hc => by obtain ⟨i, hi, rfl⟩ := List.getElem_of_mem hc; obtain ⟨_, _, e, _⟩ := a3 i hi (by omega); rw [e]; rfl)
    (fun c hc => by obtain ⟨i, hi, rfl⟩ := List.getElem_of_mem hc; obtain ⟨_, _, e, _⟩ := b3 i hi (by omega); rw [e]; rfl)
    (by rw [a1]; exact a2.below hb) (by rw [b1]; exact b2.below hb)
    (fun i g1 g2 w' hw => sameCall_any w' _ _ calls[i] (((a3 i g1 (by omega)).below hb).below hw) (((b3 i g2 (by omega)).below hb).below hw))
  have E1 := hid e1
  obtain ⟨_, _, rfl, _⟩ := a2
  obtain ⟨_, _, rfl, _⟩ := b2
  clear e1 hb
  go_enter Try.func67, Try.ntmps67
  go_wp2_with fail
  refine E1.out.mono ?_
  rintro e w1 ⟨rfl, h1⟩
  go_wp2_with fail
  go_ret
  exact ⟨rfl, HB.out.trans (h1.mono HB.out.size)⟩
end Go.Proofs.Ytpapblahnbeccaa
