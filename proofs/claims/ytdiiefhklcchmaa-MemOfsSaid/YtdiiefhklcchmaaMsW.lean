/-
  MEMORIES: what both laws over them share: a step as it lies in memory, both memories when they are new. No condition.
-/
import Derived.Test.YtdiiefhklcchmaaMsS
import Derived.Test.YtdiiefhklcchmaaDecM
namespace Go.Proofs.Ytdiiefhklcchmaa
open Go.RowKit Go.Lib

def encMs (y : D_trouperef_MemStep) : List Value := [.int .i64 y.1, .int .u8 y.2.1, .int .i64 y.2.2.1, .int .i64 y.2.2.2.1, .int .i64 y.2.2.2.2.1, .string y.2.2.2.2.2.1]
theorem encMs_len (y : D_trouperef_MemStep) : (encMs y).length = 6 := rfl
theorem wf_u8 {n : Int} (h : (Lit.int .u8 n).wf = true) : 0 ≤ n ∧ n ≤ 255 := by
  simpa [Lit.wf, IntKind.min, IntKind.max, IntKind.signed, IntKind.bits] using h
def okMs (y : D_trouperef_MemStep) : Prop := (-9223372036854775808 ≤ y.1 ∧ y.1 ≤ 9223372036854775807) ∧ (0 ≤ y.2.1 ∧ y.2.1 ≤ 255) ∧ (-9223372036854775808 ≤ y.2.2.2.2.1 ∧ y.2.2.2.2.1 ≤ 9223372036854775807)
theorem ms_open {W : World} (cs : List Value) (y : D_trouperef_MemStep) (h : R_trouperef_MemStep W cs y) : cs = encMs y ∧ okMs y := by
  obtain ⟨_, _, rfl, ⟨rfl, w1⟩, _, _, rfl, ⟨rfl, w2⟩, _, _, rfl, ⟨rfl, _⟩, _, _, rfl, ⟨rfl, _⟩, _, _, rfl, ⟨rfl, w3⟩, _, _, rfl, ⟨rfl, _⟩, rfl⟩ := h
  exact ⟨rfl, wf_i64 w1, wf_u8 w2, wf_i64 w3⟩
theorem MR.mono {w : World} {base b B g cap : Nat} {most : Int} {m : List Int} (h : MR w base B g cap most m) (hb : b ≤ base) : MR w b B g cap most m := ⟨h.blk, h.own.mono hb, h.ne, Nat.le_trans hb h.le⟩
theorem inv_new {w1 w2 : World} {base B1 B2 g cap p : Nat} {v : Value} {most : Int} {m : List Int} (h1 : MP w1 base B1 v p most m) (hb : Below w1.heap.size w1 w2) (h2 : MR w2 w1.heap.size B2 g cap most m) (hk : OkM p most m) (hs : base ≤ w1.heap.size) : InvM w2 base B1 B2 := by
  refine ⟨⟨v, g, cap, p, most, m, ⟨(h1.below hb).part, (h2.mono hs).part, fun k hk1 hk2 => ?_⟩, hk⟩⟩
  have e1 := (h1.part.lt k hk1).2
  have e2 := (h2.part.lt k hk2).1
  omega

end Go.Proofs.Ytdiiefhklcchmaa
