/-
  FROM THE ROW's READING OF AN ARGUMENT TO WHAT A WALK IS TOLD OF IT, a lemma for each type. No condition.
-/
import Derived.Test.YtbjhedfgnocflaaBase
import Derived.ProofKit
import Derived.OpenShut
import Derived.ShutString
import Derived.SizedLaws
namespace Go.Proofs.Ytbjhedfgnocflaa
open Go.ChangeShapes Go.WideShapes Go.ChangeAt Go.RowKit
open Go.ChangeMaps (open_string shut_string)

/-- an integer of a kind -/
def IsInt (k : IntKind) (_ : World) (v : Value) (x : Int) : Prop := v = .int k x ∧ (Lit.int k x).wf = true
def IsStr (_ : World) (v : Value) (x : ByteArray) : Prop := v = .string x ∧ x.size ≤ 140737488351232
def IsBool (_ : World) (v : Value) (x : Bool) : Prop := v = .bool x

set_option maxRecDepth 100000
section
variable {H : Type} {enc : TypeId × Value → H} {W : World} {base : Nat} {v : Value} {d : DataW H} {p : List MemPlace}

theorem op_int (hv : Value.okWide Try.prog W .any base 3 v) (h : DataW.Trod enc Try.prog W 0 (fun _ => true) true 3 v d p) (_ : ∀ m ∈ d.weights Try.prog 3, m ≤ reachBytes) : ∃ x, IsInt .i64 W v x := by
  obtain ⟨x, rfl, rfl, rfl, w⟩ := open_int Try.underlying3 hv h
  exact ⟨x, rfl, w⟩
theorem op_int64 (hv : Value.okWide Try.prog W .any base 2 v) (h : DataW.Trod enc Try.prog W 0 (fun _ => true) true 2 v d p) (_ : ∀ m ∈ d.weights Try.prog 2, m ≤ reachBytes) : ∃ x, IsInt .i64 W v x := by
  obtain ⟨x, rfl, rfl, rfl, w⟩ := open_int Try.underlying2 hv h
  exact ⟨x, rfl, w⟩
theorem op_uint64 (hv : Value.okWide Try.prog W .any base 30 v) (h : DataW.Trod enc Try.prog W 0 (fun _ => true) true 30 v d p) (_ : ∀ m ∈ d.weights Try.prog 30, m ≤ reachBytes) : ∃ x, IsInt .u64 W v x := by
  obtain ⟨x, rfl, rfl, rfl, w⟩ := open_int Try.underlying30 hv h
  exact ⟨x, rfl, w⟩
theorem op_byte (hv : Value.okWide Try.prog W .any base 5 v) (h : DataW.Trod enc Try.prog W 0 (fun _ => true) true 5 v d p) (_ : ∀ m ∈ d.weights Try.prog 5, m ≤ reachBytes) : ∃ x, IsInt .u8 W v x := by
  obtain ⟨x, rfl, rfl, rfl, w⟩ := open_int Try.underlying5 hv h
  exact ⟨x, rfl, w⟩
theorem op_string (hv : Value.okWide Try.prog W .any base 9 v) (h : DataW.Trod enc Try.prog W 0 (fun _ => true) true 9 v d p) (hs : ∀ m ∈ d.weights Try.prog 9, m ≤ reachBytes) : ∃ x, IsStr W v x := by
  obtain ⟨x, rfl, rfl, rfl, w⟩ := open_string Try.underlying9 hv h
  have := hs x.data.toList.length (by simp [DataW.weights])
  exact ⟨x, rfl, by simpa [reachBytes] using this⟩
end
end Go.Proofs.Ytbjhedfgnocflaa
