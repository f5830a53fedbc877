/-
  FROM THE ROW's READING OF AN ARGUMENT TO WHAT A WALK IS TOLD OF IT, a lemma for each type. No condition.
-/
import Derived.Test.YtbjhedfgnocflaaBase
import Derived.ProofKit
import Derived.OpenShut
import Derived.ShutString
import Derived.SizedLaws
namespace Go.Proofs.Ytbjhedfgnocflaa
open Go.ChangeShapes Go.WideShapes Go.ChangeAt Go.RowKit
open Go.ChangeMaps (open_string shut_string)

/-- an integer of a kind -/
def IsInt (k : IntKind) (_ : World) (v : Value) (x : Int) : Prop := v = .int k x ∧ (Lit.int k x).wf = true
def IsStr (_ : World) (v : Value) (x : ByteArray) : Prop := v = .string x ∧ x.size ≤ 140737488351232
def IsBool (_ : World) (v : Value) (x : Bool) : Prop := v = .bool x

set_option maxRecDepth 100000
section
variable {H : Type} {enc : TypeId × Value → H} {W : World} {base : Nat} {v : Value} {d : DataW H} {p : List MemPlace}

theorem op_int (hv : Value.okWide Try.prog W .any base 3 v) (h : DataW.Trod enc Try.prog W 0 (fun _ => true) true 3 v d p) (_ : ∀ m ∈ d.weights Try.prog 3, m ≤ reachBytes) : ∃ x, IsInt .i64 W v x := by
  obtain ⟨x, rfl, rfl, rfl, w⟩ := open_int Try.underlying3 hv h
  exact ⟨x, rfl, w⟩
theorem op_int64 (hv : Value.okWide Try.prog W .any base 2 v) (h : DataW.Trod enc Try.prog W 0 (fun _ => true) true 2 v d p) (_ : ∀ m ∈ d.weights Try.prog 2, m ≤ reachBytes) : ∃ x, IsInt .i64 W v x := by
  obtain ⟨x, rfl, rfl, rfl, w⟩ := open_int Try.underlying2 hv h
  exact ⟨x, rfl, w⟩
theorem op_uint64 (hv : Value.okWide Try.prog W .any base 30 v) (h : DataW.Trod enc Try.prog W 0 (fun _ => true) true 30 v d p) (_ : ∀ m ∈ d.weights Try.prog 30, m ≤ reachBytes) : ∃ x, IsInt .u64 W v x := by
  obtain ⟨x, rfl, rfl, rfl, w⟩ := open_int Try.underlying30 hv h
  exact ⟨x, rfl, w⟩
theorem op_byte (hv : Value.okWide Try.prog W .any base 5 v) (h : DataW.Trod enc Try.prog W 0 (fun _ => true) true 5 v d p) (_ : ∀ m ∈ d.weights Try.prog 5, m ≤ reachBytes) : ∃ x, IsInt .u8 W v x := by
  obtain ⟨x, rfl, rfl, rfl, w⟩ := open_int Try.underlying5 hv h
  exact ⟨x, rfl, w⟩
theorem op_string (hv : Value.okWide Try.prog W .any base 9 v) (h : DataW.Trod enc Try.prog W 0 (fun _ => true) true 9 v d p) (hs : ∀ m ∈ d.weights Try.prog 9, m ≤ reachBytes) : ∃ x, IsStr W v x := by
  obtain ⟨x, rfl, rfl, rfl, w⟩ := open_string Try.underlying9 hv h
  have := hs x.data.toList.length (by simp [DataW.weights])
  exact ⟨x, rfl, by simpa [reachBytes] using this⟩

/-- a slice of integers, whose length is in the form's reach -/
def IsInts (k : IntKind) (bytes : Nat) (w : World) (v : Value) (xs : List Int) : Prop := Ints w k v xs ∧ (∀ x ∈ xs, (Lit.int k x).wf = true) ∧ xs.length * bytes ≤ 140737488351232

theorem cells_at {w : World} {a : Addr} {zs : List Value} (h : ∀ i, i < zs.length → w.cell? (a.add i) = some (zs.getD i undef)) (l : Nat) :
    zs.take l = [] ∨ ∃ b off, a = ⟨b, off, none⟩ ∧ At w b off (zs.take l) := by
  cases hz : zs.take l with
  | nil => exact .inl rfl
  | cons z r =>
    have h0 := h 0 (by cases zs with | nil => simp at hz | cons => simp)
    obtain ⟨b, off, spot⟩ := a
    have : spot = none := by
      cases spot with
      | none => rfl
      | some s => simp [Addr.add, World.cell?] at h0; split at h0 <;> simp at h0
    subst this
    refine .inr ⟨b, off, rfl, ?_⟩
    rw [← hz]
    intro j hj
    have hj' : j < zs.length := by simp at hj; omega
    have := h j hj'
    have hplain : (⟨b, off, none⟩ : Addr).add j = ⟨b, off + j, none⟩ := by unfold Addr.add; split <;> simp_all
    rw [hplain] at this
    rw [this, List.getElem_take, List.getD_eq_getElem?_getD, List.getElem?_eq_getElem hj']
    rfl

theorem open_ints_gen {T E bytes : Nat} {k : IntKind} (hT : Try.prog.underlying T = some (.slice E)) (hE : Try.prog.underlying E = some (.int k)) (hc : Try.prog.cellsOf E = 1) (hb : Try.prog.bytesOf E = bytes)
    (hv : Value.okWide Try.prog W .any base T v) (h : DataW.Trod enc Try.prog W 0 (fun _ => true) true T v d p) (hs : ∀ m ∈ d.weights Try.prog T, m ≤ reachBytes) : ∃ xs, IsInts k bytes W v xs := by
  obtain ⟨a0, len0, cap0, rfl⟩ := okWide_slice hT hv
  obtain ⟨fuel, hf⟩ := h
  rcases open_ints hT hE hc hf with ⟨hcs, _⟩ | ⟨x, l, c, zs, hcs, _, hl, hm, hz, hx, hcell, hwz⟩
  · simp [Value.cells] at hcs
    obtain ⟨rfl, rfl, rfl⟩ := hcs
    exact ⟨[], ⟨none, 0, rfl, by simp, by simp, by simp, .inl rfl⟩, by simp, by simp⟩
  · simp [Value.cells] at hcs
    obtain ⟨rfl, rfl, rfl⟩ := hcs
    have hd : d = .slice (lits k (zs.take len0)) (lits k (zs.drop len0)) := by
      have := congrArg Prod.fst hx; simpa using this
    have hz' : zs.length = cap0 := by simpa using hz
    have hlen : (zs.take len0).length = len0 := by simp; omega
    refine ⟨zs.take len0, ?_, fun n hn => hwz n (List.mem_of_mem_take hn), ?_⟩
    · refine ⟨some x, cap0, by rw [hlen], by rw [hlen]; exact hl, by unfold maxLen at hm; omega, by simp, ?_⟩
      have := cells_at (w := W) (a := x) (zs := zs.map (Value.int k)) (fun i hi => by
        have hi' : i < zs.length := by simpa using hi
        rw [hcell i hi', List.getD_eq_getElem?_getD, List.getD_eq_getElem?_getD, List.getElem?_map, List.getElem?_eq_getElem hi']; rfl) len0
      rw [← List.map_take] at this
      rcases this with h | ⟨b, off, rfl, hat⟩
      · exact .inl h
      · exact .inr ⟨b, off, rfl, hat⟩
    · have := hs ((zs.take len0).length * bytes + (zs.drop len0).length * bytes) (by rw [hd]; simp [DataW.weights, hT, hb, lits, Nat.add_mul])
      have hr : reachBytes = 140737488351232 := rfl
      rw [hr] at this
      omega

theorem op_s_int (hv : Value.okWide Try.prog W .any base 24 v) (h : DataW.Trod enc Try.prog W 0 (fun _ => true) true 24 v d p) (hs : ∀ m ∈ d.weights Try.prog 24, m ≤ reachBytes) : ∃ xs, IsInts .i64 8 W v xs :=
  open_ints_gen Try.underlying24 Try.underlying3 (by kernel_rfl) (by kernel_rfl) hv h hs
end
end Go.Proofs.Ytbjhedfgnocflaa
