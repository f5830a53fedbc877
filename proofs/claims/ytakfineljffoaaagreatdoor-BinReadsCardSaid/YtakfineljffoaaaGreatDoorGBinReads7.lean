/-
  FROM THE ROW's READING OF AN ARGUMENT TO WHAT A WALK IS TOLD OF IT, a lemma for each type. No condition.
-/
import Derived.Test.YtakfineljffoaaaGreatDoorGBinReads1
import Derived.Test.YtakfineljffoaaaGreatDoorGBinReads2
import Derived.ProofKit
import Derived.OpenShut
import Derived.ShutString
import Derived.SizedLaws
import Derived.Deep.Slices
namespace Go.Proofs.YtakfineljffoaaaGreatDoor
open Go.ChangeShapes Go.WideShapes Go.ChangeAt Go.RowKit
open Go.ChangeMaps (open_string shut_string)

/-- an integer of a kind -/
def IsInt (k : IntKind) (_ : World) (v : Value) (x : Int) : Prop := v = .int k x ∧ (Lit.int k x).wf = true
def IsStr (_ : World) (v : Value) (x : ByteArray) : Prop := v = .string x ∧ x.size ≤ 140737488351232
def IsBool (_ : World) (v : Value) (x : Bool) : Prop := v = .bool x

set_option maxRecDepth 100000
section
variable {H : Type} {enc : TypeId × Value → H} {W : World} {base : Nat} {v : Value} {d : DataW H} {p : List MemPlace}

theorem op_int (hv : Value.okWide Tryz.prog W .any base 3 v) (h : DataW.Trod enc Tryz.prog W 0 (fun _ => true) true 3 v d p) (_ : ∀ m ∈ d.weights Tryz.prog 3, m ≤ reachBytes) : ∃ x, IsInt .i64 W v x := by
  obtain ⟨x, rfl, rfl, rfl, w⟩ := open_int Tryz.underlying3 hv h
  exact ⟨x, rfl, w⟩
theorem op_int64 (hv : Value.okWide Tryz.prog W .any base 2 v) (h : DataW.Trod enc Tryz.prog W 0 (fun _ => true) true 2 v d p) (_ : ∀ m ∈ d.weights Tryz.prog 2, m ≤ reachBytes) : ∃ x, IsInt .i64 W v x := by
  obtain ⟨x, rfl, rfl, rfl, w⟩ := open_int Tryz.underlying2 hv h
  exact ⟨x, rfl, w⟩
theorem op_uint64 (hv : Value.okWide Tryz.prog W .any base 139 v) (h : DataW.Trod enc Tryz.prog W 0 (fun _ => true) true 139 v d p) (_ : ∀ m ∈ d.weights Tryz.prog 139, m ≤ reachBytes) : ∃ x, IsInt .u64 W v x := by
  obtain ⟨x, rfl, rfl, rfl, w⟩ := open_int Tryz.underlying139 hv h
  exact ⟨x, rfl, w⟩
theorem op_byte (hv : Value.okWide Tryz.prog W .any base 5 v) (h : DataW.Trod enc Tryz.prog W 0 (fun _ => true) true 5 v d p) (_ : ∀ m ∈ d.weights Tryz.prog 5, m ≤ reachBytes) : ∃ x, IsInt .u8 W v x := by
  obtain ⟨x, rfl, rfl, rfl, w⟩ := open_int Tryz.underlying5 hv h
  exact ⟨x, rfl, w⟩
theorem op_string (hv : Value.okWide Tryz.prog W .any base 9 v) (h : DataW.Trod enc Tryz.prog W 0 (fun _ => true) true 9 v d p) (hs : ∀ m ∈ d.weights Tryz.prog 9, m ≤ reachBytes) : ∃ x, IsStr W v x := by
  obtain ⟨x, rfl, rfl, rfl, w⟩ := open_string Tryz.underlying9 hv h
  have := hs x.data.toList.length (by simp [DataW.weights])
  exact ⟨x, rfl, by simpa [reachBytes] using this⟩

/-- a slice of integers, whose length is in the form's reach -/
def IsInts (k : IntKind) (bytes : Nat) (w : World) (v : Value) (xs : List Int) : Prop := Ints w k v xs ∧ (∀ x ∈ xs, (Lit.int k x).wf = true) ∧ xs.length * bytes ≤ 140737488351232

theorem cells_at {w : World} {a : Addr} {zs : List Value} (h : ∀ i, i < zs.length → w.cell? (a.add i) = some (zs.getD i undef)) (l : Nat) :
    zs.take l = [] ∨ ∃ b off, a = ⟨b, off, none⟩ ∧ At w b off (zs.take l) := by
  cases hz : zs.take l with
  | nil => exact .inl rfl
  | cons z r =>
    have h0 := h 0 (by cases zs with | nil => simp at hz | cons => simp)
    obtain ⟨b, off, spot⟩ := a
    have : spot = none := by
      cases spot with
      | none => rfl
      | some s => simp [Addr.add, World.cell?] at h0; split at h0 <;> simp at h0
    subst this
    refine .inr ⟨b, off, rfl, ?_⟩
    rw [← hz]
    intro j hj
    have hj' : j < zs.length := by simp at hj; omega
    have := h j hj'
    have hplain : (⟨b, off, none⟩ : Addr).add j = ⟨b, off + j, none⟩ := by unfold Addr.add; split <;> simp_all
    rw [hplain] at this
    rw [this, List.getElem_take, List.getD_eq_getElem?_getD, List.getElem?_eq_getElem hj']
    rfl

theorem open_ints_gen {T E bytes : Nat} {k : IntKind} (hT : Tryz.prog.underlying T = some (.slice E)) (hE : Tryz.prog.underlying E = some (.int k)) (hc : Tryz.prog.cellsOf E = 1) (hb : Tryz.prog.bytesOf E = bytes)
    (hv : Value.okWide Tryz.prog W .any base T v) (h : DataW.Trod enc Tryz.prog W 0 (fun _ => true) true T v d p) (hs : ∀ m ∈ d.weights Tryz.prog T, m ≤ reachBytes) : ∃ xs, IsInts k bytes W v xs := by
  obtain ⟨a0, len0, cap0, rfl⟩ := okWide_slice hT hv
  obtain ⟨fuel, hf⟩ := h
  rcases open_ints hT hE hc hf with ⟨hcs, _⟩ | ⟨x, l, c, zs, hcs, _, hl, hm, hz, hx, hcell, hwz⟩
  · simp [Value.cells] at hcs
    obtain ⟨rfl, rfl, rfl⟩ := hcs
    exact ⟨[], ⟨none, 0, rfl, by simp, by simp, by simp, .inl rfl⟩, by simp, by simp⟩
  · simp [Value.cells] at hcs
    obtain ⟨rfl, rfl, rfl⟩ := hcs
    have hd : d = .slice (lits k (zs.take len0)) (lits k (zs.drop len0)) := by
      have := congrArg Prod.fst hx; simpa using this
    have hz' : zs.length = cap0 := by simpa using hz
    have hlen : (zs.take len0).length = len0 := by simp; omega
    refine ⟨zs.take len0, ?_, fun n hn => hwz n (List.mem_of_mem_take hn), ?_⟩
    · refine ⟨some x, cap0, by rw [hlen], by rw [hlen]; exact hl, by unfold maxLen at hm; omega, by simp, ?_⟩
      have := cells_at (w := W) (a := x) (zs := zs.map (Value.int k)) (fun i hi => by
        have hi' : i < zs.length := by simpa using hi
        rw [hcell i hi', List.getD_eq_getElem?_getD, List.getD_eq_getElem?_getD, List.getElem?_map, List.getElem?_eq_getElem hi']; rfl) len0
      rw [← List.map_take] at this
      rcases this with h | ⟨b, off, rfl, hat⟩
      · exact .inl h
      · exact .inr ⟨b, off, rfl, hat⟩
    · have := hs ((zs.take len0).length * bytes + (zs.drop len0).length * bytes) (by rw [hd]; simp [DataW.weights, hT, hb, lits, Nat.add_mul])
      have hr : reachBytes = 140737488351232 := rfl
      rw [hr] at this
      omega

theorem weights_mem {P : Program} {E : TypeId} {x : DataW H} {l : List (DataW H)} {m : Nat} (h : x ∈ l) (hm : m ∈ x.weights P E) : m ∈ DataW.weightsAll P E l := by
  induction l with
  | nil => cases h
  | cons y r ih =>
    simp only [DataW.weightsAll, List.mem_append]
    rcases List.mem_cons.1 h with rfl | h
    · exact .inl hm
    · exact .inr (ih h)

theorem list_of {α : Type} {R : Nat → α → Prop} (n : Nat) (h : ∀ i, i < n → ∃ y, R i y) : ∃ xs : List α, xs.length = n ∧ ∀ i (hi : i < xs.length), R i xs[i] := by
  induction n with
  | zero => exact ⟨[], rfl, fun i hi => by simp at hi⟩
  | succ n ih =>
    obtain ⟨xs, h1, h2⟩ := ih (fun i hi => h i (by omega))
    obtain ⟨y, hy⟩ := h n (by omega)
    refine ⟨xs ++ [y], by simp [h1], fun i hi => ?_⟩
    by_cases hlt : i < xs.length
    · rw [List.getElem_append_left hlt]; exact h2 i hlt
    · have : i = xs.length := by simp at hi; omega
      subst this
      rw [List.getElem_append_right (Nat.le_refl _)]
      simp only [Nat.sub_self, List.getElem_cons_zero]
      rw [h1]; exact hy

theorem mapM_some {α β : Type} {f : α → Option β} {l : List α} {r : List β} (h : l.mapM f = some r) : l.length = r.length ∧ ∀ i (h1 : i < l.length) (h2 : i < r.length), f l[i] = some r[i] := by
  induction l generalizing r with
  | nil => simp at h; subst h; exact ⟨rfl, fun i h1 => by simp at h1⟩
  | cons x l ih =>
    rw [List.mapM_cons] at h
    cases hx : f x with
    | none => simp [hx] at h
    | some y =>
      cases hl : l.mapM f with
      | none => simp [hx, hl] at h
      | some ys =>
        simp [hx, hl] at h
        subst h
        obtain ⟨h1, h2⟩ := ih hl
        refine ⟨by simp [h1], fun i g1 g2 => ?_⟩
        cases i with
        | zero => simpa using hx
        | succ i => simpa using h2 i (by simpa using g1) (by simpa using g2)

theorem add_plain (b off j : Nat) : (⟨b, off, none⟩ : Addr).add j = ⟨b, off + j, none⟩ := by
  unfold Addr.add
  split <;> simp_all

theorem open_flat {T E s bytes : Nat} {α : Type} (encA : α → List Value) (Q : α → Prop) (hT : Tryz.prog.underlying T = some (.slice E)) (hs : Tryz.prog.cellsOf E = s) (hpos : 0 < s) (hb : Tryz.prog.bytesOf E = bytes)
    (hdec : ∀ fuel cs x, DataW.trod enc Tryz.prog W 0 (fun _ => true) true fuel E cs = some x → (∀ m ∈ x.1.weights Tryz.prog E, m ≤ reachBytes) → ∃ y, cs = encA y ∧ Q y) (hlen : ∀ y, (encA y).length = s)
    (hv : Value.okWide Tryz.prog W .any base T v) (h : DataW.Trod enc Tryz.prog W 0 (fun _ => true) true T v d p) (hsz : ∀ m ∈ d.weights Tryz.prog T, m ≤ reachBytes) :
    ∃ xs, Lk encA W v xs ∧ (∀ y ∈ xs, Q y) ∧ xs.length * bytes ≤ 140737488351232 := by
  obtain ⟨a0, len0, cap0, rfl⟩ := okWide_slice hT hv
  obtain ⟨fuel, hf⟩ := h
  rcases Deep.open_slice hT hf with ⟨hcs, _⟩ | ⟨a, l, c, m, n, D, Pl, hcs, _, hl, hm, hmm, hx, hel⟩
  · simp [Value.cells] at hcs
    obtain ⟨rfl, rfl, rfl⟩ := hcs
    exact ⟨[], ⟨none, 0, rfl, by simp, by simp, by simp, .inl rfl⟩, by simp, by simp⟩
  · simp [Value.cells] at hcs
    obtain ⟨rfl, rfl, rfl⟩ := hcs
    have hmc : m = cap0 := by simpa using hmm
    subst hmc
    have hd : d = .slice ((List.range len0).map D) ((List.range (m - len0)).map fun j => D (len0 + j)) := by
      have := congrArg Prod.fst hx; simpa using this
    rw [hs] at hel
    have hw : (len0 + (m - len0)) * bytes ≤ reachBytes := by
      refine hsz _ ?_
      rw [hd]
      simp [DataW.weights, hT, hb]
    have hD : ∀ i, i < len0 → ∀ k ∈ (D i).weights Tryz.prog E, k ≤ reachBytes := by
      intro i hi k hk
      refine hsz k ?_
      rw [hd]
      simp only [DataW.weights, hT, List.mem_cons, List.mem_append]
      exact .inr (.inl (weights_mem (List.mem_map.2 ⟨i, List.mem_range.2 hi, rfl⟩) hk))
    obtain ⟨xs, hxl, hxs⟩ := list_of (R := fun i y => Q y ∧ W.cells? 0 (a.add (i * s)) s = some (encA y)) len0 (fun i hi => by
      obtain ⟨cs', h1, h2⟩ := hel i (by omega)
      obtain ⟨y, rfl, hy⟩ := hdec n cs' (D i, Pl i) h2 (hD i hi)
      exact ⟨y, hy, h1⟩)
    refine ⟨xs, ?_, ?_, ?_⟩
    · refine ⟨some a, m, by rw [hxl], by rw [hxl]; exact hl, by unfold maxLen at hm; omega, by simp, ?_⟩
      have hcell : ∀ i (hi : i < xs.length) f (hf : f < s), W.cell? ((a.add (i * s)).add f) = (encA xs[i])[f]? := by
        intro i hi f hf
        have h1 := (hxs i hi).2
        unfold World.cells? at h1
        rw [if_pos (Nat.zero_le _)] at h1
        obtain ⟨_, h2⟩ := mapM_some h1
        have h3 := h2 f (by simpa using hf) (by rw [hlen]; exact hf)
        simp only [List.getElem_range] at h3
        rw [h3, List.getElem?_eq_getElem (by rw [hlen]; exact hf)]
      cases hxx : xs with
      | nil => exact .inl rfl
      | cons x r =>
        rw [← hxx]
        have hne : 0 < xs.length := by rw [hxx]; simp
        obtain ⟨b, off, spot⟩ := a
        have hspot : spot = none := by
          cases spot with
          | none => rfl
          | some sp =>
            have h0 := hcell 0 hne 0 hpos
            rw [List.getElem?_eq_getElem (by rw [hlen]; exact hpos)] at h0
            simp [Addr.add, World.cell?] at h0
            split at h0 <;> simp at h0
        subst hspot
        refine .inr ⟨b, off, rfl, ?_⟩
        intro j hj
        rw [flat_length hlen] at hj
        have hdiv : j / s < xs.length := Nat.div_lt_of_lt_mul (by rw [Nat.mul_comm]; exact hj)
        have hmod : j % s < s := Nat.mod_lt _ hpos
        have hplain : ((⟨b, off, none⟩ : Addr).add (j / s * s)).add (j % s) = ⟨b, off + j, none⟩ := by
          rw [Deep.add_add, Nat.div_add_mod', add_plain]
        have h1 := hcell (j / s) hdiv (j % s) hmod
        rw [hplain, ← flat_getElem? hlen xs (j / s) (j % s) hmod hdiv, Nat.div_add_mod'] at h1
        rw [h1, List.getElem?_eq_getElem]
    · intro y hy
      obtain ⟨i, hi, rfl⟩ := List.getElem_of_mem hy
      exact (hxs i hi).1
    · have hr : reachBytes = 140737488351232 := rfl
      rw [hr, Nat.add_mul] at hw
      rw [hxl]
      omega
end
end Go.Proofs.YtakfineljffoaaaGreatDoor
namespace Go.Proofs.YtakfineljffoaaaGreatDoor
open Go.RowKit Go.Lib

/-- how many bytes a load or store moves -/
def tW (op : Nat) : Nat := [0, 0, 0, 0, 0, 0, 0, 0, 0, 0, 0, 0, 0, 0, 0, 0, 0, 0, 0, 0, 0, 0, 0, 0, 0, 0, 0, 0, 0, 0, 0, 0, 0, 0, 0, 0, 0, 0, 0, 0, 4, 8, 0, 0, 1, 1, 2, 2, 1, 1, 2, 2, 4, 4, 4, 8, 0, 0, 1, 2, 1, 2, 4, 0, 0, 0, 0, 0, 0, 0, 0, 0, 0, 0, 0, 0, 0, 0, 0, 0, 0, 0, 0, 0, 0, 0, 0, 0, 0, 0, 0, 0, 0, 0, 0, 0, 0, 0, 0, 0, 0, 0, 0, 0, 0, 0, 0, 0, 0, 0, 0, 0, 0, 0, 0, 0, 0, 0, 0, 0, 0, 0, 0, 0, 0, 0, 0, 0, 0, 0, 0, 0, 0, 0, 0, 0, 0, 0, 0, 0, 0, 0, 0, 0, 0, 0, 0, 0, 0, 0, 0, 0, 0, 0, 0, 0, 0, 0, 0, 0, 0, 0, 0, 0, 0, 0, 0, 0, 0, 0, 0, 0, 0, 0, 0, 0, 0, 0, 0, 0, 0, 0, 0, 0, 0, 0, 0, 0, 0, 0, 0, 0, 0, 0, 0, 0, 0, 0, 0, 0, 0, 0, 0, 0, 0, 0, 0, 0, 0, 0, 0, 0, 0, 0, 0, 0, 0, 0, 0, 0, 0, 0, 0, 0, 0, 0, 0, 0, 0, 0, 0, 0, 0, 0, 0, 0, 0, 0, 0, 0, 0, 0, 0, 0, 0, 0, 0, 0, 0, 0, 0, 0, 0, 0, 0, 0].getD op 0
/-- what stands beside an instruction -/
def tB (op : Nat) : Nat := [1, 1, 2, 2, 2, 1, 0, 0, 0, 0, 0, 1, 3, 3, 4, 1, 3, 5, 0, 0, 0, 0, 0, 0, 0, 0, 1, 1, 0, 0, 0, 0, 3, 3, 3, 3, 3, 0, 0, 0, 6, 6, 0, 0, 6, 6, 6, 6, 6, 6, 6, 6, 6, 6, 6, 6, 0, 0, 6, 6, 6, 6, 6, 7, 7, 8, 9, 0, 0, 1, 1, 1, 1, 1, 1, 1, 1, 1, 1, 1, 1, 1, 1, 1, 1, 1, 1, 1, 1, 1, 1, 0, 0, 0, 0, 0, 0, 0, 0, 0, 0, 0, 0, 1, 1, 1, 1, 1, 1, 1, 1, 1, 1, 1, 1, 1, 1, 1, 1, 1, 1, 1, 1, 1, 1, 1, 1, 1, 1, 1, 1, 1, 1, 1, 1, 1, 1, 1, 1, 0, 0, 0, 0, 0, 0, 0, 0, 0, 0, 0, 0, 0, 0, 0, 0, 0, 0, 0, 0, 0, 0, 0, 0, 0, 0, 0, 0, 1, 0, 0, 0, 0, 1, 1, 0, 0, 0, 0, 0, 0, 0, 0, 0, 0, 0, 0, 0, 0, 0, 0, 0, 0, 1, 1, 1, 1, 1, 0, 0, 0, 0, 0, 0, 0, 0, 0, 0, 0, 0, 0, 0, 0, 0, 0, 0, 0, 0, 0, 0, 0, 0, 0, 0, 0, 0, 0, 0, 0, 0, 0, 0, 0, 0, 0, 0, 0, 0, 0, 0, 0, 0, 0, 0, 0, 0, 0, 0, 0, 0, 0, 0, 0, 0, 0, 0, 0].getD op 0
/-- what an instruction of numbers takes: how many; their kind; what it gives; whether it is one -/
def tN (op : Nat) : Nat := [0, 0, 0, 0, 0, 0, 0, 0, 0, 0, 0, 0, 0, 0, 0, 0, 0, 0, 0, 0, 0, 0, 0, 0, 0, 0, 0, 0, 0, 0, 0, 0, 0, 0, 0, 0, 0, 0, 0, 0, 0, 0, 0, 0, 0, 0, 0, 0, 0, 0, 0, 0, 0, 0, 0, 0, 0, 0, 0, 0, 0, 0, 0, 0, 0, 0, 0, 0, 0, 1, 2, 2, 2, 2, 2, 2, 2, 2, 2, 2, 1, 2, 2, 2, 2, 2, 2, 2, 2, 2, 2, 0, 0, 0, 0, 0, 0, 0, 0, 0, 0, 0, 0, 1, 1, 1, 2, 2, 2, 2, 2, 2, 2, 2, 2, 2, 2, 2, 2, 2, 2, 1, 1, 1, 2, 2, 2, 2, 2, 2, 2, 2, 2, 2, 2, 2, 2, 2, 2, 0, 0, 0, 0, 0, 0, 0, 0, 0, 0, 0, 0, 0, 0, 0, 0, 0, 0, 0, 0, 0, 0, 0, 0, 0, 0, 0, 0, 1, 0, 0, 0, 0, 1, 1, 0, 0, 0, 0, 0, 0, 0, 0, 0, 0, 0, 0, 0, 0, 0, 0, 0, 0, 1, 1, 1, 1, 1, 0, 0, 0, 0, 0, 0, 0, 0, 0, 0, 0, 0, 0, 0, 0, 0, 0, 0, 0, 0, 0, 0, 0, 0, 0, 0, 0, 0, 0, 0, 0, 0, 0, 0, 0, 0, 0, 0, 0, 0, 0, 0, 0, 0, 0, 0, 0, 0, 0, 0, 0, 0, 0, 0, 0, 0, 0, 0, 0].getD op 0
def tI (op : Nat) : Nat := [0, 0, 0, 0, 0, 0, 0, 0, 0, 0, 0, 0, 0, 0, 0, 0, 0, 0, 0, 0, 0, 0, 0, 0, 0, 0, 0, 0, 0, 0, 0, 0, 0, 0, 0, 0, 0, 0, 0, 0, 0, 0, 0, 0, 0, 0, 0, 0, 0, 0, 0, 0, 0, 0, 0, 0, 0, 0, 0, 0, 0, 0, 0, 0, 0, 0, 0, 0, 0, 127, 127, 127, 127, 127, 127, 127, 127, 127, 127, 127, 126, 126, 126, 126, 126, 126, 126, 126, 126, 126, 126, 0, 0, 0, 0, 0, 0, 0, 0, 0, 0, 0, 0, 127, 127, 127, 127, 127, 127, 127, 127, 127, 127, 127, 127, 127, 127, 127, 127, 127, 127, 126, 126, 126, 126, 126, 126, 126, 126, 126, 126, 126, 126, 126, 126, 126, 126, 126, 126, 0, 0, 0, 0, 0, 0, 0, 0, 0, 0, 0, 0, 0, 0, 0, 0, 0, 0, 0, 0, 0, 0, 0, 0, 0, 0, 0, 0, 126, 0, 0, 0, 0, 127, 127, 0, 0, 0, 0, 0, 0, 0, 0, 0, 0, 0, 0, 0, 0, 0, 0, 0, 0, 127, 127, 126, 126, 126, 0, 0, 0, 0, 0, 0, 0, 0, 0, 0, 0, 0, 0, 0, 0, 0, 0, 0, 0, 0, 0, 0, 0, 0, 0, 0, 0, 0, 0, 0, 0, 0, 0, 0, 0, 0, 0, 0, 0, 0, 0, 0, 0, 0, 0, 0, 0, 0, 0, 0, 0, 0, 0, 0, 0, 0, 0, 0, 0].getD op 0
def tO (op : Nat) : Nat := [0, 0, 0, 0, 0, 0, 0, 0, 0, 0, 0, 0, 0, 0, 0, 0, 0, 0, 0, 0, 0, 0, 0, 0, 0, 0, 0, 0, 0, 0, 0, 0, 0, 0, 0, 0, 0, 0, 0, 0, 0, 0, 0, 0, 0, 0, 0, 0, 0, 0, 0, 0, 0, 0, 0, 0, 0, 0, 0, 0, 0, 0, 0, 0, 0, 0, 0, 0, 0, 127, 127, 127, 127, 127, 127, 127, 127, 127, 127, 127, 127, 127, 127, 127, 127, 127, 127, 127, 127, 127, 127, 0, 0, 0, 0, 0, 0, 0, 0, 0, 0, 0, 0, 127, 127, 127, 127, 127, 127, 127, 127, 127, 127, 127, 127, 127, 127, 127, 127, 127, 127, 126, 126, 126, 126, 126, 126, 126, 126, 126, 126, 126, 126, 126, 126, 126, 126, 126, 126, 0, 0, 0, 0, 0, 0, 0, 0, 0, 0, 0, 0, 0, 0, 0, 0, 0, 0, 0, 0, 0, 0, 0, 0, 0, 0, 0, 0, 127, 0, 0, 0, 0, 126, 126, 0, 0, 0, 0, 0, 0, 0, 0, 0, 0, 0, 0, 0, 0, 0, 0, 0, 0, 127, 127, 126, 126, 126, 0, 0, 0, 0, 0, 0, 0, 0, 0, 0, 0, 0, 0, 0, 0, 0, 0, 0, 0, 0, 0, 0, 0, 0, 0, 0, 0, 0, 0, 0, 0, 0, 0, 0, 0, 0, 0, 0, 0, 0, 0, 0, 0, 0, 0, 0, 0, 0, 0, 0, 0, 0, 0, 0, 0, 0, 0, 0, 0].getD op 0
def tQ (op : Nat) : Nat := [0, 0, 0, 0, 0, 0, 0, 0, 0, 0, 0, 0, 0, 0, 0, 0, 0, 0, 0, 0, 0, 0, 0, 0, 0, 0, 0, 0, 0, 0, 0, 0, 0, 0, 0, 0, 0, 0, 0, 0, 0, 0, 0, 0, 0, 0, 0, 0, 0, 0, 0, 0, 0, 0, 0, 0, 0, 0, 0, 0, 0, 0, 0, 0, 0, 0, 0, 0, 0, 1, 1, 1, 1, 1, 1, 1, 1, 1, 1, 1, 1, 1, 1, 1, 1, 1, 1, 1, 1, 1, 1, 0, 0, 0, 0, 0, 0, 0, 0, 0, 0, 0, 0, 1, 1, 1, 1, 1, 1, 1, 1, 1, 1, 1, 1, 1, 1, 1, 1, 1, 1, 1, 1, 1, 1, 1, 1, 1, 1, 1, 1, 1, 1, 1, 1, 1, 1, 1, 1, 0, 0, 0, 0, 0, 0, 0, 0, 0, 0, 0, 0, 0, 0, 0, 0, 0, 0, 0, 0, 0, 0, 0, 0, 0, 0, 0, 0, 1, 0, 0, 0, 0, 1, 1, 0, 0, 0, 0, 0, 0, 0, 0, 0, 0, 0, 0, 0, 0, 0, 0, 0, 0, 1, 1, 1, 1, 1, 0, 0, 0, 0, 0, 0, 0, 0, 0, 0, 0, 0, 0, 0, 0, 0, 0, 0, 0, 0, 0, 0, 0, 0, 0, 0, 0, 0, 0, 0, 0, 0, 0, 0, 0, 0, 0, 0, 0, 0, 0, 0, 0, 0, 0, 0, 0, 0, 0, 0, 0, 0, 0, 0, 0, 0, 0, 0, 0].getD op 0
/-- the kind of what a load or store moves -/
def tK (op : Nat) : Nat := [126, 126, 126, 126, 126, 126, 126, 126, 126, 126, 126, 126, 126, 126, 126, 126, 126, 126, 126, 126, 126, 126, 126, 126, 126, 126, 126, 126, 126, 126, 126, 126, 126, 126, 126, 126, 126, 126, 126, 126, 127, 126, 126, 126, 127, 127, 127, 127, 126, 126, 126, 126, 126, 126, 127, 126, 126, 126, 127, 127, 126, 126, 126, 126, 126, 126, 126, 126, 126, 126, 126, 126, 126, 126, 126, 126, 126, 126, 126, 126, 126, 126, 126, 126, 126, 126, 126, 126, 126, 126, 126, 126, 126, 126, 126, 126, 126, 126, 126, 126, 126, 126, 126, 126, 126, 126, 126, 126, 126, 126, 126, 126, 126, 126, 126, 126, 126, 126, 126, 126, 126, 126, 126, 126, 126, 126, 126, 126, 126, 126, 126, 126, 126, 126, 126, 126, 126, 126, 126, 126, 126, 126, 126, 126, 126, 126, 126, 126, 126, 126, 126, 126, 126, 126, 126, 126, 126, 126, 126, 126, 126, 126, 126, 126, 126, 126, 126, 126, 126, 126, 126, 126, 126, 126, 126, 126, 126, 126, 126, 126, 126, 126, 126, 126, 126, 126, 126, 126, 126, 126, 126, 126, 126, 126, 126, 126, 126, 126, 126, 126, 126, 126, 126, 126, 126, 126, 126, 126, 126, 126, 126, 126, 126, 126, 126, 126, 126, 126, 126, 126, 126, 126, 126, 126, 126, 126, 126, 126, 126, 126, 126, 126, 126, 126, 126, 126, 126, 126, 126, 126, 126, 126, 126, 126, 126, 126, 126, 126, 126, 126, 126, 126, 126, 126, 126, 126].getD op 0
theorem bF (op : Nat) (c : Int) (h : (op : Int) ≠ c) : ((op : Int) == c) = false := by simpa using h
theorem bT (op : Nat) (c : Int) (h : (op : Int) = c) : ((op : Int) == c) = true := by simpa using h
/-- kinds, in a row -/
abbrev Kinds (w : World) (v : Value) (xs : List Int) : Prop := L1 (Value.int .u8) w v xs
def width_any_l0 : List (Nat × Nat × Nat) := [(0, 39, 0), (40, 40, 4), (41, 41, 8), (42, 43, 0), (44, 44, 1), (45, 45, 1), (46, 46, 2), (47, 47, 2), (48, 48, 1), (49, 49, 1), (50, 50, 2), (51, 51, 2), (52, 52, 4), (53, 53, 4), (54, 54, 4), (55, 55, 8), (56, 57, 0), (58, 58, 1), (59, 59, 2), (60, 60, 1), (61, 61, 2), (62, 62, 4), (63, 255, 0)]
theorem width_any_c : ∀ x : Fin 256, (width_any_l0.any (fun c => decide (c.1 ≤ x.val ∧ x.val ≤ c.2.1 ∧ tW x.val = c.2.2))) = true := by decide +kernel
set_option maxRecDepth 100000 in
set_option maxHeartbeats 16000000 in
theorem width_any (op : Nat) (hop : op < 256) (w : World) :
    Calls Tryz.prog 123 #[.int .u8 op] w fun e w' => e = .returned (.int .i64 (tW op : Nat)) ∧ w = w' := by
  have g := width_any_c ⟨op, hop⟩
  simp only [List.any_eq_true, decide_eq_true_eq] at g
  rcases g with ⟨c, hc, h1, h2, t1⟩
  simp only [width_any_l0, List.mem_cons, List.not_mem_nil, or_false] at hc
  rcases hc with rfl | rfl | rfl | rfl | rfl | rfl | rfl | rfl | rfl | rfl | rfl | rfl | rfl | rfl | rfl | rfl | rfl | rfl | rfl | rfl | rfl | rfl | rfl
  all_goals
    dsimp only at h1 h2 t1
    first | have e40 := bF op 40 (by omega) | have e40 := bT op 40 (by omega)
    first | have e41 := bF op 41 (by omega) | have e41 := bT op 41 (by omega)
    first | have e44 := bF op 44 (by omega) | have e44 := bT op 44 (by omega)
    first | have e45 := bF op 45 (by omega) | have e45 := bT op 45 (by omega)
    first | have e46 := bF op 46 (by omega) | have e46 := bT op 46 (by omega)
    first | have e47 := bF op 47 (by omega) | have e47 := bT op 47 (by omega)
    first | have e48 := bF op 48 (by omega) | have e48 := bT op 48 (by omega)
    first | have e49 := bF op 49 (by omega) | have e49 := bT op 49 (by omega)
    first | have e50 := bF op 50 (by omega) | have e50 := bT op 50 (by omega)
    first | have e51 := bF op 51 (by omega) | have e51 := bT op 51 (by omega)
    first | have e52 := bF op 52 (by omega) | have e52 := bT op 52 (by omega)
    first | have e53 := bF op 53 (by omega) | have e53 := bT op 53 (by omega)
    first | have e54 := bF op 54 (by omega) | have e54 := bT op 54 (by omega)
    first | have e55 := bF op 55 (by omega) | have e55 := bT op 55 (by omega)
    first | have e58 := bF op 58 (by omega) | have e58 := bT op 58 (by omega)
    first | have e59 := bF op 59 (by omega) | have e59 := bT op 59 (by omega)
    first | have e60 := bF op 60 (by omega) | have e60 := bT op 60 (by omega)
    first | have e61 := bF op 61 (by omega) | have e61 := bT op 61 (by omega)
    first | have e62 := bF op 62 (by omega) | have e62 := bT op 62 (by omega)
    rw [t1]
    go_enter Tryz.func123, Tryz.ntmps123
    go_wp2_with fail
    go_ret
    exact ⟨rfl, rfl⟩
def kindAt_any_l0 : List (Nat × Nat × Nat) := [(0, 39, 126), (40, 40, 127), (41, 43, 126), (44, 44, 127), (45, 45, 127), (46, 46, 127), (47, 47, 127), (48, 53, 126), (54, 54, 127), (55, 57, 126), (58, 58, 127), (59, 59, 127), (60, 255, 126)]
theorem kindAt_any_c : ∀ x : Fin 256, (kindAt_any_l0.any (fun c => decide (c.1 ≤ x.val ∧ x.val ≤ c.2.1 ∧ tK x.val = c.2.2))) = true := by decide +kernel
set_option maxRecDepth 100000 in
set_option maxHeartbeats 16000000 in
theorem kindAt_any (op : Nat) (hop : op < 256) (w : World) :
    Calls Tryz.prog 132 #[.int .u8 op] w fun e w' => e = .returned (.int .u8 (tK op : Nat)) ∧ w = w' := by
  have g := kindAt_any_c ⟨op, hop⟩
  simp only [List.any_eq_true, decide_eq_true_eq] at g
  rcases g with ⟨c, hc, h1, h2, t1⟩
  simp only [kindAt_any_l0, List.mem_cons, List.not_mem_nil, or_false] at hc
  rcases hc with rfl | rfl | rfl | rfl | rfl | rfl | rfl | rfl | rfl | rfl | rfl | rfl | rfl
  all_goals
    dsimp only at h1 h2 t1
    first | have e40 := bF op 40 (by omega) | have e40 := bT op 40 (by omega)
    first | have e44 := bF op 44 (by omega) | have e44 := bT op 44 (by omega)
    first | have e45 := bF op 45 (by omega) | have e45 := bT op 45 (by omega)
    first | have e46 := bF op 46 (by omega) | have e46 := bT op 46 (by omega)
    first | have e47 := bF op 47 (by omega) | have e47 := bT op 47 (by omega)
    first | have e54 := bF op 54 (by omega) | have e54 := bT op 54 (by omega)
    first | have e58 := bF op 58 (by omega) | have e58 := bT op 58 (by omega)
    first | have e59 := bF op 59 (by omega) | have e59 := bT op 59 (by omega)
    rw [t1]
    go_enter Tryz.func132, Tryz.ntmps132
    go_wp2_with fail
    go_ret
    exact ⟨rfl, rfl⟩
end Go.Proofs.YtakfineljffoaaaGreatDoor
