/-
  FROM THE ROW's READING OF AN ARGUMENT TO WHAT A WALK IS TOLD OF IT, a lemma for each type. No condition.
-/
import Derived.Test.YtnifgmijjggjjaaDoorBase
import Derived.ProofKit
import Derived.OpenShut
import Derived.ShutString
import Derived.SizedLaws
import Derived.Deep.Slices
namespace Go.Proofs.YtnifgmijjggjjaaDoor
open Go.ChangeShapes Go.WideShapes Go.ChangeAt Go.RowKit
open Go.ChangeMaps (open_string shut_string)

/-- an integer of a kind -/
def IsInt (k : IntKind) (_ : World) (v : Value) (x : Int) : Prop := v = .int k x ∧ (Lit.int k x).wf = true
def IsStr (_ : World) (v : Value) (x : ByteArray) : Prop := v = .string x ∧ x.size ≤ 140737488351232
def IsBool (_ : World) (v : Value) (x : Bool) : Prop := v = .bool x

set_option maxRecDepth 100000
section
variable {H : Type} {enc : TypeId × Value → H} {W : World} {base : Nat} {v : Value} {d : DataW H} {p : List MemPlace}

theorem op_int (hv : Value.okWide Tryd.prog W .any base 3 v) (h : DataW.Trod enc Tryd.prog W 0 (fun _ => true) true 3 v d p) (_ : ∀ m ∈ d.weights Tryd.prog 3, m ≤ reachBytes) : ∃ x, IsInt .i64 W v x := by
  obtain ⟨x, rfl, rfl, rfl, w⟩ := open_int Tryd.underlying3 hv h
  exact ⟨x, rfl, w⟩
theorem op_int64 (hv : Value.okWide Tryd.prog W .any base 2 v) (h : DataW.Trod enc Tryd.prog W 0 (fun _ => true) true 2 v d p) (_ : ∀ m ∈ d.weights Tryd.prog 2, m ≤ reachBytes) : ∃ x, IsInt .i64 W v x := by
  obtain ⟨x, rfl, rfl, rfl, w⟩ := open_int Tryd.underlying2 hv h
  exact ⟨x, rfl, w⟩
theorem op_uint64 (hv : Value.okWide Tryd.prog W .any base 60 v) (h : DataW.Trod enc Tryd.prog W 0 (fun _ => true) true 60 v d p) (_ : ∀ m ∈ d.weights Tryd.prog 60, m ≤ reachBytes) : ∃ x, IsInt .u64 W v x := by
  obtain ⟨x, rfl, rfl, rfl, w⟩ := open_int Tryd.underlying60 hv h
  exact ⟨x, rfl, w⟩
theorem op_byte (hv : Value.okWide Tryd.prog W .any base 5 v) (h : DataW.Trod enc Tryd.prog W 0 (fun _ => true) true 5 v d p) (_ : ∀ m ∈ d.weights Tryd.prog 5, m ≤ reachBytes) : ∃ x, IsInt .u8 W v x := by
  obtain ⟨x, rfl, rfl, rfl, w⟩ := open_int Tryd.underlying5 hv h
  exact ⟨x, rfl, w⟩
theorem op_string (hv : Value.okWide Tryd.prog W .any base 9 v) (h : DataW.Trod enc Tryd.prog W 0 (fun _ => true) true 9 v d p) (hs : ∀ m ∈ d.weights Tryd.prog 9, m ≤ reachBytes) : ∃ x, IsStr W v x := by
  obtain ⟨x, rfl, rfl, rfl, w⟩ := open_string Tryd.underlying9 hv h
  have := hs x.data.toList.length (by simp [DataW.weights])
  exact ⟨x, rfl, by simpa [reachBytes] using this⟩

/-- a slice of integers, whose length is in the form's reach -/
def IsInts (k : IntKind) (bytes : Nat) (w : World) (v : Value) (xs : List Int) : Prop := Ints w k v xs ∧ (∀ x ∈ xs, (Lit.int k x).wf = true) ∧ xs.length * bytes ≤ 140737488351232

theorem cells_at {w : World} {a : Addr} {zs : List Value} (h : ∀ i, i < zs.length → w.cell? (a.add i) = some (zs.getD i undef)) (l : Nat) :
    zs.take l = [] ∨ ∃ b off, a = ⟨b, off, none⟩ ∧ At w b off (zs.take l) := by
  cases hz : zs.take l with
  | nil => exact .inl rfl
  | cons z r =>
    have h0 := h 0 (by cases zs with | nil => simp at hz | cons => simp)
    obtain ⟨b, off, spot⟩ := a
    have : spot = none := by
      cases spot with
      | none => rfl
      | some s => simp [Addr.add, World.cell?] at h0; split at h0 <;> simp at h0
    subst this
    refine .inr ⟨b, off, rfl, ?_⟩
    rw [← hz]
    intro j hj
    have hj' : j < zs.length := by simp at hj; omega
    have := h j hj'
    have hplain : (⟨b, off, none⟩ : Addr).add j = ⟨b, off + j, none⟩ := by unfold Addr.add; split <;> simp_all
    rw [hplain] at this
    rw [this, List.getElem_take, List.getD_eq_getElem?_getD, List.getElem?_eq_getElem hj']
    rfl

theorem open_ints_gen {T E bytes : Nat} {k : IntKind} (hT : Tryd.prog.underlying T = some (.slice E)) (hE : Tryd.prog.underlying E = some (.int k)) (hc : Tryd.prog.cellsOf E = 1) (hb : Tryd.prog.bytesOf E = bytes)
    (hv : Value.okWide Tryd.prog W .any base T v) (h : DataW.Trod enc Tryd.prog W 0 (fun _ => true) true T v d p) (hs : ∀ m ∈ d.weights Tryd.prog T, m ≤ reachBytes) : ∃ xs, IsInts k bytes W v xs := by
  obtain ⟨a0, len0, cap0, rfl⟩ := okWide_slice hT hv
  obtain ⟨fuel, hf⟩ := h
  rcases open_ints hT hE hc hf with ⟨hcs, _⟩ | ⟨x, l, c, zs, hcs, _, hl, hm, hz, hx, hcell, hwz⟩
  · simp [Value.cells] at hcs
    obtain ⟨rfl, rfl, rfl⟩ := hcs
    exact ⟨[], ⟨none, 0, rfl, by simp, by simp, by simp, .inl rfl⟩, by simp, by simp⟩
  · simp [Value.cells] at hcs
    obtain ⟨rfl, rfl, rfl⟩ := hcs
    have hd : d = .slice (lits k (zs.take len0)) (lits k (zs.drop len0)) := by
      have := congrArg Prod.fst hx; simpa using this
    have hz' : zs.length = cap0 := by simpa using hz
    have hlen : (zs.take len0).length = len0 := by simp; omega
    refine ⟨zs.take len0, ?_, fun n hn => hwz n (List.mem_of_mem_take hn), ?_⟩
    · refine ⟨some x, cap0, by rw [hlen], by rw [hlen]; exact hl, by unfold maxLen at hm; omega, by simp, ?_⟩
      have := cells_at (w := W) (a := x) (zs := zs.map (Value.int k)) (fun i hi => by
        have hi' : i < zs.length := by simpa using hi
        rw [hcell i hi', List.getD_eq_getElem?_getD, List.getD_eq_getElem?_getD, List.getElem?_map, List.getElem?_eq_getElem hi']; rfl) len0
      rw [← List.map_take] at this
      rcases this with h | ⟨b, off, rfl, hat⟩
      · exact .inl h
      · exact .inr ⟨b, off, rfl, hat⟩
    · have := hs ((zs.take len0).length * bytes + (zs.drop len0).length * bytes) (by rw [hd]; simp [DataW.weights, hT, hb, lits, Nat.add_mul])
      have hr : reachBytes = 140737488351232 := rfl
      rw [hr] at this
      omega

theorem weights_mem {P : Program} {E : TypeId} {x : DataW H} {l : List (DataW H)} {m : Nat} (h : x ∈ l) (hm : m ∈ x.weights P E) : m ∈ DataW.weightsAll P E l := by
  induction l with
  | nil => cases h
  | cons y r ih =>
    simp only [DataW.weightsAll, List.mem_append]
    rcases List.mem_cons.1 h with rfl | h
    · exact .inl hm
    · exact .inr (ih h)

theorem list_of {α : Type} {R : Nat → α → Prop} (n : Nat) (h : ∀ i, i < n → ∃ y, R i y) : ∃ xs : List α, xs.length = n ∧ ∀ i (hi : i < xs.length), R i xs[i] := by
  induction n with
  | zero => exact ⟨[], rfl, fun i hi => by simp at hi⟩
  | succ n ih =>
    obtain ⟨xs, h1, h2⟩ := ih (fun i hi => h i (by omega))
    obtain ⟨y, hy⟩ := h n (by omega)
    refine ⟨xs ++ [y], by simp [h1], fun i hi => ?_⟩
    by_cases hlt : i < xs.length
    · rw [List.getElem_append_left hlt]; exact h2 i hlt
    · have : i = xs.length := by simp at hi; omega
      subst this
      rw [List.getElem_append_right (Nat.le_refl _)]
      simp only [Nat.sub_self, List.getElem_cons_zero]
      rw [h1]; exact hy

theorem mapM_some {α β : Type} {f : α → Option β} {l : List α} {r : List β} (h : l.mapM f = some r) : l.length = r.length ∧ ∀ i (h1 : i < l.length) (h2 : i < r.length), f l[i] = some r[i] := by
  induction l generalizing r with
  | nil => simp at h; subst h; exact ⟨rfl, fun i h1 => by simp at h1⟩
  | cons x l ih =>
    rw [List.mapM_cons] at h
    cases hx : f x with
    | none => simp [hx] at h
    | some y =>
      cases hl : l.mapM f with
      | none => simp [hx, hl] at h
      | some ys =>
        simp [hx, hl] at h
        subst h
        obtain ⟨h1, h2⟩ := ih hl
        refine ⟨by simp [h1], fun i g1 g2 => ?_⟩
        cases i with
        | zero => simpa using hx
        | succ i => simpa using h2 i (by simpa using g1) (by simpa using g2)

theorem add_plain (b off j : Nat) : (⟨b, off, none⟩ : Addr).add j = ⟨b, off + j, none⟩ := by
  unfold Addr.add
  split <;> simp_all

theorem open_flat {T E s bytes : Nat} {α : Type} (encA : α → List Value) (Q : α → Prop) (hT : Tryd.prog.underlying T = some (.slice E)) (hs : Tryd.prog.cellsOf E = s) (hpos : 0 < s) (hb : Tryd.prog.bytesOf E = bytes)
    (hdec : ∀ fuel cs x, DataW.trod enc Tryd.prog W 0 (fun _ => true) true fuel E cs = some x → (∀ m ∈ x.1.weights Tryd.prog E, m ≤ reachBytes) → ∃ y, cs = encA y ∧ Q y) (hlen : ∀ y, (encA y).length = s)
    (hv : Value.okWide Tryd.prog W .any base T v) (h : DataW.Trod enc Tryd.prog W 0 (fun _ => true) true T v d p) (hsz : ∀ m ∈ d.weights Tryd.prog T, m ≤ reachBytes) :
    ∃ xs, Lk encA W v xs ∧ (∀ y ∈ xs, Q y) ∧ xs.length * bytes ≤ 140737488351232 := by
  obtain ⟨a0, len0, cap0, rfl⟩ := okWide_slice hT hv
  obtain ⟨fuel, hf⟩ := h
  rcases Deep.open_slice hT hf with ⟨hcs, _⟩ | ⟨a, l, c, m, n, D, Pl, hcs, _, hl, hm, hmm, hx, hel⟩
  · simp [Value.cells] at hcs
    obtain ⟨rfl, rfl, rfl⟩ := hcs
    exact ⟨[], ⟨none, 0, rfl, by simp, by simp, by simp, .inl rfl⟩, by simp, by simp⟩
  · simp [Value.cells] at hcs
    obtain ⟨rfl, rfl, rfl⟩ := hcs
    have hmc : m = cap0 := by simpa using hmm
    subst hmc
    have hd : d = .slice ((List.range len0).map D) ((List.range (m - len0)).map fun j => D (len0 + j)) := by
      have := congrArg Prod.fst hx; simpa using this
    rw [hs] at hel
    have hw : (len0 + (m - len0)) * bytes ≤ reachBytes := by
      refine hsz _ ?_
      rw [hd]
      simp [DataW.weights, hT, hb]
    have hD : ∀ i, i < len0 → ∀ k ∈ (D i).weights Tryd.prog E, k ≤ reachBytes := by
      intro i hi k hk
      refine hsz k ?_
      rw [hd]
      simp only [DataW.weights, hT, List.mem_cons, List.mem_append]
      exact .inr (.inl (weights_mem (List.mem_map.2 ⟨i, List.mem_range.2 hi, rfl⟩) hk))
    obtain ⟨xs, hxl, hxs⟩ := list_of (R := fun i y => Q y ∧ W.cells? 0 (a.add (i * s)) s = some (encA y)) len0 (fun i hi => by
      obtain ⟨cs', h1, h2⟩ := hel i (by omega)
      obtain ⟨y, rfl, hy⟩ := hdec n cs' (D i, Pl i) h2 (hD i hi)
      exact ⟨y, hy, h1⟩)
    refine ⟨xs, ?_, ?_, ?_⟩
    · refine ⟨some a, m, by rw [hxl], by rw [hxl]; exact hl, by unfold maxLen at hm; omega, by simp, ?_⟩
      have hcell : ∀ i (hi : i < xs.length) f (hf : f < s), W.cell? ((a.add (i * s)).add f) = (encA xs[i])[f]? := by
        intro i hi f hf
        have h1 := (hxs i hi).2
        unfold World.cells? at h1
        rw [if_pos (Nat.zero_le _)] at h1
        obtain ⟨_, h2⟩ := mapM_some h1
        have h3 := h2 f (by simpa using hf) (by rw [hlen]; exact hf)
        simp only [List.getElem_range] at h3
        rw [h3, List.getElem?_eq_getElem (by rw [hlen]; exact hf)]
      cases hxx : xs with
      | nil => exact .inl rfl
      | cons x r =>
        rw [← hxx]
        have hne : 0 < xs.length := by rw [hxx]; simp
        obtain ⟨b, off, spot⟩ := a
        have hspot : spot = none := by
          cases spot with
          | none => rfl
          | some sp =>
            have h0 := hcell 0 hne 0 hpos
            rw [List.getElem?_eq_getElem (by rw [hlen]; exact hpos)] at h0
            simp [Addr.add, World.cell?] at h0
            split at h0 <;> simp at h0
        subst hspot
        refine .inr ⟨b, off, rfl, ?_⟩
        intro j hj
        rw [flat_length hlen] at hj
        have hdiv : j / s < xs.length := Nat.div_lt_of_lt_mul (by rw [Nat.mul_comm]; exact hj)
        have hmod : j % s < s := Nat.mod_lt _ hpos
        have hplain : ((⟨b, off, none⟩ : Addr).add (j / s * s)).add (j % s) = ⟨b, off + j, none⟩ := by
          rw [Deep.add_add, Nat.div_add_mod', add_plain]
        have h1 := hcell (j / s) hdiv (j % s) hmod
        rw [hplain, ← flat_getElem? hlen xs (j / s) (j % s) hmod hdiv, Nat.div_add_mod'] at h1
        rw [h1, List.getElem?_eq_getElem]
    · intro y hy
      obtain ⟨i, hi, rfl⟩ := List.getElem_of_mem hy
      exact (hxs i hi).1
    · have hr : reachBytes = 140737488351232 := rfl
      rw [hr, Nat.add_mul] at hw
      rw [hxl]
      omega
end
end Go.Proofs.YtnifgmijjggjjaaDoor
