/-
  FROM THE ROW's READING OF AN ARGUMENT TO WHAT A WALK IS TOLD OF IT, a lemma for each type. No condition.
-/
import Derived.Test.YtdiiefhklcchmaaDoorBase
import Derived.ProofKit
import Derived.OpenShut
import Derived.ShutString
import Derived.SizedLaws
import Derived.Deep.Slices
namespace Go.Proofs.YtdiiefhklcchmaaDoor
open Go.ChangeShapes Go.WideShapes Go.ChangeAt Go.RowKit
open Go.ChangeMaps (open_string shut_string)

/-- an integer of a kind -/
def IsInt (k : IntKind) (_ : World) (v : Value) (x : Int) : Prop := v = .int k x ∧ (Lit.int k x).wf = true
def IsStr (_ : World) (v : Value) (x : ByteArray) : Prop := v = .string x ∧ x.size ≤ 140737488351232
def IsBool (_ : World) (v : Value) (x : Bool) : Prop := v = .bool x

set_option maxRecDepth 100000
section
variable {H : Type} {enc : TypeId × Value → H} {W : World} {base : Nat} {v : Value} {d : DataW H} {p : List MemPlace}

theorem op_int (hv : Value.okWide Tryd.prog W .any base 3 v) (h : DataW.Trod enc Tryd.prog W 0 (fun _ => true) true 3 v d p) (_ : ∀ m ∈ d.weights Tryd.prog 3, m ≤ reachBytes) : ∃ x, IsInt .i64 W v x := by
  obtain ⟨x, rfl, rfl, rfl, w⟩ := open_int Tryd.underlying3 hv h
  exact ⟨x, rfl, w⟩
theorem op_int64 (hv : Value.okWide Tryd.prog W .any base 2 v) (h : DataW.Trod enc Tryd.prog W 0 (fun _ => true) true 2 v d p) (_ : ∀ m ∈ d.weights Tryd.prog 2, m ≤ reachBytes) : ∃ x, IsInt .i64 W v x := by
  obtain ⟨x, rfl, rfl, rfl, w⟩ := open_int Tryd.underlying2 hv h
  exact ⟨x, rfl, w⟩
theorem op_uint64 (hv : Value.okWide Tryd.prog W .any base 94 v) (h : DataW.Trod enc Tryd.prog W 0 (fun _ => true) true 94 v d p) (_ : ∀ m ∈ d.weights Tryd.prog 94, m ≤ reachBytes) : ∃ x, IsInt .u64 W v x := by
  obtain ⟨x, rfl, rfl, rfl, w⟩ := open_int Tryd.underlying94 hv h
  exact ⟨x, rfl, w⟩
theorem op_byte (hv : Value.okWide Tryd.prog W .any base 5 v) (h : DataW.Trod enc Tryd.prog W 0 (fun _ => true) true 5 v d p) (_ : ∀ m ∈ d.weights Tryd.prog 5, m ≤ reachBytes) : ∃ x, IsInt .u8 W v x := by
  obtain ⟨x, rfl, rfl, rfl, w⟩ := open_int Tryd.underlying5 hv h
  exact ⟨x, rfl, w⟩
theorem op_string (hv : Value.okWide Tryd.prog W .any base 9 v) (h : DataW.Trod enc Tryd.prog W 0 (fun _ => true) true 9 v d p) (hs : ∀ m ∈ d.weights Tryd.prog 9, m ≤ reachBytes) : ∃ x, IsStr W v x := by
  obtain ⟨x, rfl, rfl, rfl, w⟩ := open_string Tryd.underlying9 hv h
  have := hs x.data.toList.length (by simp [DataW.weights])
  exact ⟨x, rfl, by simpa [reachBytes] using this⟩

/-- a slice of integers, whose length is in the form's reach -/
def IsInts (k : IntKind) (bytes : Nat) (w : World) (v : Value) (xs : List Int) : Prop := Ints w k v xs ∧ (∀ x ∈ xs, (Lit.int k x).wf = true) ∧ xs.length * bytes ≤ 140737488351232

theorem cells_at {w : World} {a : Addr} {zs : List Value} (h : ∀ i, i < zs.length → w.cell? (a.add i) = some (zs.getD i undef)) (l : Nat) :
    zs.take l = [] ∨ ∃ b off, a = ⟨b, off, none⟩ ∧ At w b off (zs.take l) := by
  cases hz : zs.take l with
  | nil => exact .inl rfl
  | cons z r =>
    have h0 := h 0 (by cases zs with | nil => simp at hz | cons => simp)
    obtain ⟨b, off, spot⟩ := a
    have : spot = none := by
      cases spot with
      | none => rfl
      | some s => simp [Addr.add, World.cell?] at h0; split at h0 <;> simp at h0
    subst this
    refine .inr ⟨b, off, rfl, ?_⟩
    rw [← hz]
    intro j hj
    have hj' : j < zs.length := by simp at hj; omega
    have := h j hj'
    have hplain : (⟨b, off, none⟩ : Addr).add j = ⟨b, off + j, none⟩ := by unfold Addr.add; split <;> simp_all
    rw [hplain] at this
    rw [this, List.getElem_take, List.getD_eq_getElem?_getD, List.getElem?_eq_getElem hj']
    rfl

theorem open_ints_gen {T E bytes : Nat} {k : IntKind} (hT : Tryd.prog.underlying T = some (.slice E)) (hE : Tryd.prog.underlying E = some (.int k)) (hc : Tryd.prog.cellsOf E = 1) (hb : Tryd.prog.bytesOf E = bytes)
    (hv : Value.okWide Tryd.prog W .any base T v) (h : DataW.Trod enc Tryd.prog W 0 (fun _ => true) true T v d p) (hs : ∀ m ∈ d.weights Tryd.prog T, m ≤ reachBytes) : ∃ xs, IsInts k bytes W v xs := by
  obtain ⟨a0, len0, cap0, rfl⟩ := okWide_slice hT hv
  obtain ⟨fuel, hf⟩ := h
  rcases open_ints hT hE hc hf with ⟨hcs, _⟩ | ⟨x, l, c, zs, hcs, _, hl, hm, hz, hx, hcell, hwz⟩
  · simp [Value.cells] at hcs
    obtain ⟨rfl, rfl, rfl⟩ := hcs
    exact ⟨[], ⟨none, 0, rfl, by simp, by simp, by simp, .inl rfl⟩, by simp, by simp⟩
  · simp [Value.cells] at hcs
    obtain ⟨rfl, rfl, rfl⟩ := hcs
    have hd : d = .slice (lits k (zs.take len0)) (lits k (zs.drop len0)) := by
      have := congrArg Prod.fst hx; simpa using this
    have hz' : zs.length = cap0 := by simpa using hz
    have hlen : (zs.take len0).length = len0 := by simp; omega
    refine ⟨zs.take len0, ?_, fun n hn => hwz n (List.mem_of_mem_take hn), ?_⟩
    · refine ⟨some x, cap0, by rw [hlen], by rw [hlen]; exact hl, by unfold maxLen at hm; omega, by simp, ?_⟩
      have := cells_at (w := W) (a := x) (zs := zs.map (Value.int k)) (fun i hi => by
        have hi' : i < zs.length := by simpa using hi
        rw [hcell i hi', List.getD_eq_getElem?_getD, List.getD_eq_getElem?_getD, List.getElem?_map, List.getElem?_eq_getElem hi']; rfl) len0
      rw [← List.map_take] at this
      rcases this with h | ⟨b, off, rfl, hat⟩
      · exact .inl h
      · exact .inr ⟨b, off, rfl, hat⟩
    · have := hs ((zs.take len0).length * bytes + (zs.drop len0).length * bytes) (by rw [hd]; simp [DataW.weights, hT, hb, lits, Nat.add_mul])
      have hr : reachBytes = 140737488351232 := rfl
      rw [hr] at this
      omega

theorem weights_mem {P : Program} {E : TypeId} {x : DataW H} {l : List (DataW H)} {m : Nat} (h : x ∈ l) (hm : m ∈ x.weights P E) : m ∈ DataW.weightsAll P E l := by
  induction l with
  | nil => cases h
  | cons y r ih =>
    simp only [DataW.weightsAll, List.mem_append]
    rcases List.mem_cons.1 h with rfl | h
    · exact .inl hm
    · exact .inr (ih h)

theorem list_of {α : Type} {R : Nat → α → Prop} (n : Nat) (h : ∀ i, i < n → ∃ y, R i y) : ∃ xs : List α, xs.length = n ∧ ∀ i (hi : i < xs.length), R i xs[i] := by
  induction n with
  | zero => exact ⟨[], rfl, fun i hi => by simp at hi⟩
  | succ n ih =>
    obtain ⟨xs, h1, h2⟩ := ih (fun i hi => h i (by omega))
    obtain ⟨y, hy⟩ := h n (by omega)
    refine ⟨xs ++ [y], by simp [h1], fun i hi => ?_⟩
    by_cases hlt : i < xs.length
    · rw [List.getElem_append_left hlt]; exact h2 i hlt
    · have : i = xs.length := by simp at hi; omega
      subst this
      rw [List.getElem_append_right (Nat.le_refl _)]
      simp only [Nat.sub_self, List.getElem_cons_zero]
      rw [h1]; exact hy

theorem mapM_some {α β : Type} {f : α → Option β} {l : List α} {r : List β} (h : l.mapM f = some r) : l.length = r.length ∧ ∀ i (h1 : i < l.length) (h2 : i < r.length), f l[i] = some r[i] := by
  induction l generalizing r with
  | nil => simp at h; subst h; exact ⟨rfl, fun i h1 => by simp at h1⟩
  | cons x l ih =>
    rw [List.mapM_cons] at h
    cases hx : f x with
    | none => simp [hx] at h
    | some y =>
      cases hl : l.mapM f with
      | none => simp [hx, hl] at h
      | some ys =>
        simp [hx, hl] at h
        subst h
        obtain ⟨h1, h2⟩ := ih hl
        refine ⟨by simp [h1], fun i g1 g2 => ?_⟩
        cases i with
        | zero => simpa using hx
        | succ i => simpa using h2 i (by simpa using g1) (by simpa using g2)

theorem add_plain (b off j : Nat) : (⟨b, off, none⟩ : Addr).add j = ⟨b, off + j, none⟩ := by
  unfold Addr.add
  split <;> simp_all

theorem open_flat {T E s bytes : Nat} {α : Type} (encA : α → List Value) (Q : α → Prop) (hT : Tryd.prog.underlying T = some (.slice E)) (hs : Tryd.prog.cellsOf E = s) (hpos : 0 < s) (hb : Tryd.prog.bytesOf E = bytes)
    (hdec : ∀ fuel cs x, DataW.trod enc Tryd.prog W 0 (fun _ => true) true fuel E cs = some x → (∀ m ∈ x.1.weights Tryd.prog E, m ≤ reachBytes) → ∃ y, cs = encA y ∧ Q y) (hlen : ∀ y, (encA y).length = s)
    (hv : Value.okWide Tryd.prog W .any base T v) (h : DataW.Trod enc Tryd.prog W 0 (fun _ => true) true T v d p) (hsz : ∀ m ∈ d.weights Tryd.prog T, m ≤ reachBytes) :
    ∃ xs, Lk encA W v xs ∧ (∀ y ∈ xs, Q y) ∧ xs.length * bytes ≤ 140737488351232 := by
  obtain ⟨a0, len0, cap0, rfl⟩ := okWide_slice hT hv
  obtain ⟨fuel, hf⟩ := h
  rcases Deep.open_slice hT hf with ⟨hcs, _⟩ | ⟨a, l, c, m, n, D, Pl, hcs, _, hl, hm, hmm, hx, hel⟩
  · simp [Value.cells] at hcs
    obtain ⟨rfl, rfl, rfl⟩ := hcs
    exact ⟨[], ⟨none, 0, rfl, by simp, by simp, by simp, .inl rfl⟩, by simp, by simp⟩
  · simp [Value.cells] at hcs
    obtain ⟨rfl, rfl, rfl⟩ := hcs
    have hmc : m = cap0 := by simpa using hmm
    subst hmc
    have hd : d = .slice ((List.range len0).map D) ((List.range (m - len0)).map fun j => D (len0 + j)) := by
      have := congrArg Prod.fst hx; simpa using this
    rw [hs] at hel
    have hw : (len0 + (m - len0)) * bytes ≤ reachBytes := by
      refine hsz _ ?_
      rw [hd]
      simp [DataW.weights, hT, hb]
    have hD : ∀ i, i < len0 → ∀ k ∈ (D i).weights Tryd.prog E, k ≤ reachBytes := by
      intro i hi k hk
      refine hsz k ?_
      rw [hd]
      simp only [DataW.weights, hT, List.mem_cons, List.mem_append]
      exact .inr (.inl (weights_mem (List.mem_map.2 ⟨i, List.mem_range.2 hi, rfl⟩) hk))
    obtain ⟨xs, hxl, hxs⟩ := list_of (R := fun i y => Q y ∧ W.cells? 0 (a.add (i * s)) s = some (encA y)) len0 (fun i hi => by
      obtain ⟨cs', h1, h2⟩ := hel i (by omega)
      obtain ⟨y, rfl, hy⟩ := hdec n cs' (D i, Pl i) h2 (hD i hi)
      exact ⟨y, hy, h1⟩)
    refine ⟨xs, ?_, ?_, ?_⟩
    · refine ⟨some a, m, by rw [hxl], by rw [hxl]; exact hl, by unfold maxLen at hm; omega, by simp, ?_⟩
      have hcell : ∀ i (hi : i < xs.length) f (hf : f < s), W.cell? ((a.add (i * s)).add f) = (encA xs[i])[f]? := by
        intro i hi f hf
        have h1 := (hxs i hi).2
        unfold World.cells? at h1
        rw [if_pos (Nat.zero_le _)] at h1
        obtain ⟨_, h2⟩ := mapM_some h1
        have h3 := h2 f (by simpa using hf) (by rw [hlen]; exact hf)
        simp only [List.getElem_range] at h3
        rw [h3, List.getElem?_eq_getElem (by rw [hlen]; exact hf)]
      cases hxx : xs with
      | nil => exact .inl rfl
      | cons x r =>
        rw [← hxx]
        have hne : 0 < xs.length := by rw [hxx]; simp
        obtain ⟨b, off, spot⟩ := a
        have hspot : spot = none := by
          cases spot with
          | none => rfl
          | some sp =>
            have h0 := hcell 0 hne 0 hpos
            rw [List.getElem?_eq_getElem (by rw [hlen]; exact hpos)] at h0
            simp [Addr.add, World.cell?] at h0
            split at h0 <;> simp at h0
        subst hspot
        refine .inr ⟨b, off, rfl, ?_⟩
        intro j hj
        rw [flat_length hlen] at hj
        have hdiv : j / s < xs.length := Nat.div_lt_of_lt_mul (by rw [Nat.mul_comm]; exact hj)
        have hmod : j % s < s := Nat.mod_lt _ hpos
        have hplain : ((⟨b, off, none⟩ : Addr).add (j / s * s)).add (j % s) = ⟨b, off + j, none⟩ := by
          rw [Deep.add_add, Nat.div_add_mod', add_plain]
        have h1 := hcell (j / s) hdiv (j % s) hmod
        rw [hplain, ← flat_getElem? hlen xs (j / s) (j % s) hmod hdiv, Nat.div_add_mod'] at h1
        rw [h1, List.getElem?_eq_getElem]
    · intro y hy
      obtain ⟨i, hi, rfl⟩ := List.getElem_of_mem hy
      exact (hxs i hi).1
    · have hr : reachBytes = 140737488351232 := rfl
      rw [hr, Nat.add_mul] at hw
      rw [hxl]
      omega
end
end Go.Proofs.YtdiiefhklcchmaaDoor
/-
  FROM THE ROW's READING OF AN ARGUMENT TO PLAIN DATA, for any type that is built of integers, bools, strings, structs and slices; what the reading weighs. No condition.
-/
namespace Go.Proofs.YtdiiefhklcchmaaDoor
open Go.ChangeShapes Go.WideShapes Go.ChangeAt Go.RowKit

/-- how the cells of a type read as data, and what the data weigh -/
def DecT (W : World) (T : TypeId) (s : Nat) {α : Type} (R : List Value → α → Prop) (bk : α → Nat) : Prop :=
  ∀ (H : Type) (enc : TypeId × Value → H) (fuel : Nat) (cs : List Value) (x : DataW H × List MemPlace), DataW.trod enc Tryd.prog W 0 (fun _ => true) true fuel T cs = some x → (∀ m ∈ x.1.weights Tryd.prog T, m ≤ reachBytes) → ∃ y, R cs y ∧ cs.length = s ∧ bk y ≤ Rows.uptoBulk x.1
def intR (k : IntKind) (cs : List Value) (n : Int) : Prop := cs = [.int k n] ∧ (Lit.int k n).wf = true
def boolR (cs : List Value) (b : Bool) : Prop := cs = [.bool b]
def strR (cs : List Value) (t : ByteArray) : Prop := cs = [.string t] ∧ t.size ≤ 140737488351232
def sliceR (W : World) (s bytes : Nat) {α : Type} (R : List Value → α → Prop) (cs : List Value) (ys : List α) : Prop :=
  ∃ (v : Value) (css : List (List Value)), cs = [v] ∧ Sl W v ys.length css.flatten ∧ css.length = ys.length ∧ ys.length * bytes ≤ 140737488351232 ∧ ∀ i (h1 : i < css.length) (h2 : i < ys.length), css[i].length = s ∧ R css[i] ys[i]
def nilR (cs : List Value) (_ : Unit) : Prop := cs = []
def pairR {α β : Type} (R1 : List Value → α → Prop) (R2 : List Value → β → Prop) (cs : List Value) (y : α × β) : Prop := ∃ c1 c2, cs = c1 ++ c2 ∧ R1 c1 y.1 ∧ R2 c2 y.2

theorem bulk_pos {H : Type} (d : DataW H) : 1 ≤ Rows.uptoBulk d := by
  cases d with
  | lit l => cases l <;> simp [Rows.uptoBulk]
  | nil => simp [Rows.uptoBulk]
  | ptr d => simp [Rows.uptoBulk]
  | slice elems spare => simp [Rows.uptoBulk]
  | agg parts => simp [Rows.uptoBulk]
  | iface t d => simp [Rows.uptoBulk]
  | map entries => simp [Rows.uptoBulk]
  | held h => simp [Rows.uptoBulk]

theorem dec_int {W : World} {T : TypeId} {k : IntKind} (hT : Tryd.prog.underlying T = some (.int k)) : DecT W T 1 (intR k) (fun _ => 1) := by
  intro H enc fuel cs x h _
  obtain ⟨n, rfl, rfl, h2⟩ := DataW.trod_int hT h
  exact ⟨n, ⟨rfl, h2⟩, rfl, bulk_pos _⟩
theorem dec_bool {W : World} {T : TypeId} (hT : Tryd.prog.underlying T = some .bool) : DecT W T 1 boolR (fun _ => 1) := by
  intro H enc fuel cs x h _
  obtain ⟨b, rfl, rfl⟩ := DataW.trod_bool hT h
  exact ⟨b, rfl, rfl, bulk_pos _⟩
theorem dec_string {W : World} {T : TypeId} (hT : Tryd.prog.underlying T = some .string) : DecT W T 1 strR (fun t => t.size + 1) := by
  intro H enc fuel cs x h hw
  obtain ⟨s, rfl, rfl, _⟩ := DataW.trod_string hT h
  have h2 : s.size ≤ 140737488351232 := by
    have := hw s.data.toList.length (by simp [DataW.weights])
    simpa [reachBytes] using this
  exact ⟨s, ⟨rfl, h2⟩, rfl, by simp [Rows.uptoBulk]⟩

def DecFs (W : World) (fs : List Field) (off s : Nat) {α : Type} (R : List Value → α → Prop) (bk : α → Nat) : Prop :=
  ∀ (H : Type) (enc : TypeId × Value → H) (n : Nat) (cs : List Value) (xs : List (DataW H × List MemPlace)), xs.length = fs.length →
    (∀ (i : Nat) (f : Field), fs[i]? = some f → DataW.trod enc Tryd.prog W 0 (fun _ => true) true n f.type ((cs.drop f.offset).take (Tryd.prog.cellsOf f.type)) = xs[i]?) →
    (∀ m ∈ DataW.weightsEach Tryd.prog (fs.map (·.type)) (xs.map (·.1)), m ≤ reachBytes) → ∃ y, R ((cs.drop off).take s) y ∧ bk y ≤ Rows.uptoBulkAll (xs.map (·.1))
theorem decfs_nil {W : World} {off : Nat} : DecFs W [] off 0 nilR (fun _ => 0) := by
  intro H enc n cs xs hl _ _
  exact ⟨(), by simp [nilR], Nat.zero_le _⟩
theorem decfs_cons {W : World} {f : Field} {fs : List Field} {off s1 s2 : Nat} {α β : Type} {R1 : List Value → α → Prop} {b1 : α → Nat} {R2 : List Value → β → Prop} {b2 : β → Nat}
    (h1 : DecT W f.type s1 R1 b1) (h2 : DecFs W fs (off + s1) s2 R2 b2) (ho : f.offset = off) (hc : Tryd.prog.cellsOf f.type = s1) : DecFs W (f :: fs) off (s1 + s2) (pairR R1 R2) (fun y => b1 y.1 + b2 y.2) := by
  intro H enc n cs xs hl hx hw
  cases xs with
  | nil => simp at hl
  | cons x xs =>
    have e0 := hx 0 f rfl
    rw [List.getElem?_cons_zero] at e0
    obtain ⟨y1, r1, l1, k1⟩ := h1 H enc n _ x e0 (fun m hm => hw m (by simp only [List.map_cons, DataW.weightsEach, List.mem_append]; exact .inl hm))
    obtain ⟨y2, r2, k2⟩ := h2 H enc n cs xs (by simpa using hl) (fun i g hg => by have := hx (i + 1) g (by simpa using hg); simpa using this) (fun m hm => hw m (by simp only [List.map_cons, DataW.weightsEach, List.mem_append]; exact .inr hm))
    refine ⟨(y1, y2), ⟨_, _, ?_, r1, r2⟩, by simp only [List.map_cons, Rows.uptoBulkAll]; omega⟩
    rw [ho, hc, List.take_add, List.drop_drop]
theorem dec_struct {W : World} {T : TypeId} {fs : Array Field} {s : Nat} {α : Type} {R : List Value → α → Prop} {bk : α → Nat} (hT : Tryd.prog.underlying T = some (.struct fs)) (h : DecFs W fs.toList 0 s R bk) (hs : Tryd.prog.cellsOf T = s) : DecT W T s R (fun y => bk y + 1) := by
  intro H enc fuel cs x hx hw
  obtain ⟨xs, n, rfl, rfl, hl, hxl, hf⟩ := DataW.trod_struct hT hx
  obtain ⟨y, r, k⟩ := h H enc n cs xs (by simpa using hxl) (fun i f hi => hf i f (by simpa using hi)) (fun m hm => hw m (by simp only [DataW.weights, hT]; exact hm))
  refine ⟨y, ?_, hl.trans hs, by simp only [Rows.uptoBulk]; omega⟩
  rw [List.drop_zero, List.take_of_length_le (by omega)] at r
  exact r

theorem bulkAll_ge {H : Type} {l : List (DataW H)} {n : Nat} (D : Nat → DataW H) (b : Nat → Nat) (hl : l = (List.range n).map D) (h : ∀ i, i < n → b i ≤ Rows.uptoBulk (D i)) : ((List.range n).map b).sum ≤ Rows.uptoBulkAll l := by
  subst hl
  have key : ∀ k : List Nat, (∀ i ∈ k, i < n) → (k.map b).sum ≤ Rows.uptoBulkAll (k.map D) := by
    intro k
    induction k with
    | nil => intro _; simp
    | cons i r ih =>
      intro hk
      have h1 := h i (hk i (by simp))
      have h2 := ih (fun j hj => hk j (by simp [hj]))
      simp only [List.map_cons, List.sum_cons, Rows.uptoBulkAll]
      omega
  exact key _ (fun i hi => List.mem_range.1 hi)
theorem dec_slice {W : World} {T E s bytes : Nat} {α : Type} {R : List Value → α → Prop} {bk : α → Nat} (hT : Tryd.prog.underlying T = some (.slice E)) (hE : DecT W E s R bk) (hs : Tryd.prog.cellsOf E = s) (hpos : 0 < s) (hb : Tryd.prog.bytesOf E = bytes) :
    DecT W T 1 (sliceR W s bytes R) (fun ys => (ys.map bk).sum + 1) := by
  intro H enc fuel cs x hx hw
  rcases Deep.open_slice hT hx with ⟨hcs, rfl⟩ | ⟨a, len0, c, m, n, D, Pl, hcs, _, hl, hm, hmm, rfl, hel⟩
  · exact ⟨[], ⟨_, [], hcs, ⟨none, 0, rfl, by simp, by simp, by simp, .inl rfl⟩, rfl, by simp, fun i h1 => by simp at h1⟩, by rw [hcs]; rfl, by simp [Rows.uptoBulk]⟩
  · have hmc : m = c := by simpa using hmm
    subst hmc
    rw [hs] at hel
    have hwt : (len0 + (m - len0)) * bytes ≤ reachBytes := by
      refine hw _ ?_
      simp [DataW.weights, hT, hb]
    have hD : ∀ i, i < len0 → ∀ k ∈ (D i).weights Tryd.prog E, k ≤ reachBytes := by
      intro i hi k hk
      refine hw k ?_
      simp only [DataW.weights, hT, List.mem_cons, List.mem_append]
      exact .inr (.inl (weights_mem (List.mem_map.2 ⟨i, List.mem_range.2 hi, rfl⟩) hk))
    obtain ⟨zs, hzl, hzs⟩ := list_of (R := fun i (z : List Value × α) => R z.1 z.2 ∧ z.1.length = s ∧ W.cells? 0 (a.add (i * s)) s = some z.1 ∧ bk z.2 ≤ Rows.uptoBulk (D i)) len0 (fun i hi => by
      obtain ⟨cs', h1, h2⟩ := hel i (by omega)
      obtain ⟨y, r1, r2, r3⟩ := hE H enc n cs' (D i, Pl i) h2 (hD i hi)
      exact ⟨(cs', y), r1, r2, h1, r3⟩)
    refine ⟨zs.map (·.2), ⟨_, zs.map (·.1), hcs, ?_, by simp, ?_, ?_⟩, by rw [hcs]; rfl, ?_⟩
    · refine ⟨some a, m, by rw [List.length_map, hzl], by rw [List.length_map, hzl]; exact hl, by unfold maxLen at hm; omega, by simp, ?_⟩
      have hcell : ∀ i (hi : i < zs.length) f (hf : f < s), W.cell? ((a.add (i * s)).add f) = zs[i].1[f]? := by
        intro i hi f hf
        have h1 := (hzs i hi).2.2.1
        have hlen := (hzs i hi).2.1
        unfold World.cells? at h1
        rw [if_pos (Nat.zero_le _)] at h1
        obtain ⟨_, h2⟩ := mapM_some h1
        have h3 := h2 f (by simpa using hf) (by rw [hlen]; exact hf)
        simp only [List.getElem_range] at h3
        rw [h3, List.getElem?_eq_getElem (by rw [hlen]; exact hf)]
      have hall : ∀ l ∈ zs, l.1.length = s := fun l hl => by obtain ⟨i, hi, rfl⟩ := List.getElem_of_mem hl; exact (hzs i hi).2.1
      have hflat : ∀ (l : List (List Value × α)), (∀ z ∈ l, z.1.length = s) → ((l.map (·.1)).flatten.length = l.length * s ∧ ∀ i (hi : i < l.length) f, f < s → (l.map (·.1)).flatten[i * s + f]? = l[i].1[f]?) := by
        intro l
        induction l with
        | nil => intro _; exact ⟨by simp, fun i hi => by simp at hi⟩
        | cons z r ih =>
          intro hz
          have hz0 := hz z (by simp)
          obtain ⟨i1, i2⟩ := ih (fun y hy => hz y (by simp [hy]))
          refine ⟨by rw [List.map_cons, List.flatten_cons, List.length_append, hz0, i1, List.length_cons, Nat.succ_mul]; omega, ?_⟩
          intro i hi f hf
          rw [List.map_cons, List.flatten_cons]
          cases i with
          | zero => rw [List.getElem?_append_left (by rw [hz0]; omega)]; simp
          | succ i =>
            rw [List.getElem?_append_right (by rw [hz0, Nat.succ_mul]; omega), hz0, show (i + 1) * s + f - s = i * s + f by rw [Nat.succ_mul]; omega, i2 i (by simpa using hi) f hf]
            simp
      obtain ⟨fl1, fl2⟩ := hflat zs hall
      cases hzz : zs with
      | nil => exact .inl rfl
      | cons z r =>
        rw [← hzz]
        have hne : 0 < zs.length := by rw [hzz]; simp
        obtain ⟨b, off, spot⟩ := a
        have hspot : spot = none := by
          cases spot with
          | none => rfl
          | some sp =>
            have h0 := hcell 0 hne 0 hpos
            rw [List.getElem?_eq_getElem (by rw [(hzs 0 hne).2.1]; exact hpos)] at h0
            simp [Addr.add, World.cell?] at h0
            split at h0 <;> simp at h0
        subst hspot
        refine .inr ⟨b, off, rfl, ?_⟩
        intro j hj
        rw [fl1] at hj
        have hdiv : j / s < zs.length := Nat.div_lt_of_lt_mul (by rw [Nat.mul_comm]; exact hj)
        have hmod : j % s < s := Nat.mod_lt _ hpos
        have hplain : ((⟨b, off, none⟩ : Addr).add (j / s * s)).add (j % s) = ⟨b, off + j, none⟩ := by
          rw [Deep.add_add, Nat.div_add_mod', add_plain]
        have h1 := hcell (j / s) hdiv (j % s) hmod
        rw [hplain, ← fl2 (j / s) hdiv (j % s) hmod, Nat.div_add_mod'] at h1
        rw [h1, List.getElem?_eq_getElem]
    · have hr : reachBytes = 140737488351232 := rfl
      rw [hr, Nat.add_mul] at hwt
      rw [List.length_map, hzl]
      omega
    · intro i h1 h2
      have h3 : i < zs.length := by simpa using h1
      have := hzs i h3
      simp only [List.getElem_map]
      exact ⟨this.2.1, this.1⟩
    · have e1 := bulkAll_ge (l := (List.range len0).map D) (n := len0) D (fun i => if h : i < zs.length then bk zs[i].2 else 0) rfl (fun i hi => by rw [dif_pos (by omega)]; exact (hzs i (by omega)).2.2.2)
      have e4 : (zs.map (·.2)).map bk = (List.range len0).map (fun i => if h : i < zs.length then bk zs[i].2 else 0) := by
        apply List.ext_getElem
        · simp [hzl]
        · intro i h1 h2
          have h3 : i < zs.length := by simpa using h1
          simp [h3]
      rw [← e4] at e1
      simp only [Rows.uptoBulk]
      omega

theorem dec_map {W : World} {T : TypeId} {s : Nat} {α β : Type} {R : List Value → α → Prop} {bk : α → Nat} {R' : List Value → β → Prop} {bk' : β → Nat} (h : DecT W T s R bk) (f : α → β) (h1 : ∀ cs y, R cs y → R' cs (f y)) (h2 : ∀ y, bk' (f y) ≤ bk y) : DecT W T s R' bk' := by
  intro H enc fuel cs x hx hw
  obtain ⟨y, r1, r2, r3⟩ := h H enc fuel cs x hx hw
  exact ⟨f y, h1 _ _ r1, r2, Nat.le_trans (h2 y) r3⟩

/-- a struct by value -/
def IsAgg {α : Type} (R : List Value → α → Prop) (v : Value) (x : α) : Prop := ∃ cs : List Value, v = .agg cs.toArray ∧ R cs x

set_option maxRecDepth 100000
open Go.ChangeMaps (open_string)
section
variable {H : Type} {enc : TypeId × Value → H} {W : World} {base : Nat} {v : Value} {d : DataW H} {p : List MemPlace} {T : TypeId}
theorem up_int {k : IntKind} (hT : Tryd.prog.underlying T = some (.int k)) (hv : Value.okWide Tryd.prog W .any base T v) (h : DataW.Trod enc Tryd.prog W 0 (fun _ => true) true T v d p) (_ : ∀ m ∈ d.weights Tryd.prog T, m ≤ reachBytes) : ∃ x, IsInt k W v x ∧ 1 ≤ Rows.uptoBulk d := by
  obtain ⟨x, rfl, rfl, rfl, w⟩ := open_int hT hv h
  exact ⟨x, ⟨rfl, w⟩, bulk_pos _⟩
theorem up_string (hT : Tryd.prog.underlying T = some .string) (hv : Value.okWide Tryd.prog W .any base T v) (h : DataW.Trod enc Tryd.prog W 0 (fun _ => true) true T v d p) (hs : ∀ m ∈ d.weights Tryd.prog T, m ≤ reachBytes) : ∃ x, IsStr W v x ∧ x.size + 1 ≤ Rows.uptoBulk d := by
  obtain ⟨x, rfl, rfl, rfl, w⟩ := open_string hT hv h
  have := hs x.data.toList.length (by simp [DataW.weights])
  exact ⟨x, ⟨rfl, by simpa [reachBytes] using this⟩, by simp [Rows.uptoBulk]⟩
theorem up_bool (hT : Tryd.prog.underlying T = some .bool) (hv : Value.okWide Tryd.prog W .any base T v) (h : DataW.Trod enc Tryd.prog W 0 (fun _ => true) true T v d p) (_ : ∀ m ∈ d.weights Tryd.prog T, m ≤ reachBytes) : ∃ x, IsBool W v x ∧ 1 ≤ Rows.uptoBulk d := by
  obtain ⟨b, rfl⟩ := okWide_bool hT hv
  exact ⟨b, rfl, bulk_pos _⟩
theorem up_slice {E s : Nat} {α : Type} {R : List Value → α → Prop} {bk : α → Nat} (hT : Tryd.prog.underlying T = some (.slice E)) (D : DecT W T s R bk) (hv : Value.okWide Tryd.prog W .any base T v) (h : DataW.Trod enc Tryd.prog W 0 (fun _ => true) true T v d p) (hs : ∀ m ∈ d.weights Tryd.prog T, m ≤ reachBytes) : ∃ x, R [v] x ∧ bk x ≤ Rows.uptoBulk d := by
  obtain ⟨a0, len0, cap0, rfl⟩ := okWide_slice hT hv
  obtain ⟨fuel, hf⟩ := h
  obtain ⟨y, r, _, k⟩ := D H enc fuel _ (d, p) hf hs
  exact ⟨y, by simpa [Value.cells] using r, k⟩
theorem up_struct {fs : Array Field} {s : Nat} {α : Type} {R : List Value → α → Prop} {bk : α → Nat} (hT : Tryd.prog.underlying T = some (.struct fs)) (D : DecT W T s R bk) (hv : Value.okWide Tryd.prog W .any base T v) (h : DataW.Trod enc Tryd.prog W 0 (fun _ => true) true T v d p) (hs : ∀ m ∈ d.weights Tryd.prog T, m ≤ reachBytes) : ∃ x, IsAgg R v x ∧ bk x ≤ Rows.uptoBulk d := by
  obtain ⟨cs, rfl, _⟩ := okWide_struct hT hv
  obtain ⟨fuel, hf⟩ := h
  obtain ⟨y, r, _, k⟩ := D H enc fuel _ (d, p) hf hs
  exact ⟨y, ⟨cs.toList, by simp, by simpa [Value.cells] using r⟩, k⟩
end
end Go.Proofs.YtdiiefhklcchmaaDoor
