/-
  FROM THE ROW's READING OF AN ARGUMENT TO PLAIN DATA, for any type that is built of integers, bools, strings, structs and slices; what the reading weighs. No condition.
-/
import Derived.Test.YtnifgmijjggjjaaDoorGAsmSays3
namespace Go.Proofs.YtnifgmijjggjjaaDoor
open Go.ChangeShapes Go.WideShapes Go.ChangeAt Go.RowKit

/-- how the cells of a type read as data, and what the data weigh -/
def DecT (W : World) (T : TypeId) (s : Nat) {α : Type} (R : List Value → α → Prop) (bk : α → Nat) : Prop :=
  ∀ (H : Type) (enc : TypeId × Value → H) (fuel : Nat) (cs : List Value) (x : DataW H × List MemPlace), DataW.trod enc Tryd.prog W 0 (fun _ => true) true fuel T cs = some x → (∀ m ∈ x.1.weights Tryd.prog T, m ≤ reachBytes) → ∃ y, R cs y ∧ cs.length = s ∧ bk y ≤ Rows.uptoBulk x.1
def intR (k : IntKind) (cs : List Value) (n : Int) : Prop := cs = [.int k n] ∧ (Lit.int k n).wf = true
def boolR (cs : List Value) (b : Bool) : Prop := cs = [.bool b]
def strR (cs : List Value) (t : ByteArray) : Prop := cs = [.string t] ∧ t.size ≤ 140737488351232
def sliceR (W : World) (s bytes : Nat) {α : Type} (R : List Value → α → Prop) (cs : List Value) (ys : List α) : Prop :=
  ∃ (v : Value) (css : List (List Value)), cs = [v] ∧ Sl W v ys.length css.flatten ∧ css.length = ys.length ∧ ys.length * bytes ≤ 140737488351232 ∧ ∀ i (h1 : i < css.length) (h2 : i < ys.length), css[i].length = s ∧ R css[i] ys[i]
def nilR (cs : List Value) (_ : Unit) : Prop := cs = []
def pairR {α β : Type} (R1 : List Value → α → Prop) (R2 : List Value → β → Prop) (cs : List Value) (y : α × β) : Prop := ∃ c1 c2, cs = c1 ++ c2 ∧ R1 c1 y.1 ∧ R2 c2 y.2

theorem bulk_pos {H : Type} (d : DataW H) : 1 ≤ Rows.uptoBulk d := by
  cases d with
  | lit l => cases l <;> simp [Rows.uptoBulk]
  | nil => simp [Rows.uptoBulk]
  | ptr d => simp [Rows.uptoBulk]
  | slice elems spare => simp [Rows.uptoBulk]
  | agg parts => simp [Rows.uptoBulk]
  | iface t d => simp [Rows.uptoBulk]
  | map entries => simp [Rows.uptoBulk]
  | held h => simp [Rows.uptoBulk]

theorem dec_int {W : World} {T : TypeId} {k : IntKind} (hT : Tryd.prog.underlying T = some (.int k)) : DecT W T 1 (intR k) (fun _ => 1) := by
  intro H enc fuel cs x h _
  obtain ⟨n, rfl, rfl, h2⟩ := DataW.trod_int hT h
  exact ⟨n, ⟨rfl, h2⟩, rfl, bulk_pos _⟩
theorem dec_bool {W : World} {T : TypeId} (hT : Tryd.prog.underlying T = some .bool) : DecT W T 1 boolR (fun _ => 1) := by
  intro H enc fuel cs x h _
  obtain ⟨b, rfl, rfl⟩ := DataW.trod_bool hT h
  exact ⟨b, rfl, rfl, bulk_pos _⟩
theorem dec_string {W : World} {T : TypeId} (hT : Tryd.prog.underlying T = some .string) : DecT W T 1 strR (fun t => t.size + 1) := by
  intro H enc fuel cs x h hw
  obtain ⟨s, rfl, rfl, _⟩ := DataW.trod_string hT h
  have h2 : s.size ≤ 140737488351232 := by
    have := hw s.data.toList.length (by simp [DataW.weights])
    simpa [reachBytes] using this
  exact ⟨s, ⟨rfl, h2⟩, rfl, by simp [Rows.uptoBulk]⟩

def DecFs (W : World) (fs : List Field) (off s : Nat) {α : Type} (R : List Value → α → Prop) (bk : α → Nat) : Prop :=
  ∀ (H : Type) (enc : TypeId × Value → H) (n : Nat) (cs : List Value) (xs : List (DataW H × List MemPlace)), xs.length = fs.length →
    (∀ (i : Nat) (f : Field), fs[i]? = some f → DataW.trod enc Tryd.prog W 0 (fun _ => true) true n f.type ((cs.drop f.offset).take (Tryd.prog.cellsOf f.type)) = xs[i]?) →
    (∀ m ∈ DataW.weightsEach Tryd.prog (fs.map (·.type)) (xs.map (·.1)), m ≤ reachBytes) → ∃ y, R ((cs.drop off).take s) y ∧ bk y ≤ Rows.uptoBulkAll (xs.map (·.1))
theorem decfs_nil {W : World} {off : Nat} : DecFs W [] off 0 nilR (fun _ => 0) := by
  intro H enc n cs xs hl _ _
  exact ⟨(), by simp [nilR], Nat.zero_le _⟩
theorem decfs_cons {W : World} {f : Field} {fs : List Field} {off s1 s2 : Nat} {α β : Type} {R1 : List Value → α → Prop} {b1 : α → Nat} {R2 : List Value → β → Prop} {b2 : β → Nat}
    (h1 : DecT W f.type s1 R1 b1) (h2 : DecFs W fs (off + s1) s2 R2 b2) (ho : f.offset = off) (hc : Tryd.prog.cellsOf f.type = s1) : DecFs W (f :: fs) off (s1 + s2) (pairR R1 R2) (fun y => b1 y.1 + b2 y.2) := by
  intro H enc n cs xs hl hx hw
  cases xs with
  | nil => simp at hl
  | cons x xs =>
    have e0 := hx 0 f rfl
    rw [List.getElem?_cons_zero] at e0
    obtain ⟨y1, r1, l1, k1⟩ := h1 H enc n _ x e0 (fun m hm => hw m (by simp only [List.map_cons, DataW.weightsEach, List.mem_append]; exact .inl hm))
    obtain ⟨y2, r2, k2⟩ := h2 H enc n cs xs (by simpa using hl) (fun i g hg => by have := hx (i + 1) g (by simpa using hg); simpa using this) (fun m hm => hw m (by simp only [List.map_cons, DataW.weightsEach, List.mem_append]; exact .inr hm))
    refine ⟨(y1, y2), ⟨_, _, ?_, r1, r2⟩, by simp only [List.map_cons, Rows.uptoBulkAll]; omega⟩
    rw [ho, hc, List.take_add, List.drop_drop]
theorem dec_struct {W : World} {T : TypeId} {fs : Array Field} {s : Nat} {α : Type} {R : List Value → α → Prop} {bk : α → Nat} (hT : Tryd.prog.underlying T = some (.struct fs)) (h : DecFs W fs.toList 0 s R bk) (hs : Tryd.prog.cellsOf T = s) : DecT W T s R (fun y => bk y + 1) := by
  intro H enc fuel cs x hx hw
  obtain ⟨xs, n, rfl, rfl, hl, hxl, hf⟩ := DataW.trod_struct hT hx
  obtain ⟨y, r, k⟩ := h H enc n cs xs (by simpa using hxl) (fun i f hi => hf i f (by simpa using hi)) (fun m hm => hw m (by simp only [DataW.weights, hT]; exact hm))
  refine ⟨y, ?_, hl.trans hs, by simp only [Rows.uptoBulk]; omega⟩
  rw [List.drop_zero, List.take_of_length_le (by omega)] at r
  exact r

theorem bulkAll_ge {H : Type} {l : List (DataW H)} {n : Nat} (D : Nat → DataW H) (b : Nat → Nat) (hl : l = (List.range n).map D) (h : ∀ i, i < n → b i ≤ Rows.uptoBulk (D i)) : ((List.range n).map b).sum ≤ Rows.uptoBulkAll l := by
  subst hl
  have key : ∀ k : List Nat, (∀ i ∈ k, i < n) → (k.map b).sum ≤ Rows.uptoBulkAll (k.map D) := by
    intro k
    induction k with
    | nil => intro _; simp
    | cons i r ih =>
      intro hk
      have h1 := h i (hk i (by simp))
      have h2 := ih (fun j hj => hk j (by simp [hj]))
      simp only [List.map_cons, List.sum_cons, Rows.uptoBulkAll]
      omega
  exact key _ (fun i hi => List.mem_range.1 hi)
theorem dec_slice {W : World} {T E s bytes : Nat} {α : Type} {R : List Value → α → Prop} {bk : α → Nat} (hT : Tryd.prog.underlying T = some (.slice E)) (hE : DecT W E s R bk) (hs : Tryd.prog.cellsOf E = s) (hpos : 0 < s) (hb : Tryd.prog.bytesOf E = bytes) :
    DecT W T 1 (sliceR W s bytes R) (fun ys => (ys.map bk).sum + 1) := by
  intro H enc fuel cs x hx hw
  rcases Deep.open_slice hT hx with ⟨hcs, rfl⟩ | ⟨a, len0, c, m, n, D, Pl, hcs, _, hl, hm, hmm, rfl, hel⟩
  · exact ⟨[], ⟨_, [], hcs, ⟨none, 0, rfl, by simp, by simp, by simp, .inl rfl⟩, rfl, by simp, fun i h1 => by simp at h1⟩, by rw [hcs]; rfl, by simp [Rows.uptoBulk]⟩
  · have hmc : m = c := by simpa using hmm
    subst hmc
    rw [hs] at hel
    have hwt : (len0 + (m - len0)) * bytes ≤ reachBytes := by
      refine hw _ ?_
      simp [DataW.weights, hT, hb]
    have hD : ∀ i, i < len0 → ∀ k ∈ (D i).weights Tryd.prog E, k ≤ reachBytes := by
      intro i hi k hk
      refine hw k ?_
      simp only [DataW.weights, hT, List.mem_cons, List.mem_append]
      exact .inr (.inl (weights_mem (List.mem_map.2 ⟨i, List.mem_range.2 hi, rfl⟩) hk))
    obtain ⟨zs, hzl, hzs⟩ := list_of (R := fun i (z : List Value × α) => R z.1 z.2 ∧ z.1.length = s ∧ W.cells? 0 (a.add (i * s)) s = some z.1 ∧ bk z.2 ≤ Rows.uptoBulk (D i)) len0 (fun i hi => by
      obtain ⟨cs', h1, h2⟩ := hel i (by omega)
      obtain ⟨y, r1, r2, r3⟩ := hE H enc n cs' (D i, Pl i) h2 (hD i hi)
      exact ⟨(cs', y), r1, r2, h1, r3⟩)
    refine ⟨zs.map (·.2), ⟨_, zs.map (·.1), hcs, ?_, by simp, ?_, ?_⟩, by rw [hcs]; rfl, ?_⟩
    · refine ⟨some a, m, by rw [List.length_map, hzl], by rw [List.length_map, hzl]; exact hl, by unfold maxLen at hm; omega, by simp, ?_⟩
      have hcell : ∀ i (hi : i < zs.length) f (hf : f < s), W.cell? ((a.add (i * s)).add f) = zs[i].1[f]? := by
        intro i hi f hf
        have h1 := (hzs i hi).2.2.1
        have hlen := (hzs i hi).2.1
        unfold World.cells? at h1
        rw [if_pos (Nat.zero_le _)] at h1
        obtain ⟨_, h2⟩ := mapM_some h1
        have h3 := h2 f (by simpa using hf) (by rw [hlen]; exact hf)
        simp only [List.getElem_range] at h3
        rw [h3, List.getElem?_eq_getElem (by rw [hlen]; exact hf)]
      have hall : ∀ l ∈ zs, l.1.length = s := fun l hl => by obtain ⟨i, hi, rfl⟩ := List.getElem_of_mem hl; exact (hzs i hi).2.1
      have hflat : ∀ (l : List (List Value × α)), (∀ z ∈ l, z.1.length = s) → ((l.map (·.1)).flatten.length = l.length * s ∧ ∀ i (hi : i < l.length) f, f < s → (l.map (·.1)).flatten[i * s + f]? = l[i].1[f]?) := by
        intro l
        induction l with
        | nil => intro _; exact ⟨by simp, fun i hi => by simp at hi⟩
        | cons z r ih =>
          intro hz
          have hz0 := hz z (by simp)
          obtain ⟨i1, i2⟩ := ih (fun y hy => hz y (by simp [hy]))
          refine ⟨by rw [List.map_cons, List.flatten_cons, List.length_append, hz0, i1, List.length_cons, Nat.succ_mul]; omega, ?_⟩
          intro i hi f hf
          rw [List.map_cons, List.flatten_cons]
          cases i with
          | zero => rw [List.getElem?_append_left (by rw [hz0]; omega)]; simp
          | succ i =>
            rw [List.getElem?_append_right (by rw [hz0, Nat.succ_mul]; omega), hz0, show (i + 1) * s + f - s = i * s + f by rw [Nat.succ_mul]; omega, i2 i (by simpa using hi) f hf]
            simp
      obtain ⟨fl1, fl2⟩ := hflat zs hall
      cases hzz : zs with
      | nil => exact .inl rfl
      | cons z r =>
        rw [← hzz]
        have hne : 0 < zs.length := by rw [hzz]; simp
        obtain ⟨b, off, spot⟩ := a
        have hspot : spot = none := by
          cases spot with
          | none => rfl
          | some sp =>
            have h0 := hcell 0 hne 0 hpos
            rw [List.getElem?_eq_getElem (by rw [(hzs 0 hne).2.1]; exact hpos)] at h0
            simp [Addr.add, World.cell?] at h0
            split at h0 <;> simp at h0
        subst hspot
        refine .inr ⟨b, off, rfl, ?_⟩
        intro j hj
        rw [fl1] at hj
        have hdiv : j / s < zs.length := Nat.div_lt_of_lt_mul (by rw [Nat.mul_comm]; exact hj)
        have hmod : j % s < s := Nat.mod_lt _ hpos
        have hplain : ((⟨b, off, none⟩ : Addr).add (j / s * s)).add (j % s) = ⟨b, off + j, none⟩ := by
          rw [Deep.add_add, Nat.div_add_mod', add_plain]
        have h1 := hcell (j / s) hdiv (j % s) hmod
        rw [hplain, ← fl2 (j / s) hdiv (j % s) hmod, Nat.div_add_mod'] at h1
        rw [h1, List.getElem?_eq_getElem]
    · have hr : reachBytes = 140737488351232 := rfl
      rw [hr, Nat.add_mul] at hwt
      rw [List.length_map, hzl]
      omega
    · intro i h1 h2
      have h3 : i < zs.length := by simpa using h1
      have := hzs i h3
      simp only [List.getElem_map]
      exact ⟨this.2.1, this.1⟩
    · have e1 := bulkAll_ge (l := (List.range len0).map D) (n := len0) D (fun i => if h : i < zs.length then bk zs[i].2 else 0) rfl (fun i hi => by rw [dif_pos (by omega)]; exact (hzs i (by omega)).2.2.2)
      have e4 : (zs.map (·.2)).map bk = (List.range len0).map (fun i => if h : i < zs.length then bk zs[i].2 else 0) := by
        apply List.ext_getElem
        · simp [hzl]
        · intro i h1 h2
          have h3 : i < zs.length := by simpa using h1
          simp [h3]
      rw [← e4] at e1
      simp only [Rows.uptoBulk]
      omega

theorem dec_map {W : World} {T : TypeId} {s : Nat} {α β : Type} {R : List Value → α → Prop} {bk : α → Nat} {R' : List Value → β → Prop} {bk' : β → Nat} (h : DecT W T s R bk) (f : α → β) (h1 : ∀ cs y, R cs y → R' cs (f y)) (h2 : ∀ y, bk' (f y) ≤ bk y) : DecT W T s R' bk' := by
  intro H enc fuel cs x hx hw
  obtain ⟨y, r1, r2, r3⟩ := h H enc fuel cs x hx hw
  exact ⟨f y, h1 _ _ r1, r2, Nat.le_trans (h2 y) r3⟩

/-- a struct by value -/
def IsAgg {α : Type} (R : List Value → α → Prop) (v : Value) (x : α) : Prop := ∃ cs : List Value, v = .agg cs.toArray ∧ R cs x

set_option maxRecDepth 100000
open Go.ChangeMaps (open_string)
section
variable {H : Type} {enc : TypeId × Value → H} {W : World} {base : Nat} {v : Value} {d : DataW H} {p : List MemPlace} {T : TypeId}
theorem up_int {k : IntKind} (hT : Tryd.prog.underlying T = some (.int k)) (hv : Value.okWide Tryd.prog W .any base T v) (h : DataW.Trod enc Tryd.prog W 0 (fun _ => true) true T v d p) (_ : ∀ m ∈ d.weights Tryd.prog T, m ≤ reachBytes) : ∃ x, IsInt k W v x ∧ 1 ≤ Rows.uptoBulk d := by
  obtain ⟨x, rfl, rfl, rfl, w⟩ := open_int hT hv h
  exact ⟨x, ⟨rfl, w⟩, bulk_pos _⟩
theorem up_string (hT : Tryd.prog.underlying T = some .string) (hv : Value.okWide Tryd.prog W .any base T v) (h : DataW.Trod enc Tryd.prog W 0 (fun _ => true) true T v d p) (hs : ∀ m ∈ d.weights Tryd.prog T, m ≤ reachBytes) : ∃ x, IsStr W v x ∧ x.size + 1 ≤ Rows.uptoBulk d := by
  obtain ⟨x, rfl, rfl, rfl, w⟩ := open_string hT hv h
  have := hs x.data.toList.length (by simp [DataW.weights])
  exact ⟨x, ⟨rfl, by simpa [reachBytes] using this⟩, by simp [Rows.uptoBulk]⟩
theorem up_bool (hT : Tryd.prog.underlying T = some .bool) (hv : Value.okWide Tryd.prog W .any base T v) (h : DataW.Trod enc Tryd.prog W 0 (fun _ => true) true T v d p) (_ : ∀ m ∈ d.weights Tryd.prog T, m ≤ reachBytes) : ∃ x, IsBool W v x ∧ 1 ≤ Rows.uptoBulk d := by
  obtain ⟨b, rfl⟩ := okWide_bool hT hv
  exact ⟨b, rfl, bulk_pos _⟩
theorem up_slice {E s : Nat} {α : Type} {R : List Value → α → Prop} {bk : α → Nat} (hT : Tryd.prog.underlying T = some (.slice E)) (D : DecT W T s R bk) (hv : Value.okWide Tryd.prog W .any base T v) (h : DataW.Trod enc Tryd.prog W 0 (fun _ => true) true T v d p) (hs : ∀ m ∈ d.weights Tryd.prog T, m ≤ reachBytes) : ∃ x, R [v] x ∧ bk x ≤ Rows.uptoBulk d := by
  obtain ⟨a0, len0, cap0, rfl⟩ := okWide_slice hT hv
  obtain ⟨fuel, hf⟩ := h
  obtain ⟨y, r, _, k⟩ := D H enc fuel _ (d, p) hf hs
  exact ⟨y, by simpa [Value.cells] using r, k⟩
theorem up_struct {fs : Array Field} {s : Nat} {α : Type} {R : List Value → α → Prop} {bk : α → Nat} (hT : Tryd.prog.underlying T = some (.struct fs)) (D : DecT W T s R bk) (hv : Value.okWide Tryd.prog W .any base T v) (h : DataW.Trod enc Tryd.prog W 0 (fun _ => true) true T v d p) (hs : ∀ m ∈ d.weights Tryd.prog T, m ≤ reachBytes) : ∃ x, IsAgg R v x ∧ bk x ≤ Rows.uptoBulk d := by
  obtain ⟨cs, rfl, _⟩ := okWide_struct hT hv
  obtain ⟨fuel, hf⟩ := h
  obtain ⟨y, r, _, k⟩ := D H enc fuel _ (d, p) hf hs
  exact ⟨y, ⟨cs.toList, by simp, by simpa [Value.cells] using r⟩, k⟩
end
end Go.Proofs.YtnifgmijjggjjaaDoor
