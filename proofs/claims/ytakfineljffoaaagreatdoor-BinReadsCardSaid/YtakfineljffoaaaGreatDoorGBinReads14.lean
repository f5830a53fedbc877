/-
  FROM THE ROW's READING OF AN ARGUMENT TO PLAIN DATA, for any type that is built of integers, bools, strings, structs and slices; what the reading weighs. No condition.
-/
import Derived.Test.YtakfineljffoaaaGreatDoorGBinReads7
import Derived.Test.YtakfineljffoaaaGreatDoorGBinReads11
import Derived.Test.YtakfineljffoaaaGreatDoorGBinReads13
namespace Go.Proofs.YtakfineljffoaaaGreatDoor
open Go.ChangeShapes Go.WideShapes Go.ChangeAt Go.RowKit

/-- how the cells of a type read as data, and what the data weigh -/
def DecT (W : World) (T : TypeId) (s : Nat) {α : Type} (R : List Value → α → Prop) (bk : α → Nat) : Prop :=
  ∀ (H : Type) (enc : TypeId × Value → H) (fuel : Nat) (cs : List Value) (x : DataW H × List MemPlace), DataW.trod enc Tryz.prog W 0 (fun _ => true) true fuel T cs = some x → (∀ m ∈ x.1.weights Tryz.prog T, m ≤ reachBytes) → ∃ y, R cs y ∧ cs.length = s ∧ bk y ≤ Rows.uptoBulk x.1
def intR (k : IntKind) (cs : List Value) (n : Int) : Prop := cs = [.int k n] ∧ (Lit.int k n).wf = true
def boolR (cs : List Value) (b : Bool) : Prop := cs = [.bool b]
def strR (cs : List Value) (t : ByteArray) : Prop := cs = [.string t] ∧ t.size ≤ 140737488351232
def sliceR (W : World) (s bytes : Nat) {α : Type} (R : List Value → α → Prop) (cs : List Value) (ys : List α) : Prop :=
  ∃ (v : Value) (css : List (List Value)), cs = [v] ∧ Sl W v ys.length css.flatten ∧ css.length = ys.length ∧ ys.length * bytes ≤ 140737488351232 ∧ ∀ i (h1 : i < css.length) (h2 : i < ys.length), css[i].length = s ∧ R css[i] ys[i]
def nilR (cs : List Value) (_ : Unit) : Prop := cs = []
def pairR {α β : Type} (R1 : List Value → α → Prop) (R2 : List Value → β → Prop) (cs : List Value) (y : α × β) : Prop := ∃ c1 c2, cs = c1 ++ c2 ∧ R1 c1 y.1 ∧ R2 c2 y.2

theorem bulk_pos {H : Type} (d : DataW H) : 1 ≤ Rows.uptoBulk d := by
  cases d with
  | lit l => cases l <;> simp [Rows.uptoBulk]
  | nil => simp [Rows.uptoBulk]
  | ptr d => simp [Rows.uptoBulk]
  | slice elems spare => simp [Rows.uptoBulk]
  | agg parts => simp [Rows.uptoBulk]
  | iface t d => simp [Rows.uptoBulk]
  | map entries => simp [Rows.uptoBulk]
  | held h => simp [Rows.uptoBulk]

theorem dec_int {W : World} {T : TypeId} {k : IntKind} (hT : Tryz.prog.underlying T = some (.int k)) : DecT W T 1 (intR k) (fun _ => 1) := by
  intro H enc fuel cs x h _
  obtain ⟨n, rfl, rfl, h2⟩ := DataW.trod_int hT h
  exact ⟨n, ⟨rfl, h2⟩, rfl, bulk_pos _⟩
theorem dec_bool {W : World} {T : TypeId} (hT : Tryz.prog.underlying T = some .bool) : DecT W T 1 boolR (fun _ => 1) := by
  intro H enc fuel cs x h _
  obtain ⟨b, rfl, rfl⟩ := DataW.trod_bool hT h
  exact ⟨b, rfl, rfl, bulk_pos _⟩
theorem dec_string {W : World} {T : TypeId} (hT : Tryz.prog.underlying T = some .string) : DecT W T 1 strR (fun t => t.size + 1) := by
  intro H enc fuel cs x h hw
  obtain ⟨s, rfl, rfl, _⟩ := DataW.trod_string hT h
  have h2 : s.size ≤ 140737488351232 := by
    have := hw s.data.toList.length (by simp [DataW.weights])
    simpa [reachBytes] using this
  exact ⟨s, ⟨rfl, h2⟩, rfl, by simp [Rows.uptoBulk]⟩

def DecFs (W : World) (fs : List Field) (off s : Nat) {α : Type} (R : List Value → α → Prop) (bk : α → Nat) : Prop :=
  ∀ (H : Type) (enc : TypeId × Value → H) (n : Nat) (cs : List Value) (xs : List (DataW H × List MemPlace)), xs.length = fs.length →
    (∀ (i : Nat) (f : Field), fs[i]? = some f → DataW.trod enc Tryz.prog W 0 (fun _ => true) true n f.type ((cs.drop f.offset).take (Tryz.prog.cellsOf f.type)) = xs[i]?) →
    (∀ m ∈ DataW.weightsEach Tryz.prog (fs.map (·.type)) (xs.map (·.1)), m ≤ reachBytes) → ∃ y, R ((cs.drop off).take s) y ∧ bk y ≤ Rows.uptoBulkAll (xs.map (·.1))
theorem decfs_nil {W : World} {off : Nat} : DecFs W [] off 0 nilR (fun _ => 0) := by
  intro H enc n cs xs hl _ _
  exact ⟨(), by simp [nilR], Nat.zero_le _⟩
theorem decfs_cons {W : World} {f : Field} {fs : List Field} {off s1 s2 : Nat} {α β : Type} {R1 : List Value → α → Prop} {b1 : α → Nat} {R2 : List Value → β → Prop} {b2 : β → Nat}
    (h1 : DecT W f.type s1 R1 b1) (h2 : DecFs W fs (off + s1) s2 R2 b2) (ho : f.offset = off) (hc : Tryz.prog.cellsOf f.type = s1) : DecFs W (f :: fs) off (s1 + s2) (pairR R1 R2) (fun y => b1 y.1 + b2 y.2) := by
  intro H enc n cs xs hl hx hw
  cases xs with
  | nil => simp at hl
  | cons x xs =>
    have e0 := hx 0 f rfl
    rw [List.getElem?_cons_zero] at e0
    obtain ⟨y1, r1, l1, k1⟩ := h1 H enc n _ x e0 (fun m hm => hw m (by simp only [List.map_cons, DataW.weightsEach, List.mem_append]; exact .inl hm))
    obtain ⟨y2, r2, k2⟩ := h2 H enc n cs xs (by simpa using hl) (fun i g hg => by have := hx (i + 1) g (by simpa using hg); simpa using this) (fun m hm => hw m (by simp only [List.map_cons, DataW.weightsEach, List.mem_append]; exact .inr hm))
    refine ⟨(y1, y2), ⟨_, _, ?_, r1, r2⟩, by simp only [List.map_cons, Rows.uptoBulkAll]; omega⟩
    rw [ho, hc, List.take_add, List.drop_drop]
theorem dec_struct {W : World} {T : TypeId} {fs : Array Field} {s : Nat} {α : Type} {R : List Value → α → Prop} {bk : α → Nat} (hT : Tryz.prog.underlying T = some (.struct fs)) (h : DecFs W fs.toList 0 s R bk) (hs : Tryz.prog.cellsOf T = s) : DecT W T s R (fun y => bk y + 1) := by
  intro H enc fuel cs x hx hw
  obtain ⟨xs, n, rfl, rfl, hl, hxl, hf⟩ := DataW.trod_struct hT hx
  obtain ⟨y, r, k⟩ := h H enc n cs xs (by simpa using hxl) (fun i f hi => hf i f (by simpa using hi)) (fun m hm => hw m (by simp only [DataW.weights, hT]; exact hm))
  refine ⟨y, ?_, hl.trans hs, by simp only [Rows.uptoBulk]; omega⟩
  rw [List.drop_zero, List.take_of_length_le (by omega)] at r
  exact r

theorem bulkAll_ge {H : Type} {l : List (DataW H)} {n : Nat} (D : Nat → DataW H) (b : Nat → Nat) (hl : l = (List.range n).map D) (h : ∀ i, i < n → b i ≤ Rows.uptoBulk (D i)) : ((List.range n).map b).sum ≤ Rows.uptoBulkAll l := by
  subst hl
  have key : ∀ k : List Nat, (∀ i ∈ k, i < n) → (k.map b).sum ≤ Rows.uptoBulkAll (k.map D) := by
    intro k
    induction k with
    | nil => intro _; simp
    | cons i r ih =>
      intro hk
      have h1 := h i (hk i (by simp))
      have h2 := ih (fun j hj => hk j (by simp [hj]))
      simp only [List.map_cons, List.sum_cons, Rows.uptoBulkAll]
      omega
  exact key _ (fun i hi => List.mem_range.1 hi)
theorem dec_slice {W : World} {T E s bytes : Nat} {α : Type} {R : List Value → α → Prop} {bk : α → Nat} (hT : Tryz.prog.underlying T = some (.slice E)) (hE : DecT W E s R bk) (hs : Tryz.prog.cellsOf E = s) (hpos : 0 < s) (hb : Tryz.prog.bytesOf E = bytes) :
    DecT W T 1 (sliceR W s bytes R) (fun ys => (ys.map bk).sum + 1) := by
  intro H enc fuel cs x hx hw
  rcases Deep.open_slice hT hx with ⟨hcs, rfl⟩ | ⟨a, len0, c, m, n, D, Pl, hcs, _, hl, hm, hmm, rfl, hel⟩
  · exact ⟨[], ⟨_, [], hcs, ⟨none, 0, rfl, by simp, by simp, by simp, .inl rfl⟩, rfl, by simp, fun i h1 => by simp at h1⟩, by rw [hcs]; rfl, by simp [Rows.uptoBulk]⟩
  · have hmc : m = c := by simpa using hmm
    subst hmc
    rw [hs] at hel
    have hwt : (len0 + (m - len0)) * bytes ≤ reachBytes := by
      refine hw _ ?_
      simp [DataW.weights, hT, hb]
    have hD : ∀ i, i < len0 → ∀ k ∈ (D i).weights Tryz.prog E, k ≤ reachBytes := by
      intro i hi k hk
      refine hw k ?_
      simp only [DataW.weights, hT, List.mem_cons, List.mem_append]
      exact .inr (.inl (weights_mem (List.mem_map.2 ⟨i, List.mem_range.2 hi, rfl⟩) hk))
    obtain ⟨zs, hzl, hzs⟩ := list_of (R := fun i (z : List Value × α) => R z.1 z.2 ∧ z.1.length = s ∧ W.cells? 0 (a.add (i * s)) s = some z.1 ∧ bk z.2 ≤ Rows.uptoBulk (D i)) len0 (fun i hi => by
      obtain ⟨cs', h1, h2⟩ := hel i (by omega)
      obtain ⟨y, r1, r2, r3⟩ := hE H enc n cs' (D i, Pl i) h2 (hD i hi)
      exact ⟨(cs', y), r1, r2, h1, r3⟩)
    refine ⟨zs.map (·.2), ⟨_, zs.map (·.1), hcs, ?_, by simp, ?_, ?_⟩, by rw [hcs]; rfl, ?_⟩
    · refine ⟨some a, m, by rw [List.length_map, hzl], by rw [List.length_map, hzl]; exact hl, by unfold maxLen at hm; omega, by simp, ?_⟩
      have hcell : ∀ i (hi : i < zs.length) f (hf : f < s), W.cell? ((a.add (i * s)).add f) = zs[i].1[f]? := by
        intro i hi f hf
        have h1 := (hzs i hi).2.2.1
        have hlen := (hzs i hi).2.1
        unfold World.cells? at h1
        rw [if_pos (Nat.zero_le _)] at h1
        obtain ⟨_, h2⟩ := mapM_some h1
        have h3 := h2 f (by simpa using hf) (by rw [hlen]; exact hf)
        simp only [List.getElem_range] at h3
        rw [h3, List.getElem?_eq_getElem (by rw [hlen]; exact hf)]
      have hall : ∀ l ∈ zs, l.1.length = s := fun l hl => by obtain ⟨i, hi, rfl⟩ := List.getElem_of_mem hl; exact (hzs i hi).2.1
      have hflat : ∀ (l : List (List Value × α)), (∀ z ∈ l, z.1.length = s) → ((l.map (·.1)).flatten.length = l.length * s ∧ ∀ i (hi : i < l.length) f, f < s → (l.map (·.1)).flatten[i * s + f]? = l[i].1[f]?) := by
        intro l
        induction l with
        | nil => intro _; exact ⟨by simp, fun i hi => by simp at hi⟩
        | cons z r ih =>
          intro hz
          have hz0 := hz z (by simp)
          obtain ⟨i1, i2⟩ := ih (fun y hy => hz y (by simp [hy]))
          refine ⟨by rw [List.map_cons, List.flatten_cons, List.length_append, hz0, i1, List.length_cons, Nat.succ_mul]; omega, ?_⟩
          intro i hi f hf
          rw [List.map_cons, List.flatten_cons]
          cases i with
          | zero => rw [List.getElem?_append_left (by rw [hz0]; omega)]; simp
          | succ i =>
            rw [List.getElem?_append_right (by rw [hz0, Nat.succ_mul]; omega), hz0, show (i + 1) * s + f - s = i * s + f by rw [Nat.succ_mul]; omega, i2 i (by simpa using hi) f hf]
            simp
      obtain ⟨fl1, fl2⟩ := hflat zs hall
      cases hzz : zs with
      | nil => exact .inl rfl
      | cons z r =>
        rw [← hzz]
        have hne : 0 < zs.length := by rw [hzz]; simp
        obtain ⟨b, off, spot⟩ := a
        have hspot : spot = none := by
          cases spot with
          | none => rfl
          | some sp =>
            have h0 := hcell 0 hne 0 hpos
            rw [List.getElem?_eq_getElem (by rw [(hzs 0 hne).2.1]; exact hpos)] at h0
            simp [Addr.add, World.cell?] at h0
            split at h0 <;> simp at h0
        subst hspot
        refine .inr ⟨b, off, rfl, ?_⟩
        intro j hj
        rw [fl1] at hj
        have hdiv : j / s < zs.length := Nat.div_lt_of_lt_mul (by rw [Nat.mul_comm]; exact hj)
        have hmod : j % s < s := Nat.mod_lt _ hpos
        have hplain : ((⟨b, off, none⟩ : Addr).add (j / s * s)).add (j % s) = ⟨b, off + j, none⟩ := by
          rw [Deep.add_add, Nat.div_add_mod', add_plain]
        have h1 := hcell (j / s) hdiv (j % s) hmod
        rw [hplain, ← fl2 (j / s) hdiv (j % s) hmod, Nat.div_add_mod'] at h1
        rw [h1, List.getElem?_eq_getElem]
    · have hr : reachBytes = 140737488351232 := rfl
      rw [hr, Nat.add_mul] at hwt
      rw [List.length_map, hzl]
      omega
    · intro i h1 h2
      have h3 : i < zs.length := by simpa using h1
      have := hzs i h3
      simp only [List.getElem_map]
      exact ⟨this.2.1, this.1⟩
    · have e1 := bulkAll_ge (l := (List.range len0).map D) (n := len0) D (fun i => if h : i < zs.length then bk zs[i].2 else 0) rfl (fun i hi => by rw [dif_pos (by omega)]; exact (hzs i (by omega)).2.2.2)
      have e4 : (zs.map (·.2)).map bk = (List.range len0).map (fun i => if h : i < zs.length then bk zs[i].2 else 0) := by
        apply List.ext_getElem
        · simp [hzl]
        · intro i h1 h2
          have h3 : i < zs.length := by simpa using h1
          simp [h3]
      rw [← e4] at e1
      simp only [Rows.uptoBulk]
      omega

theorem dec_map {W : World} {T : TypeId} {s : Nat} {α β : Type} {R : List Value → α → Prop} {bk : α → Nat} {R' : List Value → β → Prop} {bk' : β → Nat} (h : DecT W T s R bk) (f : α → β) (h1 : ∀ cs y, R cs y → R' cs (f y)) (h2 : ∀ y, bk' (f y) ≤ bk y) : DecT W T s R' bk' := by
  intro H enc fuel cs x hx hw
  obtain ⟨y, r1, r2, r3⟩ := h H enc fuel cs x hx hw
  exact ⟨f y, h1 _ _ r1, r2, Nat.le_trans (h2 y) r3⟩

/-- a struct by value -/
def IsAgg {α : Type} (R : List Value → α → Prop) (v : Value) (x : α) : Prop := ∃ cs : List Value, v = .agg cs.toArray ∧ R cs x

set_option maxRecDepth 100000
open Go.ChangeMaps (open_string)
section
variable {H : Type} {enc : TypeId × Value → H} {W : World} {base : Nat} {v : Value} {d : DataW H} {p : List MemPlace} {T : TypeId}
theorem up_int {k : IntKind} (hT : Tryz.prog.underlying T = some (.int k)) (hv : Value.okWide Tryz.prog W .any base T v) (h : DataW.Trod enc Tryz.prog W 0 (fun _ => true) true T v d p) (_ : ∀ m ∈ d.weights Tryz.prog T, m ≤ reachBytes) : ∃ x, IsInt k W v x ∧ 1 ≤ Rows.uptoBulk d := by
  obtain ⟨x, rfl, rfl, rfl, w⟩ := open_int hT hv h
  exact ⟨x, ⟨rfl, w⟩, bulk_pos _⟩
theorem up_string (hT : Tryz.prog.underlying T = some .string) (hv : Value.okWide Tryz.prog W .any base T v) (h : DataW.Trod enc Tryz.prog W 0 (fun _ => true) true T v d p) (hs : ∀ m ∈ d.weights Tryz.prog T, m ≤ reachBytes) : ∃ x, IsStr W v x ∧ x.size + 1 ≤ Rows.uptoBulk d := by
  obtain ⟨x, rfl, rfl, rfl, w⟩ := open_string hT hv h
  have := hs x.data.toList.length (by simp [DataW.weights])
  exact ⟨x, ⟨rfl, by simpa [reachBytes] using this⟩, by simp [Rows.uptoBulk]⟩
theorem up_bool (hT : Tryz.prog.underlying T = some .bool) (hv : Value.okWide Tryz.prog W .any base T v) (h : DataW.Trod enc Tryz.prog W 0 (fun _ => true) true T v d p) (_ : ∀ m ∈ d.weights Tryz.prog T, m ≤ reachBytes) : ∃ x, IsBool W v x ∧ 1 ≤ Rows.uptoBulk d := by
  obtain ⟨b, rfl⟩ := okWide_bool hT hv
  exact ⟨b, rfl, bulk_pos _⟩
theorem up_slice {E s : Nat} {α : Type} {R : List Value → α → Prop} {bk : α → Nat} (hT : Tryz.prog.underlying T = some (.slice E)) (D : DecT W T s R bk) (hv : Value.okWide Tryz.prog W .any base T v) (h : DataW.Trod enc Tryz.prog W 0 (fun _ => true) true T v d p) (hs : ∀ m ∈ d.weights Tryz.prog T, m ≤ reachBytes) : ∃ x, R [v] x ∧ bk x ≤ Rows.uptoBulk d := by
  obtain ⟨a0, len0, cap0, rfl⟩ := okWide_slice hT hv
  obtain ⟨fuel, hf⟩ := h
  obtain ⟨y, r, _, k⟩ := D H enc fuel _ (d, p) hf hs
  exact ⟨y, by simpa [Value.cells] using r, k⟩
theorem up_struct {fs : Array Field} {s : Nat} {α : Type} {R : List Value → α → Prop} {bk : α → Nat} (hT : Tryz.prog.underlying T = some (.struct fs)) (D : DecT W T s R bk) (hv : Value.okWide Tryz.prog W .any base T v) (h : DataW.Trod enc Tryz.prog W 0 (fun _ => true) true T v d p) (hs : ∀ m ∈ d.weights Tryz.prog T, m ≤ reachBytes) : ∃ x, IsAgg R v x ∧ bk x ≤ Rows.uptoBulk d := by
  obtain ⟨cs, rfl, _⟩ := okWide_struct hT hv
  obtain ⟨fuel, hf⟩ := h
  obtain ⟨y, r, _, k⟩ := D H enc fuel _ (d, p) hf hs
  exact ⟨y, ⟨cs.toList, by simp, by simpa [Value.cells] using r⟩, k⟩
end
end Go.Proofs.YtakfineljffoaaaGreatDoor
namespace Go.Proofs.YtakfineljffoaaaGreatDoor
open Go.RowKit Go.Lib
attribute [local go_sem ↓] Go.wp_at_zero Go.wp_at_succ

theorem wide_any (n : Int) (w : World) : Calls Tryz.prog 160 #[.int .i64 n] w fun e w' => e = .returned (.bool (!isIx n)) ∧ w = w' := by
  unfold isIx
  by_cases h1 : n < 0
  · rw [decide_eq_false (show ¬ (0 ≤ n ∧ n ≤ 4294967295) from fun h => by omega)]
    go_enter Tryz.func160, Tryz.ntmps160
    go_wp2_with fail
    go_ret
    exact ⟨rfl, rfl⟩
  · by_cases h2 : 4294967295 < n
    · rw [decide_eq_false (show ¬ (0 ≤ n ∧ n ≤ 4294967295) from fun h => by omega)]
      go_enter Tryz.func160, Tryz.ntmps160
      go_wp2_with fail
      go_ret
      exact ⟨rfl, rfl⟩
    · rw [decide_eq_true (show 0 ≤ n ∧ n ≤ 4294967295 from by omega)]
      go_enter Tryz.func160, Tryz.ntmps160
      go_wp2_with fail
      go_ret
      exact ⟨rfl, rfl⟩
theorem ascii_of (s : ByteArray) (h : s.data.toList.all (fun b => decide (b.toNat < 128)) = true) : ∀ (j : Nat) b, s.data.toList[j]? = some b → b.toNat < 128 := by
  intro j b hb
  exact of_decide_eq_true (List.all_eq_true.1 h b (List.mem_of_getElem? hb))
theorem chk_end (k : Nat) (A B : Int) (xs : List Int) (h0 : k ≠ 0) (h : ¬ 16 < xs.length) (a b t : Bool) (ha : okA k A = a) (hb : okB k B = b) (ht : okT k xs = t) : chkI k A B xs = if (a && b && t) = true then 0 else 1 := by
  rw [chk_rest h0 h, ha, hb, ht]
def caB (k : Nat) : Bool := decide (3 ≤ k ∧ k ≤ 6)
theorem ca_any (k : Fin 10) (w : World) : Calls Tryz.prog 161 #[.string (S (sdL k.val)), .string ⟨#[97, 116]⟩] w fun e w' => e = .returned (.bool (caB k.val)) ∧ Below w.heap.size w w' := by
  have h := Tryz.strings_ContainsAny_laid (S (sdL k.val)) ⟨#[97, 116]⟩ w ((by decide +kernel : ∀ k : Fin 10, (S (sdL k.val)).size < 4294967281) k) (by decide) (ascii_of _ ((by decide +kernel : ∀ k : Fin 10, (S (sdL k.val)).data.toList.all (fun b => decide (b.toNat < 128)) = true) k)) (ascii_of _ (by decide))
  rw [(by decide +kernel : ∀ k : Fin 10, Lib.containsAny (S (sdL k.val)).data.toList (ByteArray.data ⟨#[97, 116]⟩).toList = caB k.val) k] at h
  exact h
def sd_l : List (Nat × ByteArray × Bool) := [(1, ⟨#[]⟩, false), (2, ⟨#[107]⟩, false), (3, ⟨#[97]⟩, true), (4, ⟨#[116]⟩, true), (5, ⟨#[97, 122]⟩, true), (6, ⟨#[97, 98]⟩, true), (7, ⟨#[122]⟩, false), (8, ⟨#[99]⟩, false), (9, ⟨#[100]⟩, false)]
theorem sd_c : ∀ k : Fin 10, k.val ≠ 0 → sd_l.any (fun c => decide (k.val = c.1 ∧ S (sdL k.val) = c.2.1 ∧ caB k.val = c.2.2)) = true := by decide +kernel
theorem rA2 (A : Int) : ∃ a b c : Bool, (A != 64) = a ∧ (A != 126) = b ∧ (A != 127) = c ∧ okA 2 A = !(a && b && c) := by
  refine ⟨_, _, _, rfl, rfl, rfl, ?_⟩
  unfold okA
  rw [if_neg (by decide), if_pos rfl, Bool.eq_iff_iff]
  simp only [decide_eq_true_eq, Bool.not_eq_true', Bool.and_eq_false_iff, bne_eq_false_iff_eq]
  omega
theorem okT_eq (k : Nat) (xs : List Int) : (decide (k = 4 ∨ xs.length = 0) && xs.all isIx) = okT k xs := by
  unfold okT
  by_cases h4 : k = 4
  · rw [if_pos h4, decide_eq_true (.inl h4), Bool.true_and]
  · rw [if_neg h4]
    cases xs with
    | nil => simp
    | cons x l => rw [decide_eq_false (by simp [h4]), decide_eq_false (by simp)]; rfl
theorem okA_z (k : Nat) (A : Int) : (k = 1 ∨ k = 7) → okA k A = !(A != 0) := by
  rintro (rfl | rfl)
  all_goals
    unfold bne
    rw [Bool.not_not]
    rfl
theorem okA_i (k : Nat) (A : Int) : (3 ≤ k ∧ k ≤ 6) → okA k A = !!isIx A := by
  intro h
  unfold okA
  rw [if_neg (by omega), if_neg (by omega), if_neg (by omega), if_neg (by omega), Bool.not_not]
theorem okB_z (k : Nat) (B : Int) : k ≠ 6 → okB k B = !(B != 0) := by
  intro h
  unfold okB bne
  rw [if_neg h, Bool.not_not]
  rfl
set_option maxRecDepth 100000 in
set_option maxHeartbeats 32000000 in
theorem rchk_x (op : Nat) (hop : op < 256) (hk9 : tB op ≤ 9) (hk0 : tB op ≠ 0) (A B : Int) (xs : List Int) (v : Value) (w : World) (hM : MaxL w) (hx : Ints w .i64 v xs) :
    Calls Tryz.prog 140 #[insV op A B v] w fun e w' => e = .returned (.int .i64 (chkI (tB op) A B xs)) ∧ Below w.heap.size w w' := by
  have hA0 : Below w.heap.size w (w.alloc (.cells #[.int .u8 op, .int .i64 A, .int .i64 B, v] 97)) := (Below.refl _ _).alloc (Nat.le_refl _) _
  have hblk := Blk.new w #[.int .u8 op, .int .i64 A, .int .i64 B, v] 97 _ rfl
  have HBS := hid (rbeside_any op hop (w.alloc (.cells #[.int .u8 op, .int .i64 A, .int .i64 B, v] 97)) (hM.below hA0))
  have HI := hid (fun n w' => wide_any n w')
  have HCA := hid (fun w' => ca_any ⟨tB op, by omega⟩ w')
  dsimp only at HCA
  have HA := hid hA0
  have HX := hid (fun w' (hb : Below (w.alloc (.cells #[.int .u8 op, .int .i64 A, .int .i64 B, v] 97)).heap.size (w.alloc (.cells #[.int .u8 op, .int .i64 A, .int .i64 B, v] 97)) w') => L1.below (L1.below hx hA0) hb)
  have HC := hid (fun w' (hb : Below (w.alloc (.cells #[.int .u8 op, .int .i64 A, .int .i64 B, v] 97)).heap.size (w.alloc (.cells #[.int .u8 op, .int .i64 A, .int .i64 B, v] 97)) w') => And.intro ((hblk.below hb).cell (i := 0) rfl) (And.intro ((hblk.below hb).cell (i := 1) rfl) (And.intro ((hblk.below hb).cell (i := 2) rfl) ((hblk.below hb).cell (i := 3) rfl))))
  obtain ⟨ao, cap, rfl, _⟩ := id hx
  clear hx hA0 hblk hM
  have HOT := hid (okT_eq (tB op) xs)
  generalize hn : xs.length = n at *
  have HN := hid hn
  clear hn
  have g := sd_c ⟨tB op, by omega⟩ hk0
  simp only [List.any_eq_true, decide_eq_true_eq] at g
  obtain ⟨c, hc, hk, hs, hca⟩ := g
  simp only [sd_l, List.mem_cons, List.not_mem_nil, or_false] at hc
  rcases hc with rfl | rfl | rfl | rfl | rfl | rfl | rfl | rfl | rfl
  all_goals
    dsimp only at hk hs hca
    rw [hs] at HBS
    rw [hs, hca] at HCA
    have HK := hid hk
    by_cases h16 : 16 < n
    · have g16 : (16 : Int) < n := by omega
      have hres := hid (show chkI (tB op) A B xs = 2 from chk_large (by rw [HK.out]; decide) (by rw [HN.out]; exact h16))
      clear hk hs hca hk9 hk0
      go_enter Tryz.func140, Tryz.ntmps140
      go_wp2_with (first | (go_at_call 155; refine HBS.out.mono ?_; rintro r w1 ⟨rfl, hb1⟩; have c0 := HC.out _ hb1; have hx1 := HX.out _ hb1; have B1 := hid (HA.out.trans (hb1.mono HA.out.size)); have HB1 := hid hb1; obtain ⟨y0, y1, y2, y3⟩ := c0; have HX1 := hid hx1; clear hb1 hx1) | (go_at_call 161; refine (HCA.out _).mono ?_; rintro r w2 ⟨rfl, hb2⟩; have c2 := HC.out _ (HB1.out.trans (hb2.mono HB1.out.size)); have hx2 := HX.out _ (HB1.out.trans (hb2.mono HB1.out.size)); have B2 := hid (B1.out.trans (hb2.mono B1.out.size)); obtain ⟨z0, z1, z2, z3⟩ := c2; have HX2 := hid hx2; clear hb2 hx2) | (go_at_call 160; with_reducible refine (HIA.out _).mono ?_; rintro r w3 ⟨rfl, rfl⟩) | (go_at_call 160; with_reducible refine (HIB.out _).mono ?_; rintro r w3 ⟨rfl, rfl⟩))
      go_ret
      exact ⟨ret1 (by rw [hres.out]), B1.out⟩
    have g16 : ¬ (16 : Int) < n := by omega
    have HR := hid (chk_rest (k := tB op) (A := A) (B := B) (xs := xs) hk0 (by rw [HN.out]; exact h16))
    first
    | (have h6 : tB op = 6 := by omega
       obtain ⟨bB, hB⟩ : ∃ b, (!isIx B) = b := ⟨_, rfl⟩
       have HIB := hid (fun w' => wide_any B w')
       have HOB := hid (show okB (tB op) B = !bB from by rw [← hB, h6, Bool.not_not]; rfl)
       rw [hB] at HIB
       clear hB h6)
    | (obtain ⟨bB, hB⟩ : ∃ b, (B != 0) = b := ⟨_, rfl⟩
       have HOB := hid (show okB (tB op) B = !bB from by rw [← hB]; exact okB_z _ _ (by omega)))
    first
    | (have h2 : tB op = 2 := by omega
       obtain ⟨a, b, c, x1, x2, x3, h4⟩ := rA2 A
       have HZ := hid (show okA (tB op) A = !(a && b && c) from by rw [h2]; exact h4)
       clear h2 h4
       cases a <;> cases b <;> cases c)
    | (have h8 : tB op = 8 := by omega
       by_cases h1 : A < -2147483648
       rotate_left
       by_cases h2 : 2147483647 < A
       all_goals
         first
         | have HZ := hid (show okA (tB op) A = !false from by rw [h8]; exact decide_eq_true (by omega))
         | have HZ := hid (show okA (tB op) A = !true from by rw [h8]; exact decide_eq_false (by omega))
         clear h8)
    | (have h9 : tB op = 9 := by omega
       have HZ := hid (show okA (tB op) A = !false from by rw [h9]; rfl)
       clear h9)
    | (obtain ⟨z, hz⟩ : ∃ z, (A != 0) = z := ⟨_, rfl⟩
       have HZ := hid (show okA (tB op) A = !z from by rw [← hz]; exact okA_z _ _ (by omega)))
    | (obtain ⟨z, hz⟩ : ∃ z, (!isIx A) = z := ⟨_, rfl⟩
       have HZ := hid (show okA (tB op) A = !z from by rw [← hz]; exact okA_i _ _ (by omega))
       have HIA := hid (fun w' => wide_any A w')
       rw [hz] at HIA
       clear hz)
    all_goals
      by_cases hl : 0 < n
      · have gl : (0 : Int) < n := by omega
        first
        | have HT := hid (show decide (tB op = 4 ∨ n = 0) = true from decide_eq_true (by omega))
        | have HT := hid (show decide (tB op = 4 ∨ n = 0) = false from decide_eq_false (by omega))
        clear hk hs hca hk9 hk0
        go_enter Tryz.func140, Tryz.ntmps140
        go_wp2_with (first | (go_at_call 155; refine HBS.out.mono ?_; rintro r w1 ⟨rfl, hb1⟩; have c0 := HC.out _ hb1; have hx1 := HX.out _ hb1; have B1 := hid (HA.out.trans (hb1.mono HA.out.size)); have HB1 := hid hb1; obtain ⟨y0, y1, y2, y3⟩ := c0; have HX1 := hid hx1; clear hb1 hx1) | (go_at_call 161; refine (HCA.out _).mono ?_; rintro r w2 ⟨rfl, hb2⟩; have c2 := HC.out _ (HB1.out.trans (hb2.mono HB1.out.size)); have hx2 := HX.out _ (HB1.out.trans (hb2.mono HB1.out.size)); have B2 := hid (B1.out.trans (hb2.mono B1.out.size)); obtain ⟨z0, z1, z2, z3⟩ := c2; have HX2 := hid hx2; clear hb2 hx2) | (go_at_call 160; with_reducible refine (HIA.out _).mono ?_; rintro r w3 ⟨rfl, rfl⟩) | (go_at_call 160; with_reducible refine (HIB.out _).mono ?_; rintro r w3 ⟨rfl, rfl⟩))
        go_loop [79, 7] (fun i gg => ∃ (j : Nat) (G : Bool), j ≤ n ∧ i = .int .i64 j ∧ gg = .bool G ∧ Hid (G = !(decide (tB op = 4 ∨ n = 0) && (xs.take j).all isIx))) (fun i _ => n - (RowKit.intOf i).toNat)
        case atStart => exact ⟨0, _, Nat.zero_le _, rfl, rfl, hid (by rw [HT.out]; rfl)⟩
        case round =>
          obtain ⟨j, G, hj, rfl, rfl, hG⟩ := hrel
          by_cases hlt0 : j < n
          · have hlt : j < xs.length := by rw [HN.out]; exact hlt0
            have hltI : (j : Int) < n := by omega
            have HNX := hid (all_take_next xs j hlt)
            have HXX := HX1
            first
            | have HXX := HX2
            | skip
            rcases L1.open HXX.out with ⟨_, _, _, e, _⟩ | ⟨lb, lo, cap', hv, _, _, _, hc⟩
            · rw [e] at hlt; simp at hlt
            simp only [Value.slice.injEq] at hv
            obtain ⟨rfl, hnn, rfl⟩ := hv
            clear hnn HXX
            have ha := hc j hlt
            generalize xs[j] = m at *
            clear hc hlt
            cases hGb : G
            · have HG2 := hid (show (!isIx m) = !(decide (tB op = 4 ∨ n = 0) && (xs.take (j + 1)).all isIx) by
                have h9 := hG.out; rw [hGb] at h9; rw [HNX.out, ← Bool.and_assoc, ← Bool.not_not (_ && (xs.take j).all isIx), ← h9]; rfl)
              clear hGb hG
              go_wp2_with (go_at_call 160; refine (HI.out _ _).mono ?_; rintro r w2 ⟨rfl, rfl⟩)
              go_round
              case rel => exact ⟨j + 1, !isIx m, by omega, by go_num, rfl, HG2⟩
              case measure => simp [RowKit.intOf]; omega
            · have HG2 := hid (show true = !(decide (tB op = 4 ∨ n = 0) && (xs.take (j + 1)).all isIx) by
                have h9 := hG.out; rw [hGb] at h9; rw [HNX.out, ← Bool.and_assoc, ← Bool.not_not (_ && (xs.take j).all isIx), ← h9]; rfl)
              clear hGb hG
              go_wp2_with (go_at_call 160; refine (HI.out _ _).mono ?_; rintro r w2 ⟨rfl, rfl⟩)
              go_round
              case rel => exact ⟨j + 1, true, by omega, by go_num, rfl, HG2⟩
              case measure => simp [RowKit.intOf]; omega
          · obtain rfl : j = n := by omega
            have hfin := hG.out
            rw [← HN.out, List.take_length, HN.out, HOT.out] at hfin
            have HF := hid hfin
            clear hfin hG
            first
            | cases z
            | skip
            all_goals
              cases bB <;> cases G
              all_goals
                go_wp2_with fail
                go_ret
                first
                | exact ⟨ret1 (by rw [HR.out, HZ.out, HOB.out, ← Bool.not_not (okT _ _), ← HF.out]; rfl), B2.out⟩
                | exact ⟨ret1 (by rw [HR.out, HZ.out, HOB.out, ← Bool.not_not (okT _ _), ← HF.out]; rfl), B1.out⟩
      · obtain rfl : n = 0 := by omega
        have HF := hid (show okT (tB op) xs = true from by rw [← HOT.out, decide_eq_true (.inr rfl), List.eq_nil_of_length_eq_zero HN.out]; rfl)
        clear hk hs hca hk9 hk0
        go_enter Tryz.func140, Tryz.ntmps140
        go_wp2_with (first | (go_at_call 155; refine HBS.out.mono ?_; rintro r w1 ⟨rfl, hb1⟩; have c0 := HC.out _ hb1; have hx1 := HX.out _ hb1; have B1 := hid (HA.out.trans (hb1.mono HA.out.size)); have HB1 := hid hb1; obtain ⟨y0, y1, y2, y3⟩ := c0; have HX1 := hid hx1; clear hb1 hx1) | (go_at_call 161; refine (HCA.out _).mono ?_; rintro r w2 ⟨rfl, hb2⟩; have c2 := HC.out _ (HB1.out.trans (hb2.mono HB1.out.size)); have hx2 := HX.out _ (HB1.out.trans (hb2.mono HB1.out.size)); have B2 := hid (B1.out.trans (hb2.mono B1.out.size)); obtain ⟨z0, z1, z2, z3⟩ := c2; have HX2 := hid hx2; clear hb2 hx2) | (go_at_call 160; with_reducible refine (HIA.out _).mono ?_; rintro r w3 ⟨rfl, rfl⟩) | (go_at_call 160; with_reducible refine (HIB.out _).mono ?_; rintro r w3 ⟨rfl, rfl⟩))
        go_loop [79, 7] (fun i gg => i = .int .i64 0 ∧ gg = .bool false) (fun _ _ => 0)
        case atStart => exact ⟨rfl, rfl⟩
        case round =>
          obtain ⟨rfl, rfl⟩ := hrel
          first
          | cases z
          | skip
          all_goals
            cases bB
            all_goals
              go_wp2_with fail
              go_ret
              first
              | exact ⟨ret1 (by rw [HR.out, HZ.out, HOB.out, HF.out]; rfl), B2.out⟩
              | exact ⟨ret1 (by rw [HR.out, HZ.out, HOB.out, HF.out]; rfl), B1.out⟩

end Go.Proofs.YtakfineljffoaaaGreatDoor
