/-
  FROM THE ROW's READING OF AN ARGUMENT TO WHAT A WALK IS TOLD OF IT, a lemma for each type. No condition.
-/
import Derived.Test.YtakfineljffoaaaGreatDoorGFoldSays1
import Derived.Test.YtakfineljffoaaaGreatDoorGFoldSays2
import Derived.Test.YtakfineljffoaaaGreatDoorGFoldSays10
import Derived.Test.YtakfineljffoaaaGreatDoorGFoldSays50
import Derived.Test.YtakfineljffoaaaGreatDoorGFoldSays51
import Derived.ProofKit
import Derived.OpenShut
import Derived.ShutString
import Derived.SizedLaws
import Derived.Deep.Slices
import Derived.IntWalk
import Derived.Test.YtakfineljffoaaaGreatDoorRows
import Derived.Lib.LaidU8
import Derived.HandedShaped
import Derived.LaidLaws
namespace Go.Proofs.YtakfineljffoaaaGreatDoor
open Go.ChangeShapes Go.WideShapes Go.ChangeAt Go.RowKit
open Go.ChangeMaps (open_string shut_string)

set_option maxRecDepth 100000
section
variable {H : Type} {enc : TypeId × Value → H} {W : World} {base : Nat} {v : Value} {d : DataW H} {p : List MemPlace}

theorem weights_mem {P : Program} {E : TypeId} {x : DataW H} {l : List (DataW H)} {m : Nat} (h : x ∈ l) (hm : m ∈ x.weights P E) : m ∈ DataW.weightsAll P E l := by
  induction l with
  | nil => cases h
  | cons y r ih =>
    simp only [DataW.weightsAll, List.mem_append]
    rcases List.mem_cons.1 h with rfl | h
    · exact .inl hm
    · exact .inr (ih h)

theorem list_of {α : Type} {R : Nat → α → Prop} (n : Nat) (h : ∀ i, i < n → ∃ y, R i y) : ∃ xs : List α, xs.length = n ∧ ∀ i (hi : i < xs.length), R i xs[i] := by
  induction n with
  | zero => exact ⟨[], rfl, fun i hi => by simp at hi⟩
  | succ n ih =>
    obtain ⟨xs, h1, h2⟩ := ih (fun i hi => h i (by omega))
    obtain ⟨y, hy⟩ := h n (by omega)
    refine ⟨xs ++ [y], by simp [h1], fun i hi => ?_⟩
    by_cases hlt : i < xs.length
    · rw [List.getElem_append_left hlt]; exact h2 i hlt
    · have : i = xs.length := by simp at hi; omega
      subst this
      rw [List.getElem_append_right (Nat.le_refl _)]
      simp only [Nat.sub_self, List.getElem_cons_zero]
      rw [h1]; exact hy

theorem mapM_some {α β : Type} {f : α → Option β} {l : List α} {r : List β} (h : l.mapM f = some r) : l.length = r.length ∧ ∀ i (h1 : i < l.length) (h2 : i < r.length), f l[i] = some r[i] := by
  induction l generalizing r with
  | nil => simp at h; subst h; exact ⟨rfl, fun i h1 => by simp at h1⟩
  | cons x l ih =>
    rw [List.mapM_cons] at h
    cases hx : f x with
    | none => simp [hx] at h
    | some y =>
      cases hl : l.mapM f with
      | none => simp [hx, hl] at h
      | some ys =>
        simp [hx, hl] at h
        subst h
        obtain ⟨h1, h2⟩ := ih hl
        refine ⟨by simp [h1], fun i g1 g2 => ?_⟩
        cases i with
        | zero => simpa using hx
        | succ i => simpa using h2 i (by simpa using g1) (by simpa using g2)

theorem add_plain (b off j : Nat) : (⟨b, off, none⟩ : Addr).add j = ⟨b, off + j, none⟩ := by
  unfold Addr.add
  split <;> simp_all

end
end Go.Proofs.YtakfineljffoaaaGreatDoor
namespace Go.Proofs.YtakfineljffoaaaGreatDoor
open Go.ChangeShapes Go.WideShapes Go.ChangeAt Go.RowKit

def DecT (W : World) (T : TypeId) (s : Nat) {α : Type} (R : List Value → α → Prop) (bk : α → Nat) : Prop :=
  ∀ (H : Type) (enc : TypeId × Value → H) (fuel : Nat) (cs : List Value) (x : DataW H × List MemPlace), DataW.trod enc Tryz.prog W 0 (fun _ => true) true fuel T cs = some x → (∀ m ∈ x.1.weights Tryz.prog T, m ≤ reachBytes) → ∃ y, R cs y ∧ cs.length = s ∧ bk y ≤ Rows.uptoBulk x.1
def intR (k : IntKind) (cs : List Value) (n : Int) : Prop := cs = [.int k n] ∧ (Lit.int k n).wf = true
def sliceR (W : World) (s bytes : Nat) {α : Type} (R : List Value → α → Prop) (cs : List Value) (ys : List α) : Prop :=
  ∃ (v : Value) (css : List (List Value)), cs = [v] ∧ Sl W v ys.length css.flatten ∧ css.length = ys.length ∧ ys.length * bytes ≤ 140737488351232 ∧ ∀ i (h1 : i < css.length) (h2 : i < ys.length), css[i].length = s ∧ R css[i] ys[i]
def nilR (cs : List Value) (_ : Unit) : Prop := cs = []
def pairR {α β : Type} (R1 : List Value → α → Prop) (R2 : List Value → β → Prop) (cs : List Value) (y : α × β) : Prop := ∃ c1 c2, cs = c1 ++ c2 ∧ R1 c1 y.1 ∧ R2 c2 y.2

theorem bulk_pos {H : Type} (d : DataW H) : 1 ≤ Rows.uptoBulk d := by
  cases d with
  | lit l => cases l <;> simp [Rows.uptoBulk]
  | nil => simp [Rows.uptoBulk]
  | ptr d => simp [Rows.uptoBulk]
  | slice elems spare => simp [Rows.uptoBulk]
  | agg parts => simp [Rows.uptoBulk]
  | iface t d => simp [Rows.uptoBulk]
  | map entries => simp [Rows.uptoBulk]
  | held h => simp [Rows.uptoBulk]

theorem dec_int {W : World} {T : TypeId} {k : IntKind} (hT : Tryz.prog.underlying T = some (.int k)) : DecT W T 1 (intR k) (fun _ => 1) := by
  intro H enc fuel cs x h _
  obtain ⟨n, rfl, rfl, h2⟩ := DataW.trod_int hT h
  exact ⟨n, ⟨rfl, h2⟩, rfl, bulk_pos _⟩
def DecFs (W : World) (fs : List Field) (off s : Nat) {α : Type} (R : List Value → α → Prop) (bk : α → Nat) : Prop :=
  ∀ (H : Type) (enc : TypeId × Value → H) (n : Nat) (cs : List Value) (xs : List (DataW H × List MemPlace)), xs.length = fs.length →
    (∀ (i : Nat) (f : Field), fs[i]? = some f → DataW.trod enc Tryz.prog W 0 (fun _ => true) true n f.type ((cs.drop f.offset).take (Tryz.prog.cellsOf f.type)) = xs[i]?) →
    (∀ m ∈ DataW.weightsEach Tryz.prog (fs.map (·.type)) (xs.map (·.1)), m ≤ reachBytes) → ∃ y, R ((cs.drop off).take s) y ∧ bk y ≤ Rows.uptoBulkAll (xs.map (·.1))
theorem decfs_nil {W : World} {off : Nat} : DecFs W [] off 0 nilR (fun _ => 0) := by
  intro H enc n cs xs hl _ _
  exact ⟨(), by simp [nilR], Nat.zero_le _⟩
theorem decfs_cons {W : World} {f : Field} {fs : List Field} {off s1 s2 : Nat} {α β : Type} {R1 : List Value → α → Prop} {b1 : α → Nat} {R2 : List Value → β → Prop} {b2 : β → Nat}
    (h1 : DecT W f.type s1 R1 b1) (h2 : DecFs W fs (off + s1) s2 R2 b2) (ho : f.offset = off) (hc : Tryz.prog.cellsOf f.type = s1) : DecFs W (f :: fs) off (s1 + s2) (pairR R1 R2) (fun y => b1 y.1 + b2 y.2) := by
  intro H enc n cs xs hl hx hw
  cases xs with
  | nil => simp at hl
  | cons x xs =>
    have e0 := hx 0 f rfl
    rw [List.getElem?_cons_zero] at e0
    obtain ⟨y1, r1, l1, k1⟩ := h1 H enc n _ x e0 (fun m hm => hw m (by simp only [List.map_cons, DataW.weightsEach, List.mem_append]; exact .inl hm))
    obtain ⟨y2, r2, k2⟩ := h2 H enc n cs xs (by simpa using hl) (fun i g hg => by have := hx (i + 1) g (by simpa using hg); simpa using this) (fun m hm => hw m (by simp only [List.map_cons, DataW.weightsEach, List.mem_append]; exact .inr hm))
    refine ⟨(y1, y2), ⟨_, _, ?_, r1, r2⟩, by simp only [List.map_cons, Rows.uptoBulkAll]; omega⟩
    rw [ho, hc, List.take_add, List.drop_drop]
theorem dec_struct {W : World} {T : TypeId} {fs : Array Field} {s : Nat} {α : Type} {R : List Value → α → Prop} {bk : α → Nat} (hT : Tryz.prog.underlying T = some (.struct fs)) (h : DecFs W fs.toList 0 s R bk) (hs : Tryz.prog.cellsOf T = s) : DecT W T s R (fun y => bk y + 1) := by
  intro H enc fuel cs x hx hw
  obtain ⟨xs, n, rfl, rfl, hl, hxl, hf⟩ := DataW.trod_struct hT hx
  obtain ⟨y, r, k⟩ := h H enc n cs xs (by simpa using hxl) (fun i f hi => hf i f (by simpa using hi)) (fun m hm => hw m (by simp only [DataW.weights, hT]; exact hm))
  refine ⟨y, ?_, hl.trans hs, by simp only [Rows.uptoBulk]; omega⟩
  rw [List.drop_zero, List.take_of_length_le (by omega)] at r
  exact r

theorem bulkAll_ge {H : Type} {l : List (DataW H)} {n : Nat} (D : Nat → DataW H) (b : Nat → Nat) (hl : l = (List.range n).map D) (h : ∀ i, i < n → b i ≤ Rows.uptoBulk (D i)) : ((List.range n).map b).sum ≤ Rows.uptoBulkAll l := by
  subst hl
  have key : ∀ k : List Nat, (∀ i ∈ k, i < n) → (k.map b).sum ≤ Rows.uptoBulkAll (k.map D) := by
    intro k
    induction k with
    | nil => intro _; simp
    | cons i r ih =>
      intro hk
      have h1 := h i (hk i (by simp))
      have h2 := ih (fun j hj => hk j (by simp [hj]))
      simp only [List.map_cons, List.sum_cons, Rows.uptoBulkAll]
      omega
  exact key _ (fun i hi => List.mem_range.1 hi)
theorem dec_slice {W : World} {T E s bytes : Nat} {α : Type} {R : List Value → α → Prop} {bk : α → Nat} (hT : Tryz.prog.underlying T = some (.slice E)) (hE : DecT W E s R bk) (hs : Tryz.prog.cellsOf E = s) (hpos : 0 < s) (hb : Tryz.prog.bytesOf E = bytes) :
    DecT W T 1 (sliceR W s bytes R) (fun ys => (ys.map bk).sum + 1) := by
  intro H enc fuel cs x hx hw
  rcases Deep.open_slice hT hx with ⟨hcs, rfl⟩ | ⟨a, len0, c, m, n, D, Pl, hcs, _, hl, hm, hmm, rfl, hel⟩
  · exact ⟨[], ⟨_, [], hcs, ⟨none, 0, rfl, by simp, by simp, by simp, .inl rfl⟩, rfl, by simp, fun i h1 => by simp at h1⟩, by rw [hcs]; rfl, by simp [Rows.uptoBulk]⟩
  · have hmc : m = c := by simpa using hmm
    subst hmc
    rw [hs] at hel
    have hwt : (len0 + (m - len0)) * bytes ≤ reachBytes := by
      refine hw _ ?_
      simp [DataW.weights, hT, hb]
    have hD : ∀ i, i < len0 → ∀ k ∈ (D i).weights Tryz.prog E, k ≤ reachBytes := by
      intro i hi k hk
      refine hw k ?_
      simp only [DataW.weights, hT, List.mem_cons, List.mem_append]
      exact .inr (.inl (weights_mem (List.mem_map.2 ⟨i, List.mem_range.2 hi, rfl⟩) hk))
    obtain ⟨zs, hzl, hzs⟩ := list_of (R := fun i (z : List Value × α) => R z.1 z.2 ∧ z.1.length = s ∧ W.cells? 0 (a.add (i * s)) s = some z.1 ∧ bk z.2 ≤ Rows.uptoBulk (D i)) len0 (fun i hi => by
      obtain ⟨cs', h1, h2⟩ := hel i (by omega)
      obtain ⟨y, r1, r2, r3⟩ := hE H enc n cs' (D i, Pl i) h2 (hD i hi)
      exact ⟨(cs', y), r1, r2, h1, r3⟩)
    refine ⟨zs.map (·.2), ⟨_, zs.map (·.1), hcs, ?_, by simp, ?_, ?_⟩, by rw [hcs]; rfl, ?_⟩
    · refine ⟨some a, m, by rw [List.length_map, hzl], by rw [List.length_map, hzl]; exact hl, by unfold maxLen at hm; omega, by simp, ?_⟩
      have hcell : ∀ i (hi : i < zs.length) f (hf : f < s), W.cell? ((a.add (i * s)).add f) = zs[i].1[f]? := by
        intro i hi f hf
        have h1 := (hzs i hi).2.2.1
        have hlen := (hzs i hi).2.1
        unfold World.cells? at h1
        rw [if_pos (Nat.zero_le _)] at h1
        obtain ⟨_, h2⟩ := mapM_some h1
        have h3 := h2 f (by simpa using hf) (by rw [hlen]; exact hf)
        simp only [List.getElem_range] at h3
        rw [h3, List.getElem?_eq_getElem (by rw [hlen]; exact hf)]
      have hall : ∀ l ∈ zs, l.1.length = s := fun l hl => by obtain ⟨i, hi, rfl⟩ := List.getElem_of_mem hl; exact (hzs i hi).2.1
      have hflat : ∀ (l : List (List Value × α)), (∀ z ∈ l, z.1.length = s) → ((l.map (·.1)).flatten.length = l.length * s ∧ ∀ i (hi : i < l.length) f, f < s → (l.map (·.1)).flatten[i * s + f]? = l[i].1[f]?) := by
        intro l
        induction l with
        | nil => intro _; exact ⟨by simp, fun i hi => by simp at hi⟩
        | cons z r ih =>
          intro hz
          have hz0 := hz z (by simp)
          obtain ⟨i1, i2⟩ := ih (fun y hy => hz y (by simp [hy]))
          refine ⟨by rw [List.map_cons, List.flatten_cons, List.length_append, hz0, i1, List.length_cons, Nat.succ_mul]; omega, ?_⟩
          intro i hi f hf
          rw [List.map_cons, List.flatten_cons]
          cases i with
          | zero => rw [List.getElem?_append_left (by rw [hz0]; omega)]; simp
          | succ i =>
            rw [List.getElem?_append_right (by rw [hz0, Nat.succ_mul]; omega), hz0, show (i + 1) * s + f - s = i * s + f by rw [Nat.succ_mul]; omega, i2 i (by simpa using hi) f hf]
            simp
      obtain ⟨fl1, fl2⟩ := hflat zs hall
      cases hzz : zs with
      | nil => exact .inl rfl
      | cons z r =>
        rw [← hzz]
        have hne : 0 < zs.length := by rw [hzz]; simp
        obtain ⟨b, off, spot⟩ := a
        have hspot : spot = none := by
          cases spot with
          | none => rfl
          | some sp =>
            have h0 := hcell 0 hne 0 hpos
            rw [List.getElem?_eq_getElem (by rw [(hzs 0 hne).2.1]; exact hpos)] at h0
            simp [Addr.add, World.cell?] at h0
            split at h0 <;> simp at h0
        subst hspot
        refine .inr ⟨b, off, rfl, ?_⟩
        intro j hj
        rw [fl1] at hj
        have hdiv : j / s < zs.length := Nat.div_lt_of_lt_mul (by rw [Nat.mul_comm]; exact hj)
        have hmod : j % s < s := Nat.mod_lt _ hpos
        have hplain : ((⟨b, off, none⟩ : Addr).add (j / s * s)).add (j % s) = ⟨b, off + j, none⟩ := by
          rw [Deep.add_add, Nat.div_add_mod', add_plain]
        have h1 := hcell (j / s) hdiv (j % s) hmod
        rw [hplain, ← fl2 (j / s) hdiv (j % s) hmod, Nat.div_add_mod'] at h1
        rw [h1, List.getElem?_eq_getElem]
    · have hr : reachBytes = 140737488351232 := rfl
      rw [hr, Nat.add_mul] at hwt
      rw [List.length_map, hzl]
      omega
    · intro i h1 h2
      have h3 : i < zs.length := by simpa using h1
      have := hzs i h3
      simp only [List.getElem_map]
      exact ⟨this.2.1, this.1⟩
    · have e1 := bulkAll_ge (l := (List.range len0).map D) (n := len0) D (fun i => if h : i < zs.length then bk zs[i].2 else 0) rfl (fun i hi => by rw [dif_pos (by omega)]; exact (hzs i (by omega)).2.2.2)
      have e4 : (zs.map (·.2)).map bk = (List.range len0).map (fun i => if h : i < zs.length then bk zs[i].2 else 0) := by
        apply List.ext_getElem
        · simp [hzl]
        · intro i h1 h2
          have h3 : i < zs.length := by simpa using h1
          simp [h3]
      rw [← e4] at e1
      simp only [Rows.uptoBulk]
      omega

set_option maxRecDepth 100000
open Go.ChangeMaps (open_string)
section
variable {H : Type} {enc : TypeId × Value → H} {W : World} {base : Nat} {v : Value} {d : DataW H} {p : List MemPlace} {T : TypeId}
theorem up_slice {E s : Nat} {α : Type} {R : List Value → α → Prop} {bk : α → Nat} (hT : Tryz.prog.underlying T = some (.slice E)) (D : DecT W T s R bk) (hv : Value.okWide Tryz.prog W .any base T v) (h : DataW.Trod enc Tryz.prog W 0 (fun _ => true) true T v d p) (hs : ∀ m ∈ d.weights Tryz.prog T, m ≤ reachBytes) : ∃ x, R [v] x ∧ bk x ≤ Rows.uptoBulk d := by
  obtain ⟨a0, len0, cap0, rfl⟩ := okWide_slice hT hv
  obtain ⟨fuel, hf⟩ := h
  obtain ⟨y, r, _, k⟩ := D H enc fuel _ (d, p) hf hs
  exact ⟨y, by simpa [Value.cells] using r, k⟩
end
end Go.Proofs.YtakfineljffoaaaGreatDoor
namespace Go.Proofs.YtakfineljffoaaaGreatDoor
open Go.RowKit
set_option maxRecDepth 100000

abbrev D_s_int64 : Type := List Int
def R_s_int64 (W : World) : List Value → D_s_int64 → Prop := sliceR W 1 8 (intR .i64)
def b_s_int64 (ys : D_s_int64) : Nat := (ys.map (fun _ => 1)).sum + 1
theorem dec_s_int64 {W : World} : DecT W 95 1 (R_s_int64 W) b_s_int64 := dec_slice Tryz.underlying95 (dec_int Tryz.underlying2) (by kernel_rfl) (by decide) (by kernel_rfl)

abbrev D_api_Ins : Type := Int × Int × Int × D_s_int64 × Unit
def R_api_Ins (W : World) : List Value → D_api_Ins → Prop := (pairR (intR .u8) (pairR (intR .i64) (pairR (intR .i64) (pairR (R_s_int64 W) nilR))))
def c_api_Ins (y : D_api_Ins) : Nat := (fun y => (fun _ => 1) y.1 + (fun y => (fun _ => 1) y.1 + (fun y => (fun _ => 1) y.1 + (fun y => b_s_int64 y.1 + (fun _ : Unit => 0) y.2) y.2) y.2) y.2) y
def b_api_Ins (y : D_api_Ins) : Nat := c_api_Ins y + 1
theorem dec_api_Ins {W : World} : DecT W 97 4 (R_api_Ins W) b_api_Ins := by
  refine dec_struct (R := R_api_Ins W) (bk := c_api_Ins) Tryz.underlying97 ?_ (by kernel_rfl)
  refine decfs_cons (s1 := 1) (s2 := 3) (R1 := (intR .u8)) (b1 := (fun _ => 1)) (R2 := (pairR (intR .i64) (pairR (intR .i64) (pairR (R_s_int64 W) nilR)))) (b2 := (fun y => (fun _ => 1) y.1 + (fun y => (fun _ => 1) y.1 + (fun y => b_s_int64 y.1 + (fun _ : Unit => 0) y.2) y.2) y.2)) ?_ ?_ rfl (by kernel_rfl)
  · exact dec_int Tryz.underlying5
  refine decfs_cons (s1 := 1) (s2 := 2) (R1 := (intR .i64)) (b1 := (fun _ => 1)) (R2 := (pairR (intR .i64) (pairR (R_s_int64 W) nilR))) (b2 := (fun y => (fun _ => 1) y.1 + (fun y => b_s_int64 y.1 + (fun _ : Unit => 0) y.2) y.2)) ?_ ?_ rfl (by kernel_rfl)
  · exact dec_int Tryz.underlying2
  refine decfs_cons (s1 := 1) (s2 := 1) (R1 := (intR .i64)) (b1 := (fun _ => 1)) (R2 := (pairR (R_s_int64 W) nilR)) (b2 := (fun y => b_s_int64 y.1 + (fun _ : Unit => 0) y.2)) ?_ ?_ rfl (by kernel_rfl)
  · exact dec_int Tryz.underlying2
  refine decfs_cons (s1 := 1) (s2 := 0) (R1 := (R_s_int64 W)) (b1 := b_s_int64) (R2 := nilR) (b2 := (fun _ : Unit => 0)) ?_ ?_ rfl (by kernel_rfl)
  · exact dec_s_int64
  exact decfs_nil

abbrev D_s_api_Ins : Type := List D_api_Ins
def R_s_api_Ins (W : World) : List Value → D_s_api_Ins → Prop := sliceR W 4 48 (R_api_Ins W)
def b_s_api_Ins (ys : D_s_api_Ins) : Nat := (ys.map b_api_Ins).sum + 1
theorem dec_s_api_Ins {W : World} : DecT W 36 1 (R_s_api_Ins W) b_s_api_Ins := dec_slice Tryz.underlying36 dec_api_Ins (by kernel_rfl) (by decide) (by kernel_rfl)

end Go.Proofs.YtakfineljffoaaaGreatDoor
namespace Go.Proofs.YtakfineljffoaaaGreatDoor
open Go.RowKit

theorem flat_of {α : Type} (enc : α → List Value) : ∀ (css : List (List Value)) (ys : List α), css.length = ys.length → (∀ i (h1 : i < css.length) (h2 : i < ys.length), css[i] = enc ys[i]) → css.flatten = ys.flatMap enc := by
  intro css
  induction css with
  | nil => intro ys hl _; cases ys with
    | nil => rfl
    | cons _ _ => simp at hl
  | cons c r ih =>
    intro ys hl h
    cases ys with
    | nil => simp at hl
    | cons y ys =>
      have h0 := h 0 (by simp) (by simp)
      simp only [List.getElem_cons_zero] at h0
      rw [List.flatten_cons, List.flatMap_cons, h0, ih ys (by simpa using hl) (fun i h1 h2 => by have := h (i + 1) (by simpa using h1) (by simpa using h2); simpa using this)]
theorem slice_flat {W : World} {s bytes : Nat} {α : Type} {R : List Value → α → Prop} {v : Value} {ys : List α} (enc : α → List Value) (Q : α → Prop) (h : ∀ cs y, R cs y → cs = enc y ∧ Q y) (hs : sliceR W s bytes R [v] ys) : Lk enc W v ys ∧ (∀ y ∈ ys, Q y) ∧ ys.length * bytes ≤ 140737488351232 := by
  obtain ⟨v', css, hv, hsl, hl, hb, hel⟩ := hs
  simp only [List.cons.injEq, and_true] at hv
  subst hv
  refine ⟨?_, ?_, hb⟩
  · rw [flat_of enc css ys hl (fun i h1 h2 => (h _ _ (hel i h1 h2).2).1)] at hsl
    exact hsl
  · intro y hy
    obtain ⟨i, hi, rfl⟩ := List.getElem_of_mem hy
    exact (h _ _ (hel i (by omega) hi).2).2

theorem wf_i64 {n : Int} (h : (Lit.int .i64 n).wf = true) : -9223372036854775808 ≤ n ∧ n ≤ 9223372036854775807 := by
  simpa [Lit.wf, IntKind.min, IntKind.max, IntKind.signed, IntKind.bits] using h
end Go.Proofs.YtakfineljffoaaaGreatDoor
namespace Go.Proofs.YtakfineljffoaaaGreatDoor
open Go.RowKit Go.Lib

theorem i64s_ofN {W : World} {v : Value} {zs : List Int} (h : sliceR W 1 8 (intR .i64) [v] zs) : Ints W .i64 v zs := by
  have hf := slice_flat (fun z => [Value.int .i64 z]) (fun z => -9223372036854775808 ≤ z ∧ z ≤ 9223372036854775807) (fun cs z h => by
    obtain ⟨rfl, w⟩ := h
    exact ⟨rfl, wf_i64 w⟩) h
  have h1 : Sl W v zs.length (zs.flatMap fun z => [Value.int .i64 z]) := hf.1
  have e : (zs.flatMap fun z => [Value.int .i64 z]) = zs.map (Value.int .i64) := by
    clear h hf h1
    induction zs with
    | nil => rfl
    | cons z r ih => rw [List.flatMap_cons, ih]; rfl
  rw [e] at h1
  exact h1
def itOf (y : D_api_Ins) : It := ⟨y.1.toNat, y.2.1, y.2.2.1, y.2.2.2.1⟩
theorem body_of {W : World} {v : Value} {ys : List D_api_Ins} (h : R_s_api_Ins W [v] ys) : BodS W v (ys.map itOf) ∧ ∀ x ∈ ys.map itOf, ItOk x := by
  obtain ⟨v', css, hv, hsl, hl, hb, hel⟩ := h
  simp only [List.cons.injEq, and_true] at hv
  subst hv
  have key : ∀ i (h1 : i < css.length) (h2 : i < ys.length), ItAt W css[i] (itOf ys[i]) ∧ ItOk (itOf ys[i]) := by
    intro i h1 h2
    obtain ⟨_, hr⟩ := hel i h1 h2
    generalize css[i] = cs at *
    generalize ys[i] = y at *
    obtain ⟨op, A, B, xs, u⟩ := y
    obtain ⟨_, _, rfl, ⟨rfl, w0⟩, _, _, rfl, ⟨rfl, w1⟩, _, _, rfl, ⟨rfl, w2⟩, c3, _, rfl, hs, rfl⟩ := hr
    have hs2 := hs
    obtain ⟨v2, _, rfl, _⟩ := hs
    have h0 : 0 ≤ op ∧ op < 256 := by simp [Lit.wf, IntKind.min, IntKind.max, IntKind.signed, IntKind.bits] at w0; omega
    obtain ⟨n, rfl⟩ := Int.eq_ofNat_of_zero_le h0.1
    exact ⟨⟨v2, rfl, i64s_ofN hs2⟩, by show ((n : Int).toNat : Nat) < 256; rw [Int.toNat_natCast]; omega, wf_i64 w1⟩
  refine ⟨⟨css, by rw [List.length_map]; exact hl, by rw [List.length_map]; exact hsl, fun i h1 h2 => ?_⟩, ?_⟩
  · rw [List.getElem_map]
    exact (key i h1 (by simpa using h2)).1
  · intro x hx
    obtain ⟨y, hy, rfl⟩ := List.mem_map.1 hx
    obtain ⟨i, hi, rfl⟩ := List.getElem_of_mem hy
    exact (key i (by omega) hi).2
end Go.Proofs.YtakfineljffoaaaGreatDoor
namespace Go.Proofs.YtakfineljffoaaaGreatDoor
open Go.RowKit

theorem bits_of_reads {P : Program} {w : World} {n : String} {k : IntKind} {zs : List Int} {g t e N : Nat} (hg : P.globalNamed n = some g) (hty : (P.globals[g]?).map (·.type) = some t) (ht : P.underlying t = some (.array N e)) (he : P.underlying e = some (.int k)) (hce : P.cellsOf e = 1) (hct : P.cellsOf t = N) (h : Lib.VarReads P w n (Lib.tabData k zs)) (j : Nat) (hj : j < zs.length) : w.cell? ⟨g, j, none⟩ = some (.int k (zs.getD j 0)) := by
  obtain ⟨g', t', cs, fuel, p, hg', hty', hvar, hd⟩ := h
  obtain rfl := Option.some.inj (hg.symm.trans hg')
  obtain rfl := Option.some.inj (hty.symm.trans hty')
  have hcs := Lib.cells_of_tab ht he hce hct hd
  have := World.var?_cell hg hvar j
  rw [this, ← Array.getElem?_toList, hcs]
  simp [List.getD, hj]
theorem laid_b32 : (Rows.laid_math_bits_deBruijn32tab : DataW Unit) = Lib.tabData .u8 (Lib.deBruijn32tab.map (fun n : Nat => (n : Int))) := by kernel_rfl
theorem laid_b64 : (Rows.laid_math_bits_deBruijn64tab : DataW Unit) = Lib.tabData .u8 (Lib.deBruijn64tab.map (fun n : Nat => (n : Int))) := by kernel_rfl
theorem utabs_of_laid {W : World} (hL : laidMet Tryz.prog Rows.foldSaysRow.laid W) : Tabs W := by
  constructor
  · intro j hj
    have h := Lib.laidMet.reads hL (n := "math/bits.deBruijn32tab") (d := Rows.laid_math_bits_deBruijn32tab) (by simp [Rows.foldSaysRow])
    rw [laid_b32] at h
    have h2 := bits_of_reads (g := 2) (t := 213) (e := 5) (N := 32) (by kernel_rfl) (by kernel_rfl) (by kernel_rfl) (by kernel_rfl) (by kernel_rfl) (by kernel_rfl) h j (by rw [List.length_map]; exact hj)
    rw [h2, List.getD_eq_getElem?_getD, List.getElem?_map, List.getD_eq_getElem?_getD, List.getElem?_eq_getElem hj]
    rfl
  · intro j hj
    have h := Lib.laidMet.reads hL (n := "math/bits.deBruijn64tab") (d := Rows.laid_math_bits_deBruijn64tab) (by simp [Rows.foldSaysRow])
    rw [laid_b64] at h
    have h2 := bits_of_reads (g := 3) (t := 214) (e := 5) (N := 64) (by kernel_rfl) (by kernel_rfl) (by kernel_rfl) (by kernel_rfl) (by kernel_rfl) (by kernel_rfl) h j (by rw [List.length_map]; exact hj)
    rw [h2, List.getD_eq_getElem?_getD, List.getElem?_map, List.getD_eq_getElem?_getD, List.getElem?_eq_getElem hj]
    rfl

theorem BdPost.cases {w w' : World} {l : List It} {e : Ending} (h : BdPost w l e w') : Below w.heap.size w w' ∧ ∃ v, e = .returned (.tuple #[v, .int .i64 (ncM l)]) ∧ BodS w' v (if ncM l = 0 then foldM oM pM l else []) := by
  obtain ⟨h1, h2⟩ := h
  refine ⟨h1, ?_⟩
  by_cases hz : ncM l = 0
  · rw [if_pos hz] at h2
    obtain ⟨v, rfl, hb⟩ := h2
    exact ⟨v, by rw [hz], by rw [if_pos hz]; exact hb⟩
  · rw [if_neg hz] at h2
    exact ⟨_, h2, by rw [if_neg hz]; exact BodS.nil _⟩
set_option maxRecDepth 100000 in
set_option maxHeartbeats 4000000 in
theorem law_FoldSays (v0 : Value) (x0 : D_s_api_Ins) (W : World) (i0 : R_s_api_Ins W [v0] x0) (hT : Tabs W) (hM : MaxL W) :
    Calls Tryz.prog 4 #[v0] W fun e w' => e = .returned (.bool true) ∧ Below W.heap.size W w' := by
  obtain ⟨hb, hok⟩ := body_of i0
  clear i0
  generalize x0.map itOf = l at *
  have P1 := hid (body_any W v0 l hok hT hb)
  have P2 := hid (fun w' (h : Below W.heap.size W w') => foldbody_any w' v0 l hok (hM.below h) (hb.below h))
  clear hok hT hM hb
  go_enter Tryz.func4, Tryz.ntmps4
  go_wp2_with fail
  refine P1.out.mono ?_
  intro r w1 h1
  obtain ⟨b1, va, rfl, ha⟩ := h1.cases
  have HA := hid ha
  have B1 := hid b1
  clear h1 ha b1
  go_wp2_with fail
  refine (P2.out _ B1.out).mono ?_
  intro r w2 h2
  obtain ⟨b2, vb, rfl, hbb⟩ := h2.cases
  have HA2 := hid (HA.out.below b2)
  have HB := hid hbb
  have B2 := hid (bel_tr B1.out b2)
  clear h2 hbb b2
  have P3 := hid (sameBody_any w2 va vb _ HA2.out HB.out)
  generalize ncM l = E at *
  have hE : ((E : Int) == E) = true := by simp
  go_wp2_with fail
  refine P3.out.mono ?_
  rintro r w3 ⟨rfl, b3⟩
  have B3 := hid (bel_tr B2.out b3)
  clear b3
  go_wp2_with fail
  go_ret
  exact ⟨rfl, B3.out⟩
end Go.Proofs.YtakfineljffoaaaGreatDoor
namespace Go.Proofs.YtakfineljffoaaaGreatDoor
open Go

section
variable {H : Type} {enc : TypeId × Value → H}
theorem handed_and_shaped {a : Assume} {C : Checked} {os : Os} {f : FuncId} {fn : Func} {s : ChangeSpec} {conds : List PathCond} {apart fresh handsOn again : Bool} {X : World → Array Value → Prop}
    (hX : ∀ (w w' : World) (args : Array Value), w.heap = w'.heap → X w args → X w' args)
    (own : ownKnob C.prog.godebug = none) (started : os.Started) (noInit : C.prog.inits.idxOf? f = none) (hfn : C.prog.funcs[f]? = some fn)
    (witness : ∃ (w : World) (tape : Tape) (i : Input), w.os = os ∧ (w.forCall tape i).Shaped C.prog ∧ i.vars = [] ∧ Input.okWide C.prog (w.forCall tape i) .any w.heap.size f i ∧
      ((s.pre enc C.prog fn conds apart (w.forCall tape i).memory i.args ∧ X (w.forCall tape i).memory i.args) ∧ sizedMet enc C.prog fn (OpenSpec.ofChange s) apart (w.forCall tape i).memory i.args) ∧ a.holds C.prog (lone (Frame.enter C.prog f i.args .normal) [] (w.forCall tape i)))
    (contract : ∀ (W : World) (base : Nat) (args : Array Value) (ds gs : List (DataW H)) (before : List MemPlace),
      (∀ (j : Nat) t v, fn.params[j]? = some t → args[j]? = some v → Value.okWide C.prog W .any base t v) →
      DataW.Whole enc C.prog fn.params.toList s.vars apart W args.toList ds gs before →
      conds.all (PathCond.test C.prog ⟨fn.params.toList, ds, s.plain.varTypes C.prog, gs⟩) = true →
      (DataW.weightsEach C.prog (fn.params.toList ++ s.plain.varTypes C.prog) (ds ++ gs)).all (· ≤ reachBytes) = true → X W args → W.ShapedOpen C.prog →
      a.holds C.prog (lone (Frame.enter C.prog f args .normal) [] W) →
      Calls C.prog f args W fun e W' => ∃ v, e = .returned v ∧ s.post enc C.prog fn apart fresh handsOn again W args v W') :
    ReturnsInHanded a C os f .any (fun w args => (s.pre enc C.prog fn conds apart w args ∧ X w args) ∧ sizedMet enc C.prog fn (OpenSpec.ofChange s) apart w args) (s.post enc C.prog fn apart fresh handsOn again) := by
  refine returnsInHanded_of_calls own started noInit witness ?_
  intro w tape i _ hsh _ hok hpre hholds
  obtain ⟨_, _, _, fn', hfn', _, _, _, _, hval⟩ := hok
  have e : fn' = fn := Option.some.inj (hfn'.symm.trans hfn)
  subst e
  obtain ⟨⟨⟨ds, gs, before, hw, hc⟩, hx⟩, hz⟩ := hpre
  refine (contract (w.forCall tape i) w.heap.size i.args ds gs before hval (DataW.Whole.of_heap (w' := w.forCall tape i) (by rfl) hw) hc (hz.weights hw) (hX _ _ _ (by rfl) hx) hsh hholds).mono fun e W' ⟨v, he, hp⟩ => ?_
  subst he
  exact ChangeSpec.post_blind hp
end
end Go.Proofs.YtakfineljffoaaaGreatDoor
