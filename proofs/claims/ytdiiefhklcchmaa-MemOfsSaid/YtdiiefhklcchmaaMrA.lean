/-
  MEMORIES, the reference's: a row of bytes, new or made of a string; an append of zeros to it. Conditions: lengths in the form's reach.
-/
import Derived.Test.YtdiiefhklcchmaaPart
import Derived.Test.YtdiiefhklcchmaaStep
import Derived.Test.YtdiiefhklcchmaaBytes
import Derived.Lib.FrozenHead
import Derived.Lib.ConvBytes
namespace Go.Proofs.Ytdiiefhklcchmaa
open Go.RowKit Go.Lib

/-- a row of bytes at the head of a block; what a string shares with it lies behind its cells -/
structure OwnM (w : World) (base g cap : Nat) (m : List Int) : Prop where
  base : base ≤ g
  cells : ∃ cur fz, w.heap[g]? = some (.cells cur 5 fz) ∧ (fz.2 = 0 ∨ cap ≤ fz.1) ∧ cur.size = cap ∧ cur.toList.take m.length = m.map (Value.int .u8)
  le : m.length ≤ cap
  cap : cap ≤ maxLen
theorem OwnM.lt {w : World} {base g cap : Nat} {m : List Int} (h : OwnM w base g cap m) : g < w.heap.size := by
  obtain ⟨cur, fz, hh, _⟩ := h.cells
  exact (Array.getElem?_eq_some_iff.1 hh).1
theorem OwnM.at {w : World} {base g cap : Nat} {m : List Int} (h : OwnM w base g cap m) (k : Nat) (hk : k < m.length) : w.cell? ⟨g, k, none⟩ = some (.int .u8 m[k]) := by
  obtain ⟨cur, fz, hh, hf, hs, ht⟩ := h.cells
  rw [cell_of_row w g k cur _ fz hh]
  have h1 : (cur.toList.take m.length)[k]? = cur[k]? := by rw [List.getElem?_take_of_lt hk]; simp
  rw [← h1, ht]
  simp [hk]
theorem OwnM.free {w : World} {base g cap : Nat} {m : List Int} (h : OwnM w base g cap m) (k : Nat) (hk : k < cap) : w.frozen? ⟨g, k, none⟩ = false := by
  obtain ⟨cur, fz, hh, hf, hs, ht⟩ := h.cells
  obtain ⟨lo, hi⟩ := fz
  simp only [World.frozen?, hh, Bool.and_eq_false_iff, decide_eq_false_iff_not]
  simp only at hf
  omega
theorem OwnM.same {w w' : World} {base g cap : Nat} {m : List Int} (h : OwnM w base g cap m) (hb : w'.heap[g]? = w.heap[g]?) : OwnM w' base g cap m := by
  obtain ⟨h1, ⟨cur, fz, hh, r⟩, h3, h4⟩ := h
  exact ⟨h1, ⟨cur, fz, hb.trans hh, r⟩, h3, h4⟩
theorem OwnM.mono {w : World} {base b' g cap : Nat} {m : List Int} (h : OwnM w base g cap m) (hb : b' ≤ base) : OwnM w b' g cap m := ⟨Nat.le_trans hb h.base, h.cells, h.le, h.cap⟩
theorem OwnM.put {w : World} {base g cap : Nat} {m : List Int} (h : OwnM w base g cap m) (k : Nat) (x : Int) : OwnM (w.setCell ⟨g, k, none⟩ (.int .u8 x)) base g cap (m.set k x) := by
  obtain ⟨h1, ⟨cur, fz, hh, hf, hs, ht⟩, h3, h4⟩ := h
  refine ⟨h1, ⟨cur.setIfInBounds k (.int .u8 x), fz, ?_, hf, by simpa using hs, ?_⟩, by rw [List.length_set]; exact h3, h4⟩
  · rw [setCell_eq_setRow w g k cur _ fz _ hh]
    exact setRow_heap w g cur _ _ fz hh
  · rw [List.length_set, List.map_set, ← ht]
    simp [List.take_set]
theorem OwnM.of_own {w : World} {base g n cap : Nat} {m : List Int} (h : w.ownsRow base 5 1 (.slice (some ⟨g, 0, none⟩) n cap) n (m.map (Value.int .u8))) : OwnM w base g cap m ∧ n = m.length := by
  obtain ⟨h1, h2⟩ := h
  have hn : n = m.length := by simp at h1; omega
  rcases h2 with ⟨h2, _⟩ | ⟨g', cap', cur, hv, hg, hh, hc, hm, hs, ht⟩
  · simp at h2
  simp only [Value.slice.injEq, Option.some.injEq, Addr.mk.injEq, and_true, true_and] at hv
  obtain ⟨rfl, rfl⟩ := hv
  refine ⟨⟨hg, ⟨cur, (0, 0), hh, .inl rfl, by simpa using hs, by rw [← ht, hn]; simp⟩, by omega, hm⟩, hn⟩

/-- cells are stored into a row whose marks lie behind it -/
theorem run_storeCells_atG (P : Program) (g o : Nat) (t : TypeId) (fz : Nat × Nat) : ∀ (vs : List Value) (i : Nat) (cur : Array Value) (w : World), w.heap[g]? = some (.cells cur t fz) → (fz.2 = 0 ∨ cur.size ≤ fz.1) → o + i + vs.length ≤ cur.size → (∀ v ∈ vs, v.oneCell' = true) →
    (storeCells ⟨g, o, none⟩ vs i).run P w = .ok () (w.setRow g (cur.toList.take (o + i) ++ vs ++ cur.toList.drop (o + i + vs.length)).toArray)
  | [], i, cur, w, hg, _, _, _ => by
    simp only [storeCells, List.append_nil, List.length_nil, Nat.add_zero, List.take_append_drop, Array.toArray_toList]
    rw [setRow_self w g cur t fz hg]
    rfl
  | v :: rest, i, cur, w, hg, hfz, hl, h1 => by
    have hi : o + i < cur.size := by simp at hl; omega
    have hadd : (⟨g, o, none⟩ : Addr).add i = ⟨g, o + i, none⟩ := by unfold Addr.add; split <;> simp_all
    have hcell : w.cell? ⟨g, o + i, none⟩ = some cur[o + i] := by simp [World.cell?, hg, hi]
    have hfro : w.frozen? ⟨g, o + i, none⟩ = false := by
      obtain ⟨lo, hi'⟩ := fz
      simp only [World.frozen?, hg, Bool.and_eq_false_iff, decide_eq_false_iff_not]
      simp only at hfz
      omega
    have hst : (store ((⟨g, o, none⟩ : Addr).add i) v).run P w = .ok () (w.setRow g (cur.setIfInBounds (o + i) v)) := by
      rw [hadd, run_store P w _ v _ (h1 v (by simp)), hcell]
      simp [hfro, setCell_eq_setRow w g (o + i) cur t fz v hg]
    have ih := run_storeCells_atG P g o t fz rest (i + 1) (cur.setIfInBounds (o + i) v) (w.setRow g (cur.setIfInBounds (o + i) v)) (setRow_heap w g cur _ t _ hg) (by simpa using hfz) (by simp at hl ⊢; omega) (fun x hx => h1 x (by simp [hx]))
    simp only [storeCells, Sem.run_bind, hst, Result.andThen_ok, ih, setRow_setRow]
    congr 3
    have e := list_seg_step cur.toList (o + i) v rest (by simp at hl ⊢; omega)
    simpa [Array.toList_setIfInBounds, Nat.add_assoc] using e

/-- append(b, make([]byte, k)...) of such a row, k above 0 -/
theorem run_zeros_m (w : World) (base g cap k : Nat) (m : List Int) (tn ty : TypeId) (kq kn : IntKind) (htn : Try.prog.underlying tn = some (.int kn)) (h : OwnM w base g cap m) (h0 : 0 < k) (hk : m.length + k ≤ 140737488355328) (hbase : base ≤ w.heap.size) :
    ∃ g' cap' w', (Builtin.append_ #[34, tn] ty #[.slice (some ⟨g, 0, none⟩) m.length cap, .int kq k]).run Try.prog w = .ok (.slice (some ⟨g', 0, none⟩) (m.length + k) cap') w' ∧ OwnM w' base g' cap' (m ++ List.replicate k 0) ∧ w.grownBy w' (some g) ∧ (g' = g ∨ w.heap.size ≤ g') := by
  obtain ⟨i0, hi, hz0, hz1, hzb⟩ := info_parts (show (Try.prog.info? 5).map (fun i => (i.zero, i.size, i.bytes)) = some (some (.int .u8 0), 1, 1) from by kernel_rfl)
  have ht := Try.underlying34
  obtain ⟨hbg, ⟨cur, fz, hh, hf, hs, htk⟩, hle, hcm⟩ := id h
  have hz' : Builtin.zeroCells (Value.int .u8 0).cells k = (List.replicate k (Value.int .u8 0)).toArray := by
    rw [show (Value.int .u8 0).cells = #[.int .u8 0] from rfl, zeroCells_one]
  by_cases hroom : m.length + k ≤ cap
  · have hw : IntKind.i64.wrap (k : Int) = k := by rw [IntKind.wrap_i64]; omega
    have hneg : ¬ ((k : Int) < 0) := by omega
    have h48i : ¬ (281474976710656 < (k : Int) * (i0.bytes : Int)) := by rw [hzb]; omega
    have hns : ¬ (k = 0) := by omega
    have hst := run_storeCells_atG Try.prog g m.length 5 fz (List.replicate k (Value.int .u8 0)) 0 cur w hh (by rw [hs]; exact hf) (by simp; omega) (by intro c hc; rw [List.eq_of_mem_replicate hc]; rfl)
    simp only [Nat.add_zero] at hst
    have hr : (Builtin.append_ #[34, tn] ty #[.slice (some ⟨g, 0, none⟩) m.length cap, .int kq k]).run Try.prog w = .ok (.slice (some ⟨g, 0, none⟩) (m.length + k) cap) (w.setRow g (cur.toList.take m.length ++ List.replicate k (Value.int .u8 0) ++ cur.toList.drop (m.length + (List.replicate k (Value.int .u8 0)).length)).toArray) := by
      simp [Builtin.append_, run_underlying ht, run_underlying htn, sizeOf, typeInfo, zeroValue, hi, hz0, hz1, asInt, asIntOf, hw, hneg, hns, h48i, hroom, Addr.add_lit, hst, hz']
    refine ⟨g, cap, _, hr, ⟨hbg, ⟨_, fz, setRow_heap w g cur _ _ fz hh, hf, ?_, ?_⟩, ?_, hcm⟩, ⟨rfl, rfl, rfl, by simp, fun j _ hj => setRow_other w g j _ (fun e => hj (by simp [e]))⟩, .inl rfl⟩
    · simp only [List.size_toArray, List.length_append, List.length_take, List.length_drop, Array.length_toList, List.length_replicate]
      omega
    · rw [htk, ← List.map_replicate (f := Value.int .u8) (a := (0 : Int)), ← List.map_append]
      exact List.take_left' (by simp)
    · simp; omega
  · have holds : ∀ j u, (m.map (Value.int .u8))[j]? = some u → w.cell? ((⟨g, 0, none⟩ : Addr).add j) = some u := by
      intro j u hu
      have hjl : j < m.length := by
        rcases Nat.lt_or_ge j m.length with hj | hj
        · exact hj
        · simp [List.getElem?_eq_none (l := m) hj] at hu
      have hadd : (⟨g, 0, none⟩ : Addr).add j = ⟨g, j, none⟩ := by unfold Addr.add; split <;> simp_all
      rw [hadd, h.at j hjl, ← hu]
      simp [hjl]
    have hfc := run_firstCells_some (P := Try.prog) w.drew i0.size m.length ⟨g, 0, none⟩ m.length cap (m.map (Value.int .u8)) (by rw [hz1]; simp) (fun j u h => holds j u h)
    have hb1 : (m.length + k) * i0.bytes ≤ 140737488355328 := by rw [hzb]; omega
    have hm48 : k * i0.bytes ≤ 140737488355328 := by rw [hzb]; omega
    have hr := run_append_grow_zeros (P := Try.prog) w 34 tn ty 5 i0 (.int .u8 0) kq kn ht htn hi hz0 (some ⟨g, 0, none⟩) m.length cap (m.map (Value.int .u8)) hfc k h0 (by omega) (by omega) (by omega) (by omega) (growslice_fits (by omega) hb1)
    have hge := grownCap_ge w (m.length + k) cap 5
    have hcm2 : grownCap w (m.length + k) cap 5 ≤ maxLen := grownCap_le_maxLen w (m.length + k) cap 5 (by unfold maxLen; omega)
    refine ⟨w.heap.size, _, _, hr, ⟨hbase, ⟨_, (0, 0), heap_alloc_new w.drew _, .inl rfl, ?_, ?_⟩, by simp; omega, hcm2⟩, ⟨rfl, rfl, rfl, by simp, fun j hj _ => Below.heap_alloc w.drew _ j hj⟩, .inr (Nat.le_refl _)⟩
    · simp only [Array.size_append, List.size_toArray, size_zeroCells, List.length_map, show (Value.int .u8 0).cells.size = 1 from rfl]
      omega
    · rw [hz']
      simp only [Array.toList_append, List.map_append, List.map_replicate]
      exact List.take_left' (by simp)
end Go.Proofs.Ytdiiefhklcchmaa
