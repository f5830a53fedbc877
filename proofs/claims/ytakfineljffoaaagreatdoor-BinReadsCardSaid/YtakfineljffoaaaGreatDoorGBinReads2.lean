/-
  ROWS THAT THE CALL OWNS, ELEMENTS OF ONE CELL OF ANY KIND: appends, an append of zeros, stores, reads. Conditions: lengths in the form's reach.
-/
import Derived.Test.YtakfineljffoaaaGreatDoorGBinReads1
import Derived.Lib.AppendZerosOnto
import Derived.Lib.AppendZeros
import Derived.Laws.OwnMore
import Derived.Deep.QuietTactic
import Derived.Laws.StructEq
import Derived.BigQuiet
namespace Go.Proofs.YtakfineljffoaaaGreatDoor
open Go.RowKit Go.Lib

theorem app_o1 {α : Type} {enc : α → Value} (h1 : ∀ x, (enc x).oneCell' = true) {P : Program} {T E : TypeId} {z : Value} {bytes : Nat} (hE : Elem P T E z 1 bytes)
    {ops : Array Oper} {rest : List Oper} {o : Oper} {a : Act} {Q : Exit → Act → World → Prop} {w : World} {base : Nat} {v : Value} {xs : List α} {y : α} (hgd : o.guard = none) (s x : Operand)
    (ho : o.op = .call { callee := .builtin .append, args := #[s, x], argTypes := #[T, T] })
    {mm : Nat} (hs : a.eval s = v) (hx : a.eval x = .slice (some ⟨mm, 0, none⟩) 1 1) (hmm : mm = w.heap.size) (hown : O1 enc w base E v xs)
    (hlen : xs.length + 1 ≤ 9223372036854775807) (hbytes : (xs.length + 1) * bytes ≤ 140737488355328) (hbase : base ≤ w.heap.size)
    (h : ∀ v' w', O1 enc w' base E v' (xs ++ [y]) → Below base w w' → Grew w v w' v' → wpList P ops Q rest (a.put o.dst v') w') : wpList P ops Q (o :: rest) a (w.alloc (.cells #[enc y] E)) := by
  refine app_one hE (cs := [enc y]) hgd s x ho hs hx hmm hown rfl (by intro c hc; simp at hc; subst hc; exact h1 y) hlen hbytes hbase ?_
  intro v' w' g1 g2 g3
  refine h v' w' ?_ g2 g3
  show w'.ownsRow base E 1 v' (xs ++ [y]).length ((xs ++ [y]).map enc)
  rw [List.map_append, List.length_append]
  exact g1

theorem app_l1 {α : Type} {enc : α → Value} (h1 : ∀ x, (enc x).oneCell' = true) {P : Program} {T E : TypeId} {z : Value} {bytes : Nat} (hE : Elem P T E z 1 bytes)
    {ops : Array Oper} {rest : List Oper} {o : Oper} {a : Act} {Q : Exit → Act → World → Prop} {w : World} {base : Nat} {v u : Value} {xs ys : List α} (hgd : o.guard = none) (s x : Operand)
    (ho : o.op = .call { callee := .builtin .append, args := #[s, x], argTypes := #[T, T] })
    (hs : a.eval s = v) (hx : a.eval x = u) (hown : O1 enc w base E v xs) (hu : L1 enc w u ys)
    (hlen : xs.length + ys.length ≤ 9223372036854775807) (hbytes : (xs.length + ys.length) * bytes ≤ 140737488355328) (hbase : base ≤ w.heap.size)
    (h : ∀ v' w', O1 enc w' base E v' (xs ++ ys) → Below base w w' → Grew w v w' v' → wpList P ops Q rest (a.put o.dst v') w') : wpList P ops Q (o :: rest) a w := by
  refine app_any hE hgd s x ho hs hx hown hu (by simp) (map_oneCell h1 _) hlen hbytes hbase ?_
  intro v' w' g1 g2 g3
  refine h v' w' ?_ g2 g3
  show w'.ownsRow base E 1 v' (xs ++ ys).length ((xs ++ ys).map enc)
  rw [List.map_append, List.length_append]
  exact g1

theorem zeroCells_one (z : Value) (m : Nat) : Builtin.zeroCells #[z] m = (List.replicate m z).toArray := by
  apply Array.ext
  · rw [size_zeroCells]; simp
  · intro i h1 h2
    simp [Builtin.zeroCells, Nat.mod_one]

/-- append(s, make([]T, m)...), s the call's own, m above 0 -/
theorem run_own_zeros {P : Program} (w : World) (base : Nat) (t tn ty e : TypeId) (i : TypeInfo) (z : Value) (kq kn : IntKind) (bytes : Nat) (ht : P.underlying t = some (.slice e)) (htn : P.underlying tn = some (.int kn)) (hi : P.info? e = some i) (hz : i.zero = some z)
    (hsize : i.size = 1) (hby : i.bytes = bytes) (hzs : z.cells = #[z]) (hz1 : z.oneCell' = true)
    (v : Value) (n : Nat) (xs : List Value) (hown : w.ownsRow base e 1 v n xs) (m : Nat) (h0 : 0 < m)
    (h63 : n + m ≤ maxLen) (hbytes : (n + m) * bytes ≤ 140737488355328) (hbase : base ≤ w.heap.size) :
    ∃ v' w', (Builtin.append_ #[t, tn] ty #[v, .int kq m]).run P w = .ok v' w' ∧ w'.ownsRow base e 1 v' (n + m) (xs ++ List.replicate m z) ∧ Grew w v w' v' := by
  subst hby
  have hsmall : n + m ≤ 9223372036854775807 := by simp only [maxLen] at h63; omega
  have hm48 : m * i.bytes ≤ 140737488355328 := Nat.le_trans (Nat.mul_le_mul_right _ (by omega)) hbytes
  have hlen : (xs ++ List.replicate m z).length = (n + m) * 1 := by rw [List.length_append, hown.1, List.length_replicate]; omega
  have grown : ∀ (old : Nat), old < n + m → ∀ v : Value,
      (w.drew.alloc (.cells (xs.toArray ++ Builtin.zeroCells z.cells m ++ Builtin.zeroCells z.cells (grownCap w (n + m) old e - (n + m))) e)).ownsRow base e 1
        (.slice (some ⟨w.heap.size, 0, none⟩) (n + m) (grownCap w (n + m) old e)) (n + m) (xs ++ List.replicate m z) ∧
      Grew w v (w.drew.alloc (.cells (xs.toArray ++ Builtin.zeroCells z.cells m ++ Builtin.zeroCells z.cells (grownCap w (n + m) old e - (n + m))) e)) (.slice (some ⟨w.heap.size, 0, none⟩) (n + m) (grownCap w (n + m) old e)) := by
    intro old ho v
    have hge := grownCap_ge w (n + m) old e
    have hcm : grownCap w (n + m) old e ≤ maxLen := grownCap_le_maxLen w (n + m) old e h63
    have hz' : Builtin.zeroCells z.cells m = (List.replicate m z).toArray := by rw [hzs, zeroCells_one]
    refine ⟨⟨hlen, .inr ⟨w.heap.size, _, _, rfl, hbase, heap_alloc_new w.drew _, hge, hcm, ?_, ?_⟩⟩, ⟨⟨rfl, rfl, rfl, by simp, fun k hk _ => Below.heap_alloc w.drew _ k hk⟩, .inr ⟨w.heap.size, rfl, Nat.le_refl _⟩⟩⟩
    · have hx := hown.1
      simp only [Array.size_append, List.size_toArray, size_zeroCells, hzs, List.length_cons, List.length_nil]
      omega
    · rw [hz']
      simp only [Array.toList_append]
      rw [← hlen]
      exact List.take_left
  rcases id hown.2 with ⟨rfl, rfl⟩ | ⟨g, cap, cur, rfl, hbg, hg, hnc, hcm, hcs, htake⟩
  · have hx : xs = [] := List.eq_nil_of_length_eq_zero (by simpa using hown.1)
    subst hx
    have hr := run_append_nil_zeros (P := P) w t tn ty e i z kq kn ht htn hi hz m h0 (by omega) (by omega) (by omega)
    have hgr := grown 0 (by omega) (.slice none 0 0)
    simp only [Nat.zero_add, List.nil_append, Array.empty_append] at hgr ⊢
    exact ⟨_, _, hr, hgr.1, hgr.2⟩
  · by_cases hroom : n + m ≤ cap
    · have hw : IntKind.i64.wrap (m : Int) = m := by rw [IntKind.wrap_i64]; omega
      have hneg : ¬ ((m : Int) < 0) := by omega
      have h48i : ¬ (281474976710656 < (m : Int) * (i.bytes : Int)) := by
        rw [← Int.natCast_mul]; omega
      have hns : ¬ (m = 0) := by omega
      have hz' : Builtin.zeroCells z.cells m = (List.replicate m z).toArray := by rw [hzs, zeroCells_one]
      have hfit : n * 1 + (List.replicate m z).length ≤ cur.size := by rw [hcs, List.length_replicate]; omega
      have hst := run_storeCells_at P g (n * 1) e (List.replicate m z) 0 cur w hg (by simpa using hfit) (by intro c hc; rw [List.eq_of_mem_replicate hc]; exact hz1)
      simp only [Nat.add_zero, Nat.mul_one] at hst
      have hr : (Builtin.append_ #[t, tn] ty #[.slice (some ⟨g, 0, none⟩) n cap, .int kq m]).run P w = .ok (.slice (some ⟨g, 0, none⟩) (n + m) cap) (w.setRow g (cur.toList.take (n * 1) ++ List.replicate m z ++ cur.toList.drop (n * 1 + (List.replicate m z).length)).toArray) := by
        simp [Builtin.append_, run_underlying ht, run_underlying htn, sizeOf, typeInfo, zeroValue, hi, hz, hsize, asInt, asIntOf, hw, hneg, hns, h48i, hroom, Addr.add_lit, hst, hz']
      refine ⟨_, _, hr, ⟨hlen, .inr ⟨g, cap, _, rfl, hbg, setRow_heap w g cur _ e _ hg, hroom, hcm, ?_, ?_⟩⟩, ⟨⟨rfl, rfl, rfl, by simp, fun k _ hk => setRow_other w g k _ (fun e => hk (by simp [Value.ownBlock, e]))⟩, .inl rfl⟩⟩
      · simp only [List.size_toArray, List.length_append, List.length_take, List.length_drop, Array.length_toList, List.length_replicate]
        omega
      · rw [htake, ← hlen]
        exact List.take_left
    · have holds : ∀ j u, xs[j]? = some u → w.cell? ((⟨g, 0, none⟩ : Addr).add j) = some u := hown.cells (g := g) rfl
      have hf := run_firstCells_some (P := P) w.drew i.size n ⟨g, 0, none⟩ n cap xs (by rw [hsize]; exact hown.1) (fun j u h => holds j u h)
      have hr := run_append_grow_zeros (P := P) w t tn ty e i z kq kn ht htn hi hz (some ⟨g, 0, none⟩) n cap xs hf m h0 (by omega) (by omega) (by omega) (by omega) (growslice_fits (by omega) hbytes)
      have hgr := grown cap (by omega) (Value.slice (some ⟨g, 0, none⟩) n cap)
      exact ⟨_, _, hr, hgr.1, hgr.2⟩

theorem app_zeros {α : Type} {enc : α → Value} {zz : α} {P : Program} {T TN E : TypeId} {bytes : Nat} (hE : Elem P T E (enc zz) 1 bytes) {kn kq : IntKind} (htn : P.underlying TN = some (.int kn)) (hzs : (enc zz).cells = #[enc zz]) (hz1 : (enc zz).oneCell' = true)
    {ops : Array Oper} {rest : List Oper} {o : Oper} {a : Act} {Q : Exit → Act → World → Prop} {w : World} {base : Nat} {v : Value} {xs : List α} {m : Nat} {M : Int} (hgd : o.guard = none) (s x : Operand)
    (ho : o.op = .call { callee := .builtin .append, args := #[s, x], argTypes := #[T, TN] })
    (hs : a.eval s = v) (hx : a.eval x = .int kq M) (hM : M = (m : Int)) (h0 : 0 < m) (hown : O1 enc w base E v xs)
    (hlen : xs.length + m ≤ 9223372036854775807) (hbytes : (xs.length + m) * bytes ≤ 140737488355328) (hbase : base ≤ w.heap.size)
    (h : ∀ v' w', O1 enc w' base E v' (xs ++ List.replicate m zz) → Below base w w' → Grew w v w' v' → wpList P ops Q rest (a.put o.dst v') w') : wpList P ops Q (o :: rest) a w := by
  subst hM
  obtain ⟨ht, hinfo, hz2, hpos⟩ := hE
  obtain ⟨i0, hi, hz0, hz1', hzb⟩ := info_parts hinfo
  refine wpList_plain hgd fun K hK => ?_
  obtain ⟨v', w', hr, h2, h3⟩ := run_own_zeros (P := P) w base T TN o.type E i0 (enc zz) kq kn bytes ht htn hi hz0 hz1' hzb hzs hz1 v xs.length (xs.map enc) hown m h0 (by unfold maxLen; omega) hbytes hbase
  unfold Oper.wp execOp
  simp only [ho, resolve, invoke, builtin, Sem.run_bind, Sem.run_pure, Result.andThen_ok, List.map_toArray, List.map_cons, List.map_nil, hs, hx, hr]
  refine hK _ _ (h v' w' ?_ ((Below.refl base w).grown h3.1 hbase (own_block hown)) h3)
  show w'.ownsRow base E 1 v' (xs ++ List.replicate m zz).length ((xs ++ List.replicate m zz).map enc)
  rw [List.map_append, List.length_append, List.length_replicate, List.map_replicate]
  exact h2

theorem O1.stored {α : Type} {enc : α → Value} {w : World} {base : Nat} {e : TypeId} {g n cap : Nat} {xs : List α} (h : O1 enc w base e (.slice (some ⟨g, 0, none⟩) n cap) xs) (j : Nat) (x : α) :
    O1 enc (w.setCell ⟨g, j, none⟩ (enc x)) base e (.slice (some ⟨g, 0, none⟩) n cap) (xs.set j x) ∧ Grew w (.slice (some ⟨g, 0, none⟩) n cap) (w.setCell ⟨g, j, none⟩ (enc x)) (.slice (some ⟨g, 0, none⟩) n cap) := by
  have h0 : w.ownsRow base e 1 (.slice (some ⟨g, 0, none⟩) n cap) xs.length (xs.map enc) := h
  have hn : n = xs.length := by
    rcases h.2 with ⟨h', _⟩ | ⟨_, _, _, h', _⟩
    · simp at h'
    · simp only [Value.slice.injEq] at h'; exact h'.2.1
  subst hn
  obtain ⟨h1, h2⟩ := h0.stored j (enc x)
  refine ⟨?_, h2, .inl rfl⟩
  show World.ownsRow _ _ _ _ _ (xs.set j x).length ((xs.set j x).map enc)
  rw [List.length_set, List.map_set]
  exact h1
theorem O1.len {α : Type} {enc : α → Value} {w : World} {base : Nat} {e : TypeId} {ao : Option Addr} {n cap : Nat} {xs : List α} (h : O1 enc w base e (.slice ao n cap) xs) : n = xs.length := by
  rcases h.2 with ⟨h', h2⟩ | ⟨_, _, _, h', _⟩
  · simp only [Value.slice.injEq] at h'; omega
  · simp only [Value.slice.injEq] at h'; exact h'.2.1
theorem O1.cellAt {α : Type} {enc : α → Value} {w : World} {base : Nat} {e : TypeId} {g n cap : Nat} {xs : List α} (h : O1 enc w base e (.slice (some ⟨g, 0, none⟩) n cap) xs) (j : Nat) (hj : j < xs.length) :
    w.cell? ⟨g, j, none⟩ = some (enc xs[j]) ∧ w.frozen? ⟨g, j, none⟩ = false := by
  have h0 : w.ownsRow base e 1 (.slice (some ⟨g, 0, none⟩) n cap) xs.length (xs.map enc) := h
  obtain rfl := h.len
  refine ⟨?_, h0.frozenAt j⟩
  rw [h0.cellAt j (by omega)]
  simp [hj]
theorem O1.bounds {α : Type} {enc : α → Value} {w : World} {base : Nat} {e : TypeId} {g n cap : Nat} {xs : List α} (h : O1 enc w base e (.slice (some ⟨g, 0, none⟩) n cap) xs) : base ≤ g ∧ g < w.heap.size ∧ n = xs.length ∧ n ≤ cap ∧ cap ≤ 9223372036854775807 := by
  have hn := h.len
  have h1 := h.lt g rfl
  obtain ⟨ao, cap', hv, h2, h3, _⟩ := h.l1
  simp only [Value.slice.injEq] at hv
  exact ⟨h1.1, h1.2, hn, by omega, by omega⟩
/-- an owned row that is not empty stands at the head of a block -/
theorem O1.head' {α : Type} {enc : α → Value} {w : World} {base : Nat} {e : TypeId} {v : Value} {xs : List α} (h : O1 enc w base e v xs) (hne : 0 < xs.length) : ∃ g cap, v = .slice (some ⟨g, 0, none⟩) xs.length cap ∧ base ≤ g ∧ g < w.heap.size ∧ xs.length ≤ cap ∧ cap ≤ 9223372036854775807 := by
  obtain ⟨g, cap, rfl, _⟩ := h.head hne
  have := h.bounds
  exact ⟨g, cap, rfl, this.1, this.2.1, this.2.2.2.1, this.2.2.2.2⟩
theorem At.setCell {w : World} {b off : Nat} {cs : List Value} {a : Addr} (h : At w b off cs) (hne : a.block ≠ b) (v : Value) : At (w.setCell a v) b off cs := by
  intro j hj
  rw [← h j hj]
  exact World.cell?_of_block (a := ⟨b, off + j, none⟩) (Below.heap_setCell _ _ _ _ (Ne.symm hne))
end Go.Proofs.YtakfineljffoaaaGreatDoor
namespace Go.Proofs.YtakfineljffoaaaGreatDoor
open Go.RowKit Go.Lib

/-- what a call touches: beside the blocks of F nothing that was there turns -/
structure Touch (F : Nat → Prop) (w w' : World) : Prop where
  os : w'.os = w.os
  tape : w'.tape = w.tape
  output : w'.output = w.output
  size : w.heap.size ≤ w'.heap.size
  block : ∀ k, k < w.heap.size → ¬ F k → w'.heap[k]? = w.heap[k]?
theorem Touch.refl (F : Nat → Prop) (w : World) : Touch F w w := ⟨rfl, rfl, rfl, Nat.le_refl _, fun _ _ _ => rfl⟩
theorem Touch.trans {F : Nat → Prop} {a b c : World} (h : Touch F a b) (k : Touch F b c) : Touch F a c :=
  ⟨k.os.trans h.os, k.tape.trans h.tape, k.output.trans h.output, Nat.le_trans h.size k.size, fun i hi hF => (k.block i (Nat.lt_of_lt_of_le hi h.size) hF).trans (h.block i hi hF)⟩
theorem Touch.mono {F G : Nat → Prop} {a b : World} (h : Touch F a b) (hFG : ∀ k, k < a.heap.size → F k → G k) : Touch G a b := ⟨h.os, h.tape, h.output, h.size, fun k hk hG => h.block k hk (fun hF => hG (hFG k hk hF))⟩
/-- what is new may be turned besides -/
theorem Touch.trans' {F G : Nat → Prop} {a b c : World} (h : Touch F a b) (k : Touch G b c) (hG : ∀ i, i < a.heap.size → G i → F i) : Touch F a c :=
  ⟨k.os.trans h.os, k.tape.trans h.tape, k.output.trans h.output, Nat.le_trans h.size k.size, fun i hi hF => (k.block i (Nat.lt_of_lt_of_le hi h.size) (fun g => hF (hG i hi g))).trans (h.block i hi hF)⟩
theorem Touch.of_below {F : Nat → Prop} {w w' : World} (h : Below w.heap.size w w') : Touch F w w' := ⟨h.os, h.tape, h.output, h.size, fun k hk _ => h.block k hk⟩
theorem Touch.below {F : Nat → Prop} {w w' : World} {B : Nat} (h : Touch F w w') (hB : B ≤ w.heap.size) (hF : ∀ k, F k → B ≤ k) : Below B w w' :=
  ⟨h.os, h.tape, h.output, h.size, fun k hk => h.block k (by omega) (fun hf => by have := hF k hf; omega)⟩
theorem Touch.setCell {F : Nat → Prop} {w : World} {a : Addr} (hF : F a.block) (v : Value) : Touch F w (w.setCell a v) :=
  ⟨rfl, rfl, rfl, by simp, fun k _ hk => Below.heap_setCell _ _ _ _ (fun e => hk (e ▸ hF))⟩
theorem Touch.grown {F : Nat → Prop} {w w' : World} {row : Option Nat} (h : w.grownBy w' row) (hF : ∀ k, row = some k → F k) : Touch F w w' :=
  ⟨h.os, h.tape, h.output, h.size, fun k hk hk2 => h.block k hk (fun e => hk2 (hF k e.symm))⟩
theorem Touch.drew {F : Nat → Prop} {w w' : World} (h : Touch F w w') (n : Nat) : Touch F w (w'.drewN n) := ⟨h.os, h.tape, h.output, h.size, h.block⟩
theorem Touch.alloc {F : Nat → Prop} {w w' : World} (h : Touch F w w') (o : Obj) : Touch F w (w'.alloc o) := h.trans (Touch.of_below ((Below.refl _ _).alloc (Nat.le_refl _) _))
theorem own_touch {w w' : World} {F : Nat → Prop} {base : Nat} {e : TypeId} {size : Nat} {v : Value} {n : Nat} {cs : List Value} (h : w.ownsRow base e size v n cs) (ht : Touch F w w') (hF : ∀ k, v.ownBlock = some k → ¬ F k) : w'.ownsRow base e size v n cs := by
  obtain ⟨h1, h2⟩ := h
  refine ⟨h1, ?_⟩
  rcases h2 with h2 | ⟨g, cap, cur, hv, hg, hh, r⟩
  · exact .inl h2
  · refine .inr ⟨g, cap, cur, hv, hg, ?_, r⟩
    rw [ht.block g (lt_of_block hh) (hF g (by rw [hv]; rfl))]; exact hh

theorem own_prefix {w : World} {base : Nat} {e : TypeId} {size : Nat} {g n cap : Nat} {cs : List Value} (h : w.ownsRow base e size (.slice (some ⟨g, 0, none⟩) n cap) n cs) (i : Nat) (hi : i ≤ n) :
    w.ownsRow base e size (.slice (some ⟨g, 0, none⟩) i cap) i (cs.take (i * size)) := by
  obtain ⟨h1, h2⟩ := h
  have him : i * size ≤ n * size := Nat.mul_le_mul_right _ hi
  refine ⟨by rw [List.length_take, h1]; omega, ?_⟩
  rcases h2 with ⟨h2, _⟩ | ⟨g', cap', cur, hv, hg, hh, hn, hc, hs, ht⟩
  · simp at h2
  · simp only [Value.slice.injEq, Option.some.injEq, Addr.mk.injEq, and_true, true_and] at hv
    obtain ⟨rfl, rfl⟩ := hv
    refine .inr ⟨g, cap, cur, rfl, hg, hh, by omega, hc, hs, ?_⟩
    rw [← ht, List.take_take, Nat.min_eq_left him]

/-- append in place: out, the call's own, has room -/
theorem app_fits {P : Program} {T E : TypeId} {z : Value} {size bytes : Nat} (hE : Elem P T E z size bytes)
    {ops : Array Oper} {rest : List Oper} {o : Oper} {a : Act} {Q : Exit → Act → World → Prop} {w : World} {base g n cap : Nat} {u : Value} {m : Nat} {xs news : List Value} (hgd : o.guard = none) (s x : Operand)
    (ho : o.op = .call { callee := .builtin .append, args := #[s, x], argTypes := #[T, T] })
    (hs : a.eval s = .slice (some ⟨g, 0, none⟩) n cap) (hx : a.eval x = u) (hown : w.ownsRow base E size (.slice (some ⟨g, 0, none⟩) n cap) n xs) (hu : Sl w u m news) (hu0 : ∃ ad c, u = .slice (some ad) m c) (hl : news.length = m * size) (h1 : ∀ c ∈ news, c.oneCell' = true)
    (hroom : n + m ≤ cap)
    (h : ∀ w', w'.ownsRow base E size (.slice (some ⟨g, 0, none⟩) (n + m) cap) (n + m) (xs ++ news) → w.grownBy w' (some g) → wpList P ops Q rest (a.put o.dst (.slice (some ⟨g, 0, none⟩) (n + m) cap)) w') : wpList P ops Q (o :: rest) a w := by
  obtain ⟨ht, hinfo, hz2, hpos⟩ := hE
  obtain ⟨i0, hi, hz0, hz1, hzb⟩ := info_parts hinfo
  obtain ⟨ad, c, rfl⟩ := hu0
  obtain ⟨ao, cap', hv, hmc, hcap, hnil, hcells⟩ := hu
  simp only [Value.slice.injEq, true_and] at hv
  obtain ⟨rfl, rfl⟩ := hv
  have hnews : ∀ j c, news[j]? = some c → w.cell? (ad.add j) = some c := by
    intro j c hj
    rcases hcells with rfl | ⟨b, off, hb, hat⟩
    · simp at hj
    · simp only [Option.some.injEq] at hb
      subst hb
      have hjl : j < news.length := by
        rcases Nat.lt_or_ge j news.length with h | h
        · exact h
        · simp [List.getElem?_eq_none h] at hj
      have hplain : (⟨b, off, none⟩ : Addr).add j = ⟨b, off + j, none⟩ := by unfold Addr.add; split <;> simp_all
      rw [hplain, hat j hjl, ← hj, List.getElem?_eq_getElem hjl]
  refine wpList_plain hgd fun K hK => ?_
  obtain ⟨w', hr, h2, h3⟩ := run_append_fits (P := P) (w := w) base T o.type E i0 size ht hi hz1 g n cap xs hown ad m c news hl hnews h1 hroom
  unfold Oper.wp execOp
  simp only [ho, resolve, invoke, builtin, Sem.run_bind, Sem.run_pure, Result.andThen_ok, List.map_toArray, List.map_cons, List.map_nil, hs, hx, hr]
  exact hK _ _ (h w' h2 h3)

theorem own_suffix {w : World} {base : Nat} {e : TypeId} {size : Nat} {g n cap : Nat} {cs : List Value} (h : w.ownsRow base e size (.slice (some ⟨g, 0, none⟩) n cap) n cs) (i : Nat) (hi : i ≤ n) :
    Sl w (.slice (some ⟨g, i * size, none⟩) (n - i) (cap - i)) (n - i) (cs.drop (i * size)) := by
  have hs := own_sl h
  obtain ⟨ao, cap', hv, h1, h2, _, h4⟩ := hs
  simp only [Value.slice.injEq, true_and] at hv
  obtain ⟨rfl, rfl⟩ := hv
  refine ⟨_, _, rfl, by omega, by omega, by simp, ?_⟩
  rcases h4 with rfl | ⟨b, off, hb, hat⟩
  · exact .inl (by simp)
  · simp only [Option.some.injEq, Addr.mk.injEq, and_true] at hb
    obtain ⟨rfl, rfl⟩ := hb
    refine .inr ⟨g, i * size, rfl, ?_⟩
    intro j hj
    have := hat (i * size + j) (by simp at hj; omega)
    rw [Nat.zero_add] at this
    rw [this, List.getElem_drop]

/-- clear of one element behind the end of a row that the call owns -/
theorem run_clear_own {P : Program} {T E : TypeId} {z : Value} {size bytes : Nat} (hE : Elem P T E z size bytes) (h1 : ∀ c ∈ z.cells.toList, c.oneCell' = true)
    {w : World} {base g n cap c0 k off : Nat} {xs : List Value} (hoff : off = n * size) (hk : k = 1) (hroom : n + 1 ≤ cap) (hown : w.ownsRow base E size (.slice (some ⟨g, 0, none⟩) n cap) n xs) :
    ∃ w', (∀ ty, (Builtin.clear_ #[T] ty #[.slice (some ⟨g, off, none⟩) k c0]).run P w = .ok (.tuple #[]) w') ∧ w'.ownsRow base E size (.slice (some ⟨g, 0, none⟩) n cap) n xs ∧ w.grownBy w' (some g) := by
  obtain ⟨ht, hinfo, hz2, hpos⟩ := hE
  obtain ⟨i0, hi, hz0, hz1, hzb⟩ := info_parts hinfo
  subst hoff
  subst hk
  obtain ⟨hl, h2⟩ := id hown
  rcases h2 with ⟨h2, _⟩ | ⟨g', cap', cur, hv, hg, hh, hn, hc, hcs, htk⟩
  · simp at h2
  simp only [Value.slice.injEq, Option.some.injEq, Addr.mk.injEq, and_true, true_and] at hv
  obtain ⟨rfl, rfl⟩ := hv
  have hzc : (Builtin.zeroCells z.cells 1).toList = z.cells.toList := by
    have : Builtin.zeroCells z.cells 1 = z.cells := by
      apply Array.ext
      · rw [size_zeroCells]; omega
      · intro i g1 g2
        have hm : i % z.cells.size = i := Nat.mod_eq_of_lt g2
        simp [Builtin.zeroCells, hm, g2]
    rw [this]
  have hsz : z.cells.toList.length = size := by simpa using hz2
  have hn1 : n * size + size ≤ cap * size := by
    have := Nat.mul_le_mul_right size hroom
    rw [Nat.succ_mul] at this; exact this
  have hst := run_storeCells_at P g (n * size) E z.cells.toList 0 cur w hh (by rw [hcs]; simp; rw [hz2]; omega) h1
  simp only [Nat.add_zero] at hst
  refine ⟨w.setRow g (cur.toList.take (n * size) ++ z.cells.toList ++ cur.toList.drop (n * size + z.cells.toList.length)).toArray, ?_, ⟨hl, .inr ⟨g, cap, _, rfl, hg, setRow_heap w g cur _ E _ hh, hn, hc, ?_, ?_⟩⟩, ⟨rfl, rfl, rfl, by simp, fun k _ hk => setRow_other w g k _ (fun e => hk (by simp [e]))⟩⟩
  · intro ty
    simp only [Builtin.clear_, List.getElem?_toArray, List.getElem?_cons_zero, Sem.run_bind, run_underlying ht, Result.andThen_ok]
    simp [zeroValue, typeInfo, hi, hz0, hzc, hst]
  · simp only [List.size_toArray, List.length_append, List.length_take, List.length_drop, Array.length_toList]
    omega
  · have hlen : (cur.toList.take (n * size)).length = n * size := by rw [List.length_take, Array.length_toList]; omega
    rw [List.append_assoc, List.take_append_of_le_length (by omega), List.take_of_length_le (by omega)]
    exact htk

theorem flatMap_take {α : Type} {enc : α → List Value} {s : Nat} (hs : ∀ x, (enc x).length = s) (xs : List α) : ∀ i, (xs.take i).flatMap enc = (xs.flatMap enc).take (i * s) := by
  induction xs with
  | nil => intro i; simp
  | cons x r ih =>
    intro i
    cases i with
    | zero => simp
    | succ i => rw [List.take_succ_cons, List.flatMap_cons, List.flatMap_cons, ih i, List.take_append, hs, List.take_of_length_le (l := enc x) (by rw [hs, Nat.succ_mul]; omega), show (i + 1) * s - s = i * s by rw [Nat.succ_mul]; omega]
theorem flatMap_drop {α : Type} {enc : α → List Value} {s : Nat} (hs : ∀ x, (enc x).length = s) (xs : List α) : ∀ i, (xs.drop i).flatMap enc = (xs.flatMap enc).drop (i * s) := by
  induction xs with
  | nil => intro i; simp
  | cons x r ih =>
    intro i
    cases i with
    | zero => simp
    | succ i => rw [List.drop_succ_cons, List.flatMap_cons, ih i, List.drop_append, hs, List.drop_of_length_le (l := enc x) (by rw [hs, Nat.succ_mul]; omega), List.nil_append, show (i + 1) * s - s = i * s by rw [Nat.succ_mul]; omega]

/-- s[l:] of a row that the call owns, whatever the capacity -/
theorem run_tail {P : Program} {T E : TypeId} {z : Value} {size bytes : Nat} (hE : Elem P T E z size bytes) (g n cap k : Nat) (kl : IntKind) (L : Int) (hL : L = (k : Int)) (hk : k ≤ n) :
    ∃ o, (k < cap → o = k * size) ∧ ∀ w : World, (Instr.slice T (.slice (some ⟨g, 0, none⟩) n cap) (some (.int kl L)) none none).run P w = .ok (.slice (some ⟨g, o, none⟩) (n - k) (cap - k)) w := by
  obtain ⟨ht, hinfo, hz2, hpos⟩ := hE
  obtain ⟨i0, hi, hz0, hz1, hzb⟩ := info_parts hinfo
  subst hL
  have hel : P.elem T = E := by simp [Program.elem, ht]
  refine ⟨if cap = k then 0 else k * size, fun h => by rw [if_neg (by omega)], fun w => ?_⟩
  rw [run_slice_l (P := P) w T (some ⟨g, 0, none⟩) n cap (by rw [hel]; exact ht) kl (k : Int) (by omega) (by omega), hel]
  have hadd : (⟨g, 0, none⟩ : Addr).add (k * size) = ⟨g, k * size, none⟩ := by
    unfold Addr.add; split <;> simp_all
  by_cases h : cap = k
  · simp [sizeOf, typeInfo, hi, hz1, sliced, h]
  · simp [sizeOf, typeInfo, hi, hz1, sliced, h, hadd]
theorem own_tail {w : World} {base : Nat} {e : TypeId} {size : Nat} {g n cap : Nat} {cs : List Value} (h : w.ownsRow base e size (.slice (some ⟨g, 0, none⟩) n cap) n cs) (i : Nat) (hi : i ≤ n) (o : Nat) (ho : i < cap → o = i * size) :
    Sl w (.slice (some ⟨g, o, none⟩) (n - i) (cap - i)) (n - i) (cs.drop (i * size)) := by
  have h1 := own_suffix h i hi
  obtain ⟨ao, cap', hv, hc1, hc2, hc3, hc4⟩ := own_sl h
  simp only [Value.slice.injEq, true_and] at hv
  obtain ⟨rfl, rfl⟩ := hv
  by_cases hc : i < cap
  · rw [ho hc]; exact h1
  · obtain rfl : i = n := by omega
    have hl : (cs.drop (i * size)) = [] := List.drop_of_length_le (by rw [h.1]; omega)
    rw [hl]
    exact ⟨_, _, rfl, by omega, by omega, by simp, .inl rfl⟩

theorem lk_cells {α : Type} {enc : α → List Value} {s : Nat} {w : World} {b off n cap : Nat} {xs : List α} (h : Lk enc w (.slice (some ⟨b, off, none⟩) n cap) xs) (hs : ∀ x, (enc x).length = s) (hpos : 0 < s) (h0 : 0 < xs.length) :
    n = xs.length ∧ xs.length ≤ cap ∧ cap ≤ 9223372036854775807 ∧ ∀ j (_ : j < xs.length) f (_ : f < s), w.cell? ⟨b, off + j * s + f, none⟩ = (enc xs[j])[f]? := by
  rcases h.open hs hpos with ⟨ao, cap', hv, rfl, _⟩ | ⟨b', off', cap', hv, _, h1, h2, h3⟩
  · simp at h0
  · simp only [Value.slice.injEq, Option.some.injEq, Addr.mk.injEq, and_true] at hv
    obtain ⟨⟨rfl, rfl⟩, rfl, rfl⟩ := hv
    exact ⟨rfl, h1, h2, h3⟩

/-- block b holds these cells, and may be written -/
def Blk (w : World) (b : Nat) (ty : TypeId) (cs : List Value) : Prop := w.heap[b]? = some (.cells cs.toArray ty (0, 0))
theorem Blk.cell {w : World} {b : Nat} {ty : TypeId} {cs : List Value} (h : Blk w b ty cs) {i : Nat} {v : Value} (hi : cs[i]? = some v) : w.cell? ⟨b, i, none⟩ = some v := by
  unfold Blk at h
  simp [World.cell?, h, hi]
theorem Blk.free {w : World} {b : Nat} {ty : TypeId} {cs : List Value} (h : Blk w b ty cs) (i : Nat) : w.frozen? ⟨b, i, none⟩ = false := by
  unfold Blk at h
  simp [World.frozen?, h]
theorem Blk.lt {w : World} {b : Nat} {ty : TypeId} {cs : List Value} (h : Blk w b ty cs) : b < w.heap.size := lt_of_block h
theorem Blk.set {w : World} {b : Nat} {ty : TypeId} {cs : List Value} (h : Blk w b ty cs) (i : Nat) (v : Value) : Blk (w.setCell ⟨b, i, none⟩ v) b ty (cs.set i v) := by
  have := heap_setCell_same w b i cs.toArray ty v h
  unfold Blk
  rw [this]
  simp
theorem Blk.new (w : World) (cs : Array Value) (ty : TypeId) (b : Nat) (hb : b = w.heap.size) : Blk (w.alloc (.cells cs ty)) b ty cs.toList := by
  subst hb
  unfold Blk
  simpa using heap_alloc_new w (.cells cs ty)
theorem Blk.touch {F : Nat → Prop} {w w' : World} {b : Nat} {ty : TypeId} {cs : List Value} (h : Blk w b ty cs) (ht : Touch F w w') (hF : ¬ F b) : Blk w' b ty cs := by
  unfold Blk
  rw [ht.block b h.lt hF]; exact h
theorem Blk.below {w w' : World} {b : Nat} {ty : TypeId} {cs : List Value} (h : Blk w b ty cs) (hb : Below w.heap.size w w') : Blk w' b ty cs := by
  unfold Blk
  rw [hb.block b h.lt]; exact h
theorem Blk.drew {w : World} {b : Nat} {ty : TypeId} {cs : List Value} (h : Blk w b ty cs) (n : Nat) : Blk (w.drewN n) b ty cs := h
theorem Blk.alloc {w : World} {b : Nat} {ty : TypeId} {cs : List Value} (h : Blk w b ty cs) (o : Obj) : Blk (w.alloc o) b ty cs := h.below ((Below.refl _ _).alloc (Nat.le_refl _) _)
theorem Blk.other {w : World} {b : Nat} {ty : TypeId} {cs : List Value} (h : Blk w b ty cs) {a : Addr} (ha : a.block ≠ b) (v : Value) : Blk (w.setCell a v) b ty cs := by
  unfold Blk
  rw [Below.heap_setCell _ _ _ _ (Ne.symm ha)]; exact h

theorem cell_alloc {w : World} {a : Addr} {v : Value} (o : Obj) (h : w.cell? a = some v) : (w.alloc o).cell? a = some v :=
  (((Below.refl w.heap.size w).alloc (Nat.le_refl _) o).cell (World.block_lt_of_cell? w a h)).trans h

theorem toList_inj {a b : ByteArray} : a.toList = b.toList ↔ a = b := by
  constructor
  · intro e
    have h := beq_toListBytes a b
    rw [e] at h
    have h2 : (a == b) = true := by rw [h]; simp
    obtain ⟨x⟩ := a
    obtain ⟨y⟩ := b
    have h3 : (x == y) = true := h2
    have : x = y := by simpa using h3
    rw [this]
  · intro e; rw [e]
theorem drew_bel' {W w : World} {B n : Nat} (h : Below B W w) : Below B W (w.drewN n) := ⟨h.os, h.tape, h.output, h.size, h.block⟩
theorem frozen_alloc {w : World} {a : Addr} {v : Value} (o : Obj) (h : w.cell? a = some v) (hf : w.frozen? a = false) : (w.alloc o).frozen? a = false :=
  (((Below.refl w.heap.size w).alloc (Nat.le_refl _) o).frozen (World.block_lt_of_cell? w a h)).trans hf
theorem Blk.frozenAlloc {w : World} {b : Nat} {ty : TypeId} {cs : List Value} (h : Blk w b ty cs) (i : Nat) (o : Obj) : (w.alloc o).frozen? ⟨b, i, none⟩ = false := (h.alloc o).free i
theorem own_head {w : World} {base : Nat} {e : TypeId} {size : Nat} {v : Value} {n : Nat} {cs : List Value} (h : w.ownsRow base e size v n cs) (hn : 0 < n) : ∃ g cap, v = .slice (some ⟨g, 0, none⟩) n cap ∧ base ≤ g ∧ g < w.heap.size ∧ n ≤ cap ∧ cap ≤ 9223372036854775807 := by
  have hlt := h.lt
  rcases h.2 with ⟨_, e0⟩ | ⟨g, cap, cur, rfl, hg, hh, h1, h2, _⟩
  · omega
  · exact ⟨g, cap, rfl, hg, (hlt g rfl).2, h1, by unfold maxLen at h2; omega⟩
end Go.Proofs.YtakfineljffoaaaGreatDoor
