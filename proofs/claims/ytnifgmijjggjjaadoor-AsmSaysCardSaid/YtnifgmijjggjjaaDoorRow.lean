/-
  ROWS THAT THE CALL OWNS, ELEMENTS OF ONE CELL OF ANY KIND: appends, an append of zeros, stores, reads. Conditions: lengths in the form's reach.
-/
import Derived.Test.YtnifgmijjggjjaaDoorBase
import Derived.Lib.AppendZerosOnto
import Derived.Lib.AppendZeros
namespace Go.Proofs.YtnifgmijjggjjaaDoor
open Go.RowKit Go.Lib

theorem app_o1 {α : Type} {enc : α → Value} (h1 : ∀ x, (enc x).oneCell' = true) {P : Program} {T E : TypeId} {z : Value} {bytes : Nat} (hE : Elem P T E z 1 bytes)
    {ops : Array Oper} {rest : List Oper} {o : Oper} {a : Act} {Q : Exit → Act → World → Prop} {w : World} {base : Nat} {v : Value} {xs : List α} {y : α} (hgd : o.guard = none) (s x : Operand)
    (ho : o.op = .call { callee := .builtin .append, args := #[s, x], argTypes := #[T, T] })
    {mm : Nat} (hs : a.eval s = v) (hx : a.eval x = .slice (some ⟨mm, 0, none⟩) 1 1) (hmm : mm = w.heap.size) (hown : O1 enc w base E v xs)
    (hlen : xs.length + 1 ≤ 9223372036854775807) (hbytes : (xs.length + 1) * bytes ≤ 140737488355328) (hbase : base ≤ w.heap.size)
    (h : ∀ v' w', O1 enc w' base E v' (xs ++ [y]) → Below base w w' → Grew w v w' v' → wpList P ops Q rest (a.put o.dst v') w') : wpList P ops Q (o :: rest) a (w.alloc (.cells #[enc y] E)) := by
  refine app_one hE (cs := [enc y]) hgd s x ho hs hx hmm hown rfl (by intro c hc; simp at hc; subst hc; exact h1 y) hlen hbytes hbase ?_
  intro v' w' g1 g2 g3
  refine h v' w' ?_ g2 g3
  show w'.ownsRow base E 1 v' (xs ++ [y]).length ((xs ++ [y]).map enc)
  rw [List.map_append, List.length_append]
  exact g1

theorem app_l1 {α : Type} {enc : α → Value} (h1 : ∀ x, (enc x).oneCell' = true) {P : Program} {T E : TypeId} {z : Value} {bytes : Nat} (hE : Elem P T E z 1 bytes)
    {ops : Array Oper} {rest : List Oper} {o : Oper} {a : Act} {Q : Exit → Act → World → Prop} {w : World} {base : Nat} {v u : Value} {xs ys : List α} (hgd : o.guard = none) (s x : Operand)
    (ho : o.op = .call { callee := .builtin .append, args := #[s, x], argTypes := #[T, T] })
    (hs : a.eval s = v) (hx : a.eval x = u) (hown : O1 enc w base E v xs) (hu : L1 enc w u ys)
    (hlen : xs.length + ys.length ≤ 9223372036854775807) (hbytes : (xs.length + ys.length) * bytes ≤ 140737488355328) (hbase : base ≤ w.heap.size)
    (h : ∀ v' w', O1 enc w' base E v' (xs ++ ys) → Below base w w' → Grew w v w' v' → wpList P ops Q rest (a.put o.dst v') w') : wpList P ops Q (o :: rest) a w := by
  refine app_any hE hgd s x ho hs hx hown hu (by simp) (map_oneCell h1 _) hlen hbytes hbase ?_
  intro v' w' g1 g2 g3
  refine h v' w' ?_ g2 g3
  show w'.ownsRow base E 1 v' (xs ++ ys).length ((xs ++ ys).map enc)
  rw [List.map_append, List.length_append]
  exact g1

theorem zeroCells_one (z : Value) (m : Nat) : Builtin.zeroCells #[z] m = (List.replicate m z).toArray := by
  apply Array.ext
  · rw [size_zeroCells]; simp
  · intro i h1 h2
    simp [Builtin.zeroCells, Nat.mod_one]

/-- append(s, make([]T, m)...), s the call's own, m above 0 -/
theorem run_own_zeros {P : Program} (w : World) (base : Nat) (t tn ty e : TypeId) (i : TypeInfo) (z : Value) (kq kn : IntKind) (bytes : Nat) (ht : P.underlying t = some (.slice e)) (htn : P.underlying tn = some (.int kn)) (hi : P.info? e = some i) (hz : i.zero = some z)
    (hsize : i.size = 1) (hby : i.bytes = bytes) (hzs : z.cells = #[z]) (hz1 : z.oneCell' = true)
    (v : Value) (n : Nat) (xs : List Value) (hown : w.ownsRow base e 1 v n xs) (m : Nat) (h0 : 0 < m)
    (h63 : n + m ≤ maxLen) (hbytes : (n + m) * bytes ≤ 140737488355328) (hbase : base ≤ w.heap.size) :
    ∃ v' w', (Builtin.append_ #[t, tn] ty #[v, .int kq m]).run P w = .ok v' w' ∧ w'.ownsRow base e 1 v' (n + m) (xs ++ List.replicate m z) ∧ Grew w v w' v' := by
  subst hby
  have hsmall : n + m ≤ 9223372036854775807 := by simp only [maxLen] at h63; omega
  have hm48 : m * i.bytes ≤ 140737488355328 := Nat.le_trans (Nat.mul_le_mul_right _ (by omega)) hbytes
  have hlen : (xs ++ List.replicate m z).length = (n + m) * 1 := by rw [List.length_append, hown.1, List.length_replicate]; omega
  have grown : ∀ (old : Nat), old < n + m → ∀ v : Value,
      (w.drew.alloc (.cells (xs.toArray ++ Builtin.zeroCells z.cells m ++ Builtin.zeroCells z.cells (grownCap w (n + m) old e - (n + m))) e)).ownsRow base e 1
        (.slice (some ⟨w.heap.size, 0, none⟩) (n + m) (grownCap w (n + m) old e)) (n + m) (xs ++ List.replicate m z) ∧
      Grew w v (w.drew.alloc (.cells (xs.toArray ++ Builtin.zeroCells z.cells m ++ Builtin.zeroCells z.cells (grownCap w (n + m) old e - (n + m))) e)) (.slice (some ⟨w.heap.size, 0, none⟩) (n + m) (grownCap w (n + m) old e)) := by
    intro old ho v
    have hge := grownCap_ge w (n + m) old e
    have hcm : grownCap w (n + m) old e ≤ maxLen := grownCap_le_maxLen w (n + m) old e h63
    have hz' : Builtin.zeroCells z.cells m = (List.replicate m z).toArray := by rw [hzs, zeroCells_one]
    refine ⟨⟨hlen, .inr ⟨w.heap.size, _, _, rfl, hbase, heap_alloc_new w.drew _, hge, hcm, ?_, ?_⟩⟩, ⟨⟨rfl, rfl, rfl, by simp, fun k hk _ => Below.heap_alloc w.drew _ k hk⟩, .inr ⟨w.heap.size, rfl, Nat.le_refl _⟩⟩⟩
    · have hx := hown.1
      simp only [Array.size_append, List.size_toArray, size_zeroCells, hzs, List.length_cons, List.length_nil]
      omega
    · rw [hz']
      simp only [Array.toList_append]
      rw [← hlen]
      exact List.take_left
  rcases id hown.2 with ⟨rfl, rfl⟩ | ⟨g, cap, cur, rfl, hbg, hg, hnc, hcm, hcs, htake⟩
  · have hx : xs = [] := List.eq_nil_of_length_eq_zero (by simpa using hown.1)
    subst hx
    have hr := run_append_nil_zeros (P := P) w t tn ty e i z kq kn ht htn hi hz m h0 (by omega) (by omega) (by omega)
    have hgr := grown 0 (by omega) (.slice none 0 0)
    simp only [Nat.zero_add, List.nil_append, Array.empty_append] at hgr ⊢
    exact ⟨_, _, hr, hgr.1, hgr.2⟩
  · by_cases hroom : n + m ≤ cap
    · have hw : IntKind.i64.wrap (m : Int) = m := by rw [IntKind.wrap_i64]; omega
      have hneg : ¬ ((m : Int) < 0) := by omega
      have h48i : ¬ (281474976710656 < (m : Int) * (i.bytes : Int)) := by
        rw [← Int.natCast_mul]; omega
      have hns : ¬ (m = 0) := by omega
      have hz' : Builtin.zeroCells z.cells m = (List.replicate m z).toArray := by rw [hzs, zeroCells_one]
      have hfit : n * 1 + (List.replicate m z).length ≤ cur.size := by rw [hcs, List.length_replicate]; omega
      have hst := run_storeCells_at P g (n * 1) e (List.replicate m z) 0 cur w hg (by simpa using hfit) (by intro c hc; rw [List.eq_of_mem_replicate hc]; exact hz1)
      simp only [Nat.add_zero, Nat.mul_one] at hst
      have hr : (Builtin.append_ #[t, tn] ty #[.slice (some ⟨g, 0, none⟩) n cap, .int kq m]).run P w = .ok (.slice (some ⟨g, 0, none⟩) (n + m) cap) (w.setRow g (cur.toList.take (n * 1) ++ List.replicate m z ++ cur.toList.drop (n * 1 + (List.replicate m z).length)).toArray) := by
        simp [Builtin.append_, run_underlying ht, run_underlying htn, sizeOf, typeInfo, zeroValue, hi, hz, hsize, asInt, asIntOf, hw, hneg, hns, h48i, hroom, Addr.add_lit, hst, hz']
      refine ⟨_, _, hr, ⟨hlen, .inr ⟨g, cap, _, rfl, hbg, setRow_heap w g cur _ e _ hg, hroom, hcm, ?_, ?_⟩⟩, ⟨⟨rfl, rfl, rfl, by simp, fun k _ hk => setRow_other w g k _ (fun e => hk (by simp [Value.ownBlock, e]))⟩, .inl rfl⟩⟩
      · simp only [List.size_toArray, List.length_append, List.length_take, List.length_drop, Array.length_toList, List.length_replicate]
        omega
      · rw [htake, ← hlen]
        exact List.take_left
    · have holds : ∀ j u, xs[j]? = some u → w.cell? ((⟨g, 0, none⟩ : Addr).add j) = some u := hown.cells (g := g) rfl
      have hf := run_firstCells_some (P := P) w.drew i.size n ⟨g, 0, none⟩ n cap xs (by rw [hsize]; exact hown.1) (fun j u h => holds j u h)
      have hr := run_append_grow_zeros (P := P) w t tn ty e i z kq kn ht htn hi hz (some ⟨g, 0, none⟩) n cap xs hf m h0 (by omega) (by omega) (by omega) (by omega) (growslice_fits (by omega) hbytes)
      have hgr := grown cap (by omega) (Value.slice (some ⟨g, 0, none⟩) n cap)
      exact ⟨_, _, hr, hgr.1, hgr.2⟩

theorem app_zeros {α : Type} {enc : α → Value} {zz : α} {P : Program} {T TN E : TypeId} {bytes : Nat} (hE : Elem P T E (enc zz) 1 bytes) {kn kq : IntKind} (htn : P.underlying TN = some (.int kn)) (hzs : (enc zz).cells = #[enc zz]) (hz1 : (enc zz).oneCell' = true)
    {ops : Array Oper} {rest : List Oper} {o : Oper} {a : Act} {Q : Exit → Act → World → Prop} {w : World} {base : Nat} {v : Value} {xs : List α} {m : Nat} {M : Int} (hgd : o.guard = none) (s x : Operand)
    (ho : o.op = .call { callee := .builtin .append, args := #[s, x], argTypes := #[T, TN] })
    (hs : a.eval s = v) (hx : a.eval x = .int kq M) (hM : M = (m : Int)) (h0 : 0 < m) (hown : O1 enc w base E v xs)
    (hlen : xs.length + m ≤ 9223372036854775807) (hbytes : (xs.length + m) * bytes ≤ 140737488355328) (hbase : base ≤ w.heap.size)
    (h : ∀ v' w', O1 enc w' base E v' (xs ++ List.replicate m zz) → Below base w w' → Grew w v w' v' → wpList P ops Q rest (a.put o.dst v') w') : wpList P ops Q (o :: rest) a w := by
  subst hM
  obtain ⟨ht, hinfo, hz2, hpos⟩ := hE
  obtain ⟨i0, hi, hz0, hz1', hzb⟩ := info_parts hinfo
  refine wpList_plain hgd fun K hK => ?_
  obtain ⟨v', w', hr, h2, h3⟩ := run_own_zeros (P := P) w base T TN o.type E i0 (enc zz) kq kn bytes ht htn hi hz0 hz1' hzb hzs hz1 v xs.length (xs.map enc) hown m h0 (by unfold maxLen; omega) hbytes hbase
  unfold Oper.wp execOp
  simp only [ho, resolve, invoke, builtin, Sem.run_bind, Sem.run_pure, Result.andThen_ok, List.map_toArray, List.map_cons, List.map_nil, hs, hx, hr]
  refine hK _ _ (h v' w' ?_ ((Below.refl base w).grown h3.1 hbase (own_block hown)) h3)
  show w'.ownsRow base E 1 v' (xs ++ List.replicate m zz).length ((xs ++ List.replicate m zz).map enc)
  rw [List.map_append, List.length_append, List.length_replicate, List.map_replicate]
  exact h2

theorem O1.stored {α : Type} {enc : α → Value} {w : World} {base : Nat} {e : TypeId} {g n cap : Nat} {xs : List α} (h : O1 enc w base e (.slice (some ⟨g, 0, none⟩) n cap) xs) (j : Nat) (x : α) :
    O1 enc (w.setCell ⟨g, j, none⟩ (enc x)) base e (.slice (some ⟨g, 0, none⟩) n cap) (xs.set j x) ∧ Grew w (.slice (some ⟨g, 0, none⟩) n cap) (w.setCell ⟨g, j, none⟩ (enc x)) (.slice (some ⟨g, 0, none⟩) n cap) := by
  have h0 : w.ownsRow base e 1 (.slice (some ⟨g, 0, none⟩) n cap) xs.length (xs.map enc) := h
  have hn : n = xs.length := by
    rcases h.2 with ⟨h', _⟩ | ⟨_, _, _, h', _⟩
    · simp at h'
    · simp only [Value.slice.injEq] at h'; exact h'.2.1
  subst hn
  obtain ⟨h1, h2⟩ := h0.stored j (enc x)
  refine ⟨?_, h2, .inl rfl⟩
  show World.ownsRow _ _ _ _ _ (xs.set j x).length ((xs.set j x).map enc)
  rw [List.length_set, List.map_set]
  exact h1
theorem O1.len {α : Type} {enc : α → Value} {w : World} {base : Nat} {e : TypeId} {ao : Option Addr} {n cap : Nat} {xs : List α} (h : O1 enc w base e (.slice ao n cap) xs) : n = xs.length := by
  rcases h.2 with ⟨h', h2⟩ | ⟨_, _, _, h', _⟩
  · simp only [Value.slice.injEq] at h'; omega
  · simp only [Value.slice.injEq] at h'; exact h'.2.1
theorem O1.cellAt {α : Type} {enc : α → Value} {w : World} {base : Nat} {e : TypeId} {g n cap : Nat} {xs : List α} (h : O1 enc w base e (.slice (some ⟨g, 0, none⟩) n cap) xs) (j : Nat) (hj : j < xs.length) :
    w.cell? ⟨g, j, none⟩ = some (enc xs[j]) ∧ w.frozen? ⟨g, j, none⟩ = false := by
  have h0 : w.ownsRow base e 1 (.slice (some ⟨g, 0, none⟩) n cap) xs.length (xs.map enc) := h
  obtain rfl := h.len
  refine ⟨?_, h0.frozenAt j⟩
  rw [h0.cellAt j (by omega)]
  simp [hj]
theorem O1.bounds {α : Type} {enc : α → Value} {w : World} {base : Nat} {e : TypeId} {g n cap : Nat} {xs : List α} (h : O1 enc w base e (.slice (some ⟨g, 0, none⟩) n cap) xs) : base ≤ g ∧ g < w.heap.size ∧ n = xs.length ∧ n ≤ cap ∧ cap ≤ 9223372036854775807 := by
  have hn := h.len
  have h1 := h.lt g rfl
  obtain ⟨ao, cap', hv, h2, h3, _⟩ := h.l1
  simp only [Value.slice.injEq] at hv
  exact ⟨h1.1, h1.2, hn, by omega, by omega⟩
/-- an owned row that is not empty stands at the head of a block -/
theorem O1.head' {α : Type} {enc : α → Value} {w : World} {base : Nat} {e : TypeId} {v : Value} {xs : List α} (h : O1 enc w base e v xs) (hne : 0 < xs.length) : ∃ g cap, v = .slice (some ⟨g, 0, none⟩) xs.length cap ∧ base ≤ g ∧ g < w.heap.size ∧ xs.length ≤ cap ∧ cap ≤ 9223372036854775807 := by
  obtain ⟨g, cap, rfl, _⟩ := h.head hne
  have := h.bounds
  exact ⟨g, cap, rfl, this.1, this.2.1, this.2.2.2.1, this.2.2.2.2⟩
theorem At.setCell {w : World} {b off : Nat} {cs : List Value} {a : Addr} (h : At w b off cs) (hne : a.block ≠ b) (v : Value) : At (w.setCell a v) b off cs := by
  intro j hj
  rw [← h j hj]
  exact World.cell?_of_block (a := ⟨b, off + j, none⟩) (Below.heap_setCell _ _ _ _ (Ne.symm hne))
end Go.Proofs.YtnifgmijjggjjaaDoor
