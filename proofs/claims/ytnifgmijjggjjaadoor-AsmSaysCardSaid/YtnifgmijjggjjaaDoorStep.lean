/-
  APPENDS INSIDE A REGION THAT DRAWS ITS ORDER: the laws of XBase as steps. No condition beside theirs.
-/
import Derived.Test.YtnifgmijjggjjaaDoorRowK
import Derived.Deep.RegionHeld3
import Derived.Deep.AppendLies
import Derived.Deep.DrawnRows
import Derived.Deep.DeepCutAuto
namespace Go.Proofs.YtnifgmijjggjjaaDoor
open Go.RowKit Go.Lib

theorem wp_any {P : Program} {T E : TypeId} {z : Value} {size bytes : Nat} (hE : Elem P T E z size bytes)
    {o : Oper} {a : Act} {K : Act → World → Prop} {Q : Exit → Act → World → Prop} {w : World} {base : Nat} {v u : Value} {n m : Nat} {xs news : List Value} (s x : Operand)
    (ho : o.op = .call { callee := .builtin .append, args := #[s, x], argTypes := #[T, T] })
    (hs : a.eval s = v) (hx : a.eval x = u) (hown : w.ownsRow base E size v n xs) (hu : Sl w u m news) (hl : news.length = m * size) (h1 : ∀ c ∈ news, c.oneCell' = true)
    (hlen : n + m ≤ 9223372036854775807) (hbytes : (n + m) * bytes ≤ 140737488355328) (hbase : base ≤ w.heap.size)
    (h : ∀ v' w', w'.ownsRow base E size v' (n + m) (xs ++ news) → Below base w w' → Grew w v w' v' → K (a.put o.dst v') w') : Oper.wp P o a w K Q := by
  obtain ⟨ht, hinfo, hz2, hpos⟩ := hE
  obtain ⟨i0, hi, hz0, hz1, hzb⟩ := info_parts hinfo
  obtain ⟨ao, cap, rfl, hmc, hcap, hnil, hcells⟩ := hu
  cases ao with
  | none =>
    have hc0 := hnil rfl
    obtain rfl : m = 0 := by omega
    subst hc0
    have hn0 : news = [] := by simpa using hl
    subst hn0
    have hr : ∀ ty, (Builtin.append_ #[T, T] ty #[v, .slice none 0 0]).run P w = .ok v w := by
      intro ty
      rcases id hown.2 with ⟨rfl, rfl⟩ | ⟨g, cap, cur, rfl, hbg, hg, hnc, hcm, hcs, htake⟩
      · simp [Builtin.append_, run_underlying ht, sizeOf, typeInfo, hi, Builtin.lenOf, Builtin.firstCells]
      · simp [Builtin.append_, run_underlying ht, sizeOf, typeInfo, hi, Builtin.lenOf, Builtin.firstCells, loadCells, hnc, storeCells]
    unfold Oper.wp execOp
    simp only [ho, resolve, invoke, builtin, Sem.run_bind, Sem.run_pure, Result.andThen_ok, List.map_toArray, List.map_cons, List.map_nil, hs, hx, hr]
    exact h v w (by simpa using hown) (Below.refl _ _) ⟨World.grownBy.refl _ _, .inl rfl⟩
  | some ad =>
    have hnews : ∀ j c, news[j]? = some c → w.cell? (ad.add j) = some c := by
      intro j c hj
      rcases hcells with rfl | ⟨b, off, hb, hat⟩
      · simp at hj
      · simp only [Option.some.injEq] at hb
        subst hb
        have hjl : j < news.length := by
          rcases Nat.lt_or_ge j news.length with h | h
          · exact h
          · simp [List.getElem?_eq_none h] at hj
        have hplain : (⟨b, off, none⟩ : Addr).add j = ⟨b, off + j, none⟩ := by unfold Addr.add; split <;> simp_all
        rw [hplain, hat j hjl, ← hj, List.getElem?_eq_getElem hjl]
    obtain ⟨v', w', hr, h2, h3⟩ := run_own_fresh (P := P) w base T o.type E i0 z size bytes ht hi hz0 hz1 hzb hz2 hpos v n xs hown ad m cap news hl hnews h1 (by unfold maxLen; omega) hbytes hbase
    unfold Oper.wp execOp
    simp only [ho, resolve, invoke, builtin, Sem.run_bind, Sem.run_pure, Result.andThen_ok, List.map_toArray, List.map_cons, List.map_nil, hs, hx, hr]
    exact h v' w' h2 ((Below.refl base w).grown h3.1 hbase (own_block hown)) h3

/-- append(out, u...) as a step of a drawn region -/
theorem step_any {P : Program} {T E : TypeId} {z : Value} {size bytes : Nat} (hE : Elem P T E z size bytes)
    {ops : Array Oper} {o : Oper} {a : Act} {K : Act → World → Prop} {Q : Exit → Act → World → Prop} {EE : Prop} {w : World} {base : Nat} {v u : Value} {n m : Nat} {xs news : List Value} (hgd : o.guard = none) (s x : Operand)
    (ho : o.op = .call { callee := .builtin .append, args := #[s, x], argTypes := #[T, T] })
    (hs : a.eval s = v) (hx : a.eval x = u) (hown : w.ownsRow base E size v n xs) (hu : Sl w u m news) (hl : news.length = m * size) (h1 : ∀ c ∈ news, c.oneCell' = true)
    (hlen : n + m ≤ 9223372036854775807) (hbytes : (n + m) * bytes ≤ 140737488355328) (hbase : base ≤ w.heap.size)
    (h : ∀ v' w', w'.ownsRow base E size v' (n + m) (xs ++ news) → Below base w w' → Grew w v w' v' → K (a.put o.dst v') w') : if Region.wanted o (yielded ops a.tmps) = true then Oper.wp P o a w K Q else EE := by
  have hw : Region.wanted o (yielded ops a.tmps) = true := by simp [Region.wanted, hgd]
  rw [if_pos hw]
  exact wp_any hE s x ho hs hx hown hu hl h1 hlen hbytes hbase h

/-- append(out, x), x one struct in the block that was just laid -/
theorem step_one {P : Program} {T E : TypeId} {z : Value} {size bytes : Nat} (hE : Elem P T E z size bytes)
    {ops : Array Oper} {o : Oper} {a : Act} {K : Act → World → Prop} {Q : Exit → Act → World → Prop} {EE : Prop} {w : World} {base : Nat} {v : Value} {n : Nat} {xs cs : List Value} (hgd : o.guard = none) (s x : Operand)
    (ho : o.op = .call { callee := .builtin .append, args := #[s, x], argTypes := #[T, T] })
    {mm : Nat} (hs : a.eval s = v) (hx : a.eval x = .slice (some ⟨mm, 0, none⟩) 1 1) (hat : At w mm 0 cs) (hown : w.ownsRow base E size v n xs) (hl : cs.length = size) (h1 : ∀ c ∈ cs, c.oneCell' = true)
    (hlen : n + 1 ≤ 9223372036854775807) (hbytes : (n + 1) * bytes ≤ 140737488355328) (hbase : base ≤ w.heap.size)
    (h : ∀ v' w', w'.ownsRow base E size v' (n + 1) (xs ++ cs) → Below base w w' → Grew w v w' v' → K (a.put o.dst v') w') : if Region.wanted o (yielded ops a.tmps) = true then Oper.wp P o a w K Q else EE :=
  step_any hE hgd s x ho hs hx hown ⟨_, _, rfl, Nat.le_refl _, by omega, by simp, .inr ⟨mm, 0, rfl, hat⟩⟩ (by omega) h1 hlen hbytes hbase h

/-- append(out, x), x one struct in the block that was just laid: the world written out -/
theorem step_one1 {P : Program} {T E : TypeId} {z : Value} {size bytes : Nat} (hE : Elem P T E z size bytes)
    {ops : Array Oper} {o : Oper} {a : Act} {K : Act → World → Prop} {Q : Exit → Act → World → Prop} {EE : Prop} {w : World} {base : Nat} {v : Value} {n : Nat} {xs cs : List Value} (hgd : o.guard = none) (s x : Operand)
    (ho : o.op = .call { callee := .builtin .append, args := #[s, x], argTypes := #[T, T] })
    {mm : Nat} (hs : a.eval s = v) (hx : a.eval x = .slice (some ⟨mm, 0, none⟩) 1 1) (hmm : mm = w.heap.size) (hown : w.ownsRow base E size v n xs) (hl : cs.length = size) (h1 : ∀ c ∈ cs, c.oneCell' = true)
    (hlen : n + 1 ≤ 9223372036854775807) (hbytes : (n + 1) * bytes ≤ 140737488355328) (hbase : base ≤ w.heap.size)
    (h : ∀ v' w', w'.ownsRow base E size v' (n + 1) (xs ++ cs) → Below base w w' → Grew w v w' v' → K (a.put o.dst v') w') : if Region.wanted o (yielded ops a.tmps) = true then Oper.wp P o a (w.alloc (.cells cs.toArray E)) K Q else EE := by
  refine step_one hE hgd s x ho hs hx ?_ (hown.alloc _) hl h1 hlen hbytes (by simp; omega) ?_
  · subst hmm
    intro j hj
    rw [World.cell?_alloc_new]
    simp
  · intro v' w' g1 g2 g3
    obtain ⟨g3, g4⟩ := g3
    refine h v' w' g1 (((Below.refl base w).alloc hbase _).trans g2) ⟨⟨g3.os, g3.tape, g3.output, by have := g3.size; simp at this; omega, fun k hk hne => ?_⟩, ?_⟩
    · rw [g3.block k (by simp; omega) hne, Below.heap_alloc _ _ _ hk]
    · rcases g4 with g4 | ⟨k, g4, g5⟩
      · exact .inl g4
      · exact .inr ⟨k, g4, by simp at g5; omega⟩
theorem Grew.cell {w w' : World} {v v' : Value} (hg : Grew w v w' v') {a : Addr} {u : Value} (h : w.cell? a = some u) (hne : v.ownBlock ≠ some a.block) : w'.cell? a = some u :=
  (World.cell?_of_block (hg.1.block a.block (World.block_lt_of_cell? w a h) (Ne.symm hne))).trans h
theorem Grew.free {w w' : World} {v v' : Value} (hg : Grew w v w' v') {a : Addr} {u : Value} (h : w.cell? a = some u) (hne : v.ownBlock ≠ some a.block) (hf : w.frozen? a = false) : w'.frozen? a = false :=
  (World.frozen?_of_block (hg.1.block a.block (World.block_lt_of_cell? w a h) (Ne.symm hne))).trans hf
theorem own_lt_ne {w : World} {base : Nat} {e : TypeId} {size : Nat} {v : Value} {n : Nat} {cs : List Value} (h : w.ownsRow base e size v n cs) {k : Nat} (hk : w.heap.size ≤ k) : v.ownBlock ≠ some k := by
  intro e
  have := (h.lt k e).2
  omega
theorem Sl_at_new' (w : World) (cs : Array Value) (t : TypeId) (b : Nat) (hb : b = w.heap.size) : At (w.alloc (.cells cs t)) b 0 cs.toList := by
  subst hb
  intro j hj
  rw [World.cell?_alloc_new]
  simp
end Go.Proofs.YtnifgmijjggjjaaDoor
