/-
  ROWS THAT THE CALL OWNS, ELEMENTS OF ONE CELL OF ANY KIND: appends, an append of zeros, stores, reads. Conditions: lengths in the form's reach.
-/
import Derived.Test.YtakfineljffoaaaGreatDoorGFoldSays1
import Derived.Lib.AppendZerosOnto
import Derived.Lib.AppendZeros
import Derived.Laws.OwnMore
import Derived.Deep.QuietTactic
import Derived.Laws.StructEq
import Derived.BigQuiet
import Derived.Deep.RegionHeld3
import Derived.Deep.AppendLies
import Derived.Deep.DrawnRows
import Derived.Deep.DeepCutAuto
namespace Go.Proofs.YtakfineljffoaaaGreatDoor
open Go.RowKit Go.Lib

theorem app_o1 {α : Type} {enc : α → Value} (h1 : ∀ x, (enc x).oneCell' = true) {P : Program} {T E : TypeId} {z : Value} {bytes : Nat} (hE : Elem P T E z 1 bytes)
    {ops : Array Oper} {rest : List Oper} {o : Oper} {a : Act} {Q : Exit → Act → World → Prop} {w : World} {base : Nat} {v : Value} {xs : List α} {y : α} (hgd : o.guard = none) (s x : Operand)
    (ho : o.op = .call { callee := .builtin .append, args := #[s, x], argTypes := #[T, T] })
    {mm : Nat} (hs : a.eval s = v) (hx : a.eval x = .slice (some ⟨mm, 0, none⟩) 1 1) (hmm : mm = w.heap.size) (hown : O1 enc w base E v xs)
    (hlen : xs.length + 1 ≤ 9223372036854775807) (hbytes : (xs.length + 1) * bytes ≤ 140737488355328) (hbase : base ≤ w.heap.size)
    (h : ∀ v' w', O1 enc w' base E v' (xs ++ [y]) → Below base w w' → Grew w v w' v' → wpList P ops Q rest (a.put o.dst v') w') : wpList P ops Q (o :: rest) a (w.alloc (.cells #[enc y] E)) := by
  refine app_one hE (cs := [enc y]) hgd s x ho hs hx hmm hown rfl (by intro c hc; simp at hc; subst hc; exact h1 y) hlen hbytes hbase ?_
  intro v' w' g1 g2 g3
  refine h v' w' ?_ g2 g3
  show w'.ownsRow base E 1 v' (xs ++ [y]).length ((xs ++ [y]).map enc)
  rw [List.map_append, List.length_append]
  exact g1

theorem app_l1 {α : Type} {enc : α → Value} (h1 : ∀ x, (enc x).oneCell' = true) {P : Program} {T E : TypeId} {z : Value} {bytes : Nat} (hE : Elem P T E z 1 bytes)
    {ops : Array Oper} {rest : List Oper} {o : Oper} {a : Act} {Q : Exit → Act → World → Prop} {w : World} {base : Nat} {v u : Value} {xs ys : List α} (hgd : o.guard = none) (s x : Operand)
    (ho : o.op = .call { callee := .builtin .append, args := #[s, x], argTypes := #[T, T] })
    (hs : a.eval s = v) (hx : a.eval x = u) (hown : O1 enc w base E v xs) (hu : L1 enc w u ys)
    (hlen : xs.length + ys.length ≤ 9223372036854775807) (hbytes : (xs.length + ys.length) * bytes ≤ 140737488355328) (hbase : base ≤ w.heap.size)
    (h : ∀ v' w', O1 enc w' base E v' (xs ++ ys) → Below base w w' → Grew w v w' v' → wpList P ops Q rest (a.put o.dst v') w') : wpList P ops Q (o :: rest) a w := by
  refine app_any hE hgd s x ho hs hx hown hu (by simp) (map_oneCell h1 _) hlen hbytes hbase ?_
  intro v' w' g1 g2 g3
  refine h v' w' ?_ g2 g3
  show w'.ownsRow base E 1 v' (xs ++ ys).length ((xs ++ ys).map enc)
  rw [List.map_append, List.length_append]
  exact g1

theorem O1.stored {α : Type} {enc : α → Value} {w : World} {base : Nat} {e : TypeId} {g n cap : Nat} {xs : List α} (h : O1 enc w base e (.slice (some ⟨g, 0, none⟩) n cap) xs) (j : Nat) (x : α) :
    O1 enc (w.setCell ⟨g, j, none⟩ (enc x)) base e (.slice (some ⟨g, 0, none⟩) n cap) (xs.set j x) ∧ Grew w (.slice (some ⟨g, 0, none⟩) n cap) (w.setCell ⟨g, j, none⟩ (enc x)) (.slice (some ⟨g, 0, none⟩) n cap) := by
  have h0 : w.ownsRow base e 1 (.slice (some ⟨g, 0, none⟩) n cap) xs.length (xs.map enc) := h
  have hn : n = xs.length := by
    rcases h.2 with ⟨h', _⟩ | ⟨_, _, _, h', _⟩
    · simp at h'
    · simp only [Value.slice.injEq] at h'; exact h'.2.1
  subst hn
  obtain ⟨h1, h2⟩ := h0.stored j (enc x)
  refine ⟨?_, h2, .inl rfl⟩
  show World.ownsRow _ _ _ _ _ (xs.set j x).length ((xs.set j x).map enc)
  rw [List.length_set, List.map_set]
  exact h1
theorem O1.len {α : Type} {enc : α → Value} {w : World} {base : Nat} {e : TypeId} {ao : Option Addr} {n cap : Nat} {xs : List α} (h : O1 enc w base e (.slice ao n cap) xs) : n = xs.length := by
  rcases h.2 with ⟨h', h2⟩ | ⟨_, _, _, h', _⟩
  · simp only [Value.slice.injEq] at h'; omega
  · simp only [Value.slice.injEq] at h'; exact h'.2.1
theorem At.setCell {w : World} {b off : Nat} {cs : List Value} {a : Addr} (h : At w b off cs) (hne : a.block ≠ b) (v : Value) : At (w.setCell a v) b off cs := by
  intro j hj
  rw [← h j hj]
  exact World.cell?_of_block (a := ⟨b, off + j, none⟩) (Below.heap_setCell _ _ _ _ (Ne.symm hne))
end Go.Proofs.YtakfineljffoaaaGreatDoor
namespace Go.Proofs.YtakfineljffoaaaGreatDoor
open Go.RowKit Go.Lib

structure Touch (F : Nat → Prop) (w w' : World) : Prop where
  os : w'.os = w.os
  tape : w'.tape = w.tape
  output : w'.output = w.output
  size : w.heap.size ≤ w'.heap.size
  block : ∀ k, k < w.heap.size → ¬ F k → w'.heap[k]? = w.heap[k]?
theorem Touch.refl (F : Nat → Prop) (w : World) : Touch F w w := ⟨rfl, rfl, rfl, Nat.le_refl _, fun _ _ _ => rfl⟩
theorem Touch.trans {F : Nat → Prop} {a b c : World} (h : Touch F a b) (k : Touch F b c) : Touch F a c :=
  ⟨k.os.trans h.os, k.tape.trans h.tape, k.output.trans h.output, Nat.le_trans h.size k.size, fun i hi hF => (k.block i (Nat.lt_of_lt_of_le hi h.size) hF).trans (h.block i hi hF)⟩
theorem Touch.mono {F G : Nat → Prop} {a b : World} (h : Touch F a b) (hFG : ∀ k, k < a.heap.size → F k → G k) : Touch G a b := ⟨h.os, h.tape, h.output, h.size, fun k hk hG => h.block k hk (fun hF => hG (hFG k hk hF))⟩
theorem Touch.of_below {F : Nat → Prop} {w w' : World} (h : Below w.heap.size w w') : Touch F w w' := ⟨h.os, h.tape, h.output, h.size, fun k hk _ => h.block k hk⟩
theorem Touch.below {F : Nat → Prop} {w w' : World} {B : Nat} (h : Touch F w w') (hB : B ≤ w.heap.size) (hF : ∀ k, F k → B ≤ k) : Below B w w' :=
  ⟨h.os, h.tape, h.output, h.size, fun k hk => h.block k (by omega) (fun hf => by have := hF k hf; omega)⟩
theorem Touch.setCell {F : Nat → Prop} {w : World} {a : Addr} (hF : F a.block) (v : Value) : Touch F w (w.setCell a v) :=
  ⟨rfl, rfl, rfl, by simp, fun k _ hk => Below.heap_setCell _ _ _ _ (fun e => hk (e ▸ hF))⟩
theorem Touch.grown {F : Nat → Prop} {w w' : World} {row : Option Nat} (h : w.grownBy w' row) (hF : ∀ k, row = some k → F k) : Touch F w w' :=
  ⟨h.os, h.tape, h.output, h.size, fun k hk hk2 => h.block k hk (fun e => hk2 (hF k e.symm))⟩
theorem Touch.drew {F : Nat → Prop} {w w' : World} (h : Touch F w w') (n : Nat) : Touch F w (w'.drewN n) := ⟨h.os, h.tape, h.output, h.size, h.block⟩
theorem Touch.alloc {F : Nat → Prop} {w w' : World} (h : Touch F w w') (o : Obj) : Touch F w (w'.alloc o) := h.trans (Touch.of_below ((Below.refl _ _).alloc (Nat.le_refl _) _))
theorem own_touch {w w' : World} {F : Nat → Prop} {base : Nat} {e : TypeId} {size : Nat} {v : Value} {n : Nat} {cs : List Value} (h : w.ownsRow base e size v n cs) (ht : Touch F w w') (hF : ∀ k, v.ownBlock = some k → ¬ F k) : w'.ownsRow base e size v n cs := by
  obtain ⟨h1, h2⟩ := h
  refine ⟨h1, ?_⟩
  rcases h2 with h2 | ⟨g, cap, cur, hv, hg, hh, r⟩
  · exact .inl h2
  · refine .inr ⟨g, cap, cur, hv, hg, ?_, r⟩
    rw [ht.block g (lt_of_block hh) (hF g (by rw [hv]; rfl))]; exact hh

theorem own_prefix {w : World} {base : Nat} {e : TypeId} {size : Nat} {g n cap : Nat} {cs : List Value} (h : w.ownsRow base e size (.slice (some ⟨g, 0, none⟩) n cap) n cs) (i : Nat) (hi : i ≤ n) :
    w.ownsRow base e size (.slice (some ⟨g, 0, none⟩) i cap) i (cs.take (i * size)) := by
  obtain ⟨h1, h2⟩ := h
  have him : i * size ≤ n * size := Nat.mul_le_mul_right _ hi
  refine ⟨by rw [List.length_take, h1]; omega, ?_⟩
  rcases h2 with ⟨h2, _⟩ | ⟨g', cap', cur, hv, hg, hh, hn, hc, hs, ht⟩
  · simp at h2
  · simp only [Value.slice.injEq, Option.some.injEq, Addr.mk.injEq, and_true, true_and] at hv
    obtain ⟨rfl, rfl⟩ := hv
    refine .inr ⟨g, cap, cur, rfl, hg, hh, by omega, hc, hs, ?_⟩
    rw [← ht, List.take_take, Nat.min_eq_left him]

def Blk (w : World) (b : Nat) (ty : TypeId) (cs : List Value) : Prop := w.heap[b]? = some (.cells cs.toArray ty (0, 0))
theorem Blk.cell {w : World} {b : Nat} {ty : TypeId} {cs : List Value} (h : Blk w b ty cs) {i : Nat} {v : Value} (hi : cs[i]? = some v) : w.cell? ⟨b, i, none⟩ = some v := by
  unfold Blk at h
  simp [World.cell?, h, hi]
theorem Blk.free {w : World} {b : Nat} {ty : TypeId} {cs : List Value} (h : Blk w b ty cs) (i : Nat) : w.frozen? ⟨b, i, none⟩ = false := by
  unfold Blk at h
  simp [World.frozen?, h]
theorem Blk.lt {w : World} {b : Nat} {ty : TypeId} {cs : List Value} (h : Blk w b ty cs) : b < w.heap.size := lt_of_block h
theorem Blk.set {w : World} {b : Nat} {ty : TypeId} {cs : List Value} (h : Blk w b ty cs) (i : Nat) (v : Value) : Blk (w.setCell ⟨b, i, none⟩ v) b ty (cs.set i v) := by
  have := heap_setCell_same w b i cs.toArray ty v h
  unfold Blk
  rw [this]
  simp
theorem Blk.new (w : World) (cs : Array Value) (ty : TypeId) (b : Nat) (hb : b = w.heap.size) : Blk (w.alloc (.cells cs ty)) b ty cs.toList := by
  subst hb
  unfold Blk
  simpa using heap_alloc_new w (.cells cs ty)
theorem Blk.touch {F : Nat → Prop} {w w' : World} {b : Nat} {ty : TypeId} {cs : List Value} (h : Blk w b ty cs) (ht : Touch F w w') (hF : ¬ F b) : Blk w' b ty cs := by
  unfold Blk
  rw [ht.block b h.lt hF]; exact h
theorem Blk.below {w w' : World} {b : Nat} {ty : TypeId} {cs : List Value} (h : Blk w b ty cs) (hb : Below w.heap.size w w') : Blk w' b ty cs := by
  unfold Blk
  rw [hb.block b h.lt]; exact h
theorem Blk.drew {w : World} {b : Nat} {ty : TypeId} {cs : List Value} (h : Blk w b ty cs) (n : Nat) : Blk (w.drewN n) b ty cs := h
theorem Blk.alloc {w : World} {b : Nat} {ty : TypeId} {cs : List Value} (h : Blk w b ty cs) (o : Obj) : Blk (w.alloc o) b ty cs := h.below ((Below.refl _ _).alloc (Nat.le_refl _) _)
theorem Blk.other {w : World} {b : Nat} {ty : TypeId} {cs : List Value} (h : Blk w b ty cs) {a : Addr} (ha : a.block ≠ b) (v : Value) : Blk (w.setCell a v) b ty cs := by
  unfold Blk
  rw [Below.heap_setCell _ _ _ _ (Ne.symm ha)]; exact h

theorem cell_alloc {w : World} {a : Addr} {v : Value} (o : Obj) (h : w.cell? a = some v) : (w.alloc o).cell? a = some v :=
  (((Below.refl w.heap.size w).alloc (Nat.le_refl _) o).cell (World.block_lt_of_cell? w a h)).trans h

theorem drew_bel' {W w : World} {B n : Nat} (h : Below B W w) : Below B W (w.drewN n) := ⟨h.os, h.tape, h.output, h.size, h.block⟩
theorem own_head {w : World} {base : Nat} {e : TypeId} {size : Nat} {v : Value} {n : Nat} {cs : List Value} (h : w.ownsRow base e size v n cs) (hn : 0 < n) : ∃ g cap, v = .slice (some ⟨g, 0, none⟩) n cap ∧ base ≤ g ∧ g < w.heap.size ∧ n ≤ cap ∧ cap ≤ 9223372036854775807 := by
  have hlt := h.lt
  rcases h.2 with ⟨_, e0⟩ | ⟨g, cap, cur, rfl, hg, hh, h1, h2, _⟩
  · omega
  · exact ⟨g, cap, rfl, hg, (hlt g rfl).2, h1, by unfold maxLen at h2; omega⟩
theorem qHC {w : World} {op A B : Int} {v : Value} {ty : TypeId} (hblk : Blk (w.alloc (.cells #[.int .u8 op, .int .i64 A, .int .i64 B, v] ty)) w.heap.size ty [.int .u8 op, .int .i64 A, .int .i64 B, v]) (w' : World) (hb : Below (w.alloc (.cells #[.int .u8 op, .int .i64 A, .int .i64 B, v] ty)).heap.size (w.alloc (.cells #[.int .u8 op, .int .i64 A, .int .i64 B, v] ty)) w') :
    w'.cell? ⟨w.heap.size, 0, none⟩ = some (.int .u8 op) ∧ w'.cell? ⟨w.heap.size, 1, none⟩ = some (.int .i64 A) ∧ w'.cell? ⟨w.heap.size, 2, none⟩ = some (.int .i64 B) ∧ w'.cell? ⟨w.heap.size, 3, none⟩ = some v :=
  And.intro ((hblk.below hb).cell (i := 0) rfl) (And.intro ((hblk.below hb).cell (i := 1) rfl) (And.intro ((hblk.below hb).cell (i := 2) rfl) ((hblk.below hb).cell (i := 3) rfl)))
theorem qHX {α : Type} {enc : α → Value} {w : World} {u : Value} {xs : List α} (hx : L1 enc w u xs) (op A B : Int) (v : Value) (ty : TypeId) (w' : World) (hb : Below (w.alloc (.cells #[.int .u8 op, .int .i64 A, .int .i64 B, v] ty)).heap.size (w.alloc (.cells #[.int .u8 op, .int .i64 A, .int .i64 B, v] ty)) w') : L1 enc w' u xs :=
  L1.below (L1.below hx ((Below.refl _ _).alloc (Nat.le_refl _) _)) hb
end Go.Proofs.YtakfineljffoaaaGreatDoor
namespace Go.Proofs.YtakfineljffoaaaGreatDoor
open Go.RowKit

structure Part (base : Nat) (F : Nat → Prop) (R : World → Prop) (w : World) : Prop where
  holds : R w
  le : base ≤ w.heap.size
  lt : ∀ k, F k → base ≤ k ∧ k < w.heap.size
  keep : ∀ w', w.heap.size ≤ w'.heap.size → (∀ k, F k → w'.heap[k]? = w.heap[k]?) → R w'
theorem Part.same {base : Nat} {F : Nat → Prop} {R : World → Prop} {w w' : World} (h : Part base F R w) (hs : w.heap.size ≤ w'.heap.size) (hb : ∀ k, F k → w'.heap[k]? = w.heap[k]?) : Part base F R w' :=
  ⟨h.keep w' hs hb, Nat.le_trans h.le hs, fun k hk => ⟨(h.lt k hk).1, Nat.lt_of_lt_of_le (h.lt k hk).2 hs⟩, fun w2 h2 hk2 => h.keep w2 (Nat.le_trans hs h2) (fun k hk => (hk2 k hk).trans (hb k hk))⟩
theorem Part.below {base : Nat} {F : Nat → Prop} {R : World → Prop} {w w' : World} (h : Part base F R w) (hb : Below w.heap.size w w') : Part base F R w' :=
  h.same hb.size (fun k hk => hb.block k (h.lt k hk).2)
theorem Part.touch {base : Nat} {F G : Nat → Prop} {R : World → Prop} {w w' : World} (h : Part base F R w) (ht : Touch G w w') (hd : ∀ k, F k → ¬ G k) : Part base F R w' :=
  h.same ht.size (fun k hk => ht.block k (h.lt k hk).2 (hd k hk))
theorem Part.drew {base : Nat} {F : Nat → Prop} {R : World → Prop} {w : World} (h : Part base F R w) (n : Nat) : Part base F R (w.drewN n) :=
  h.same (Nat.le_refl _) (fun _ _ => rfl)
theorem Part.drew1 {base : Nat} {F : Nat → Prop} {R : World → Prop} {w : World} (h : Part base F R w) : Part base F R w.drew :=
  h.same (Nat.le_refl _) (fun _ _ => rfl)
theorem own_same {w w' : World} {base : Nat} {e : TypeId} {size : Nat} {v : Value} {n : Nat} {cs : List Value} (h : w.ownsRow base e size v n cs) (hb : ∀ k, v.ownBlock = some k → w'.heap[k]? = w.heap[k]?) : w'.ownsRow base e size v n cs := by
  obtain ⟨h1, h2⟩ := h
  refine ⟨h1, ?_⟩
  rcases h2 with h2 | ⟨g, cap, cur, hv, hg, hh, r⟩
  · exact .inl h2
  · refine .inr ⟨g, cap, cur, hv, hg, ?_, r⟩
    rw [hb g (by rw [hv]; rfl)]; exact hh
theorem Blk.same {w w' : World} {b : Nat} {ty : TypeId} {cs : List Value} (h : Blk w b ty cs) (hb : w'.heap[b]? = w.heap[b]?) : Blk w' b ty cs := by
  unfold Blk
  rw [hb]; exact h

theorem Touch.put {F : Nat → Prop} {w w1 : World} (h : Touch F w w1) {a : Addr} (hF : F a.block) (v : Value) : Touch F w (w1.setCell a v) := h.trans (Touch.setCell hF v)
theorem Touch.drew1 {F : Nat → Prop} {w w1 : World} (h : Touch F w w1) : Touch F w w1.drew := ⟨h.os, h.tape, h.output, h.size, h.block⟩

structure Duo (base : Nat) (F G : Nat → Prop) (R S : World → Prop) (w : World) : Prop where
  p : Part base F R w
  q : Part base G S w
  apart : ∀ k, F k → ¬ G k
theorem Duo.below {base : Nat} {F G : Nat → Prop} {R S : World → Prop} {w w' : World} (h : Duo base F G R S w) (hb : Below w.heap.size w w') : Duo base F G R S w' := ⟨h.p.below hb, h.q.below hb, h.apart⟩
theorem Duo.drew {base : Nat} {F G : Nat → Prop} {R S : World → Prop} {w : World} (h : Duo base F G R S w) (n : Nat) : Duo base F G R S (w.drewN n) := ⟨h.p.drew n, h.q.drew n, h.apart⟩
theorem Duo.drew1 {base : Nat} {F G : Nat → Prop} {R S : World → Prop} {w : World} (h : Duo base F G R S w) : Duo base F G R S w.drew := ⟨h.p.drew1, h.q.drew1, h.apart⟩
theorem Duo.alloc {base : Nat} {F G : Nat → Prop} {R S : World → Prop} {w : World} (h : Duo base F G R S w) (o : Obj) : Duo base F G R S (w.alloc o) := h.below ((Below.refl _ _).alloc (Nat.le_refl _) _)
theorem Duo.left {base : Nat} {F F' G : Nat → Prop} {R R' S : World → Prop} {w w' : World} (h : Duo base F G R S w) (hp : Part base F' R' w') (ht : Touch F w w') (hf : ∀ k, F' k → F k ∨ w.heap.size ≤ k) : Duo base F' G R' S w' := by
  refine ⟨hp, h.q.touch ht (fun k hg hF => h.apart k hF hg), fun k hF hg => ?_⟩
  rcases hf k hF with e | e
  · exact h.apart k e hg
  · have := (h.q.lt k hg).2; omega
end Go.Proofs.YtakfineljffoaaaGreatDoor
namespace Go.Proofs.YtakfineljffoaaaGreatDoor
open Go.RowKit Go.Lib

def KT (bad : TypeId) (w w' : World) : Prop := w.heap.size ≤ w'.heap.size ∧ ∀ (k : Nat) (cs : Array Value) (ty : TypeId) (fr : Nat × Nat), (ty == bad) = false → w.heap[k]? = some (.cells cs ty fr) → w'.heap[k]? = w.heap[k]?
theorem KT.blk {bad ty : TypeId} {w w' : World} {b : Nat} {cs : List Value} (h : KT bad w w') (hb : Blk w b ty cs) (ht : (ty == bad) = false) : Blk w' b ty cs := hb.same (h.2 b _ ty _ ht hb)
theorem KT.own {bad E : TypeId} {w w' : World} {base size n : Nat} {v : Value} {cs : List Value} (h : KT bad w w') (ho : w.ownsRow base E size v n cs) (ht : (E == bad) = false) : w'.ownsRow base E size v n cs := by
  refine own_same ho (fun k hk => ?_)
  rcases ho.2 with ⟨e, _⟩ | ⟨g, cap, cur, e, _, hh, _⟩
  · rw [e] at hk; simp [Value.ownBlock] at hk
  · rw [e] at hk
    simp only [Value.ownBlock, Option.some.injEq] at hk
    subst hk
    exact h.2 g _ E _ ht hh
theorem KT.touch {w w' : World} {B : Nat} {bad : TypeId} {cs : List Value} (h : Blk w B bad cs) (ht : Touch (fun k => k = B) w w') : KT bad w w' := by
  refine ⟨ht.size, fun k cs' ty fr hne hk => ht.block k (lt_of_block hk) (fun e => ?_)⟩
  subst e
  unfold Blk at h
  rw [h] at hk
  simp only [Option.some.injEq, Obj.cells.injEq] at hk
  rw [hk.2.1] at hne
  simp at hne
theorem KT.below {w w' : World} {bad : TypeId} (h : Below w.heap.size w w') : KT bad w w' := ⟨h.size, fun k _ _ _ _ hk => h.block k (lt_of_block hk)⟩
theorem KT.trans {w1 w2 w3 : World} {bad : TypeId} (h : KT bad w1 w2) (g : KT bad w2 w3) : KT bad w1 w3 :=
  ⟨Nat.le_trans h.1 g.1, fun k cs ty fr hne hk => by
    have e := h.2 k cs ty fr hne hk
    exact (g.2 k cs ty fr hne (e.trans hk)).trans e⟩
theorem KT.grown {w w' : World} {bad : TypeId} {base size n : Nat} {v : Value} {cs : List Value} (hg : w.grownBy w' v.ownBlock) (ho : w.ownsRow base bad size v n cs) : KT bad w w' := by
  refine ⟨hg.size, fun k cs' ty fr hne hk => hg.block k (lt_of_block hk) (fun e => ?_)⟩
  rcases ho.2 with ⟨e2, _⟩ | ⟨g, cap, cur, e2, _, hh, _⟩
  · rw [e2] at e; simp [Value.ownBlock] at e
  · rw [e2] at e
    simp only [Value.ownBlock, Option.some.injEq] at e
    subst e
    rw [hh] at hk
    simp only [Option.some.injEq, Obj.cells.injEq] at hk
    rw [hk.2.1] at hne
    simp at hne

theorem KT.set {w : World} {B i : Nat} {bad : TypeId} {cs : List Value} (h : Blk w B bad cs) (v : Value) : KT bad w (w.setCell ⟨B, i, none⟩ v) := KT.touch h (Touch.setCell (F := fun k => k = B) (a := ⟨B, i, none⟩) rfl v)
end Go.Proofs.YtakfineljffoaaaGreatDoor
namespace Go.Proofs.YtakfineljffoaaaGreatDoor
open Go.RowKit Go.Lib

theorem own_at {w : World} {base : Nat} {e : TypeId} {v : Value} {n : Nat} {xs : List Value} (h : w.ownsRow base e 1 v n xs) (hn : 0 < n) : ∃ g cap, v = .slice (some ⟨g, 0, none⟩) n cap ∧ base ≤ g ∧ n ≤ cap ∧ cap ≤ maxLen ∧ xs.length = n ∧ (∀ i x, xs[i]? = some x → w.cell? ⟨g, i, none⟩ = some x) ∧ (∀ i, w.frozen? ⟨g, i, none⟩ = false) ∧ g < w.heap.size := by
  obtain ⟨h1, h2⟩ := h
  rcases h2 with ⟨_, h2⟩ | ⟨g, cap, cur, hv, hg, hh, hnc, hcm, hs, ht⟩
  · omega
  · have hb : Blk w g e cur.toList := hh
    refine ⟨g, cap, hv, hg, hnc, hcm, by omega, fun i x hx => hb.cell ?_, hb.free, hb.lt⟩
    rw [← ht] at hx
    have hi := (List.getElem?_eq_some_iff.1 hx).1
    rw [List.length_take] at hi
    rw [List.getElem?_take_of_lt (by omega)] at hx
    exact hx
theorem own_put {w : World} {base : Nat} {e : TypeId} {g n cap : Nat} {xs : List Value} (h : w.ownsRow base e 1 (.slice (some ⟨g, 0, none⟩) n cap) n xs) (i : Nat) (a : Value) (_hi : i < n) : (w.setCell ⟨g, i, none⟩ a).ownsRow base e 1 (.slice (some ⟨g, 0, none⟩) n cap) n (xs.set i a) := by
  obtain ⟨h1, h2⟩ := h
  refine ⟨by simpa using h1, ?_⟩
  rcases h2 with ⟨h2, _⟩ | ⟨g', cap', cur, hv, hg, hh, hnc, hcm, hs, ht⟩
  · simp at h2
  · simp only [Value.slice.injEq, Option.some.injEq, Addr.mk.injEq, and_true, true_and] at hv
    obtain ⟨rfl, rfl⟩ := hv
    have hb : Blk w g e cur.toList := hh
    have hb2 := hb.set i a
    refine .inr ⟨g, cap, (cur.toList.set i a).toArray, rfl, hg, hb2, hnc, hcm, by simp [hs], ?_⟩
    rw [← ht]
    simp only
    rw [List.take_set]
theorem own_cut {w : World} {base : Nat} {e : TypeId} {g n cap : Nat} {xs : List Value} (h : w.ownsRow base e 1 (.slice (some ⟨g, 0, none⟩) n cap) n xs) (i : Nat) (hi : i ≤ n) : w.ownsRow base e 1 (.slice (some ⟨g, 0, none⟩) i cap) i (xs.take i) := by
  have := own_prefix h i hi
  rw [Nat.mul_one] at this
  exact this
theorem OwnI.at {w : World} {base : Nat} {k : IntKind} {e : TypeId} {v : Value} {xs : List Int} {n : Nat} (h : OwnI w base k e v xs) (hl : xs.length = n) (hn : 0 < n) : ∃ g cap, v = .slice (some ⟨g, 0, none⟩) n cap ∧ base ≤ g ∧ n ≤ cap ∧ cap ≤ maxLen ∧ (∀ i x, xs[i]? = some x → w.cell? ⟨g, i, none⟩ = some (.int k x)) ∧ (∀ i, w.frozen? ⟨g, i, none⟩ = false) ∧ g < w.heap.size ∧ ∃ cs, Blk w g e cs := by
  subst hl
  obtain ⟨g, cap, h1, h2, h3, h4, _, h5, h6, h7⟩ := own_at h hn
  subst h1
  refine ⟨g, cap, rfl, h2, h3, h4, fun i x hx => h5 i _ ?_, h6, h7, ?_⟩
  · rw [List.getElem?_map, hx]; rfl
  · obtain ⟨_, k2⟩ := h
    rcases k2 with ⟨k2, _⟩ | ⟨g', cap', cur, hv, hg, hh, _⟩
    · simp at k2
    · simp only [Value.slice.injEq, Option.some.injEq, Addr.mk.injEq, and_true, true_and] at hv
      obtain ⟨rfl, rfl⟩ := hv
      exact ⟨cur.toList, hh⟩
theorem blk_diff {w : World} {a b : Nat} {e f : TypeId} {cs ds : List Value} (h : Blk w a e cs) (k : Blk w b f ds) (hne : e ≠ f) : a ≠ b := by
  intro hab
  subst hab
  unfold Blk at h k
  rw [h] at k
  simp at k
  exact hne k.2
theorem OwnI.put {w : World} {base : Nat} {k : IntKind} {e : TypeId} {g n cap : Nat} {xs : List Int} (h : OwnI w base k e (.slice (some ⟨g, 0, none⟩) n cap) xs) (hn : n = xs.length) (i : Nat) (a : Int) (hi : i < xs.length) : OwnI (w.setCell ⟨g, i, none⟩ (.int k a)) base k e (.slice (some ⟨g, 0, none⟩) n cap) (xs.set i a) := by
  subst hn
  have := own_put h i (.int k a) hi
  rw [← List.map_set] at this
  show World.ownsRow _ _ _ _ _ (xs.set i a).length _
  rw [List.length_set]
  exact this
theorem OwnI.cut {w : World} {base : Nat} {k : IntKind} {e : TypeId} {g n cap : Nat} {xs ys : List Int} (h : OwnI w base k e (.slice (some ⟨g, 0, none⟩) n cap) xs) (hn : n = xs.length) (i : Nat) (hi : i ≤ xs.length) (hy : xs.take i = ys) : OwnI w base k e (.slice (some ⟨g, 0, none⟩) i cap) ys := by
  subst hn
  have := own_cut h i hi
  rw [← List.map_take, hy] at this
  have hl : ys.length = i := by rw [← hy, List.length_take]; omega
  show World.ownsRow _ _ _ _ _ ys.length _
  rw [hl]
  exact this
end Go.Proofs.YtakfineljffoaaaGreatDoor
namespace Go.Proofs.YtakfineljffoaaaGreatDoor
open Go.RowKit Go.Lib

theorem wp_any {P : Program} {T E : TypeId} {z : Value} {size bytes : Nat} (hE : Elem P T E z size bytes)
    {o : Oper} {a : Act} {K : Act → World → Prop} {Q : Exit → Act → World → Prop} {w : World} {base : Nat} {v u : Value} {n m : Nat} {xs news : List Value} (s x : Operand)
    (ho : o.op = .call { callee := .builtin .append, args := #[s, x], argTypes := #[T, T] })
    (hs : a.eval s = v) (hx : a.eval x = u) (hown : w.ownsRow base E size v n xs) (hu : Sl w u m news) (hl : news.length = m * size) (h1 : ∀ c ∈ news, c.oneCell' = true)
    (hlen : n + m ≤ 9223372036854775807) (hbytes : (n + m) * bytes ≤ 140737488355328) (hbase : base ≤ w.heap.size)
    (h : ∀ v' w', w'.ownsRow base E size v' (n + m) (xs ++ news) → Below base w w' → Grew w v w' v' → K (a.put o.dst v') w') : Oper.wp P o a w K Q := by
  obtain ⟨ht, hinfo, hz2, hpos⟩ := hE
  obtain ⟨i0, hi, hz0, hz1, hzb⟩ := info_parts hinfo
  obtain ⟨ao, cap, rfl, hmc, hcap, hnil, hcells⟩ := hu
  cases ao with
  | none =>
    have hc0 := hnil rfl
    obtain rfl : m = 0 := by omega
    subst hc0
    have hn0 : news = [] := by simpa using hl
    subst hn0
    have hr : ∀ ty, (Builtin.append_ #[T, T] ty #[v, .slice none 0 0]).run P w = .ok v w := by
      intro ty
      rcases id hown.2 with ⟨rfl, rfl⟩ | ⟨g, cap, cur, rfl, hbg, hg, hnc, hcm, hcs, htake⟩
      · simp [Builtin.append_, run_underlying ht, sizeOf, typeInfo, hi, Builtin.lenOf, Builtin.firstCells]
      · simp [Builtin.append_, run_underlying ht, sizeOf, typeInfo, hi, Builtin.lenOf, Builtin.firstCells, loadCells, hnc, storeCells]
    unfold Oper.wp execOp
    simp only [ho, resolve, invoke, builtin, Sem.run_bind, Sem.run_pure, Result.andThen_ok, List.map_toArray, List.map_cons, List.map_nil, hs, hx, hr]
    exact h v w (by simpa using hown) (Below.refl _ _) ⟨World.grownBy.refl _ _, .inl rfl⟩
  | some ad =>
    have hnews : ∀ j c, news[j]? = some c → w.cell? (ad.add j) = some c := by
      intro j c hj
      rcases hcells with rfl | ⟨b, off, hb, hat⟩
      · simp at hj
      · simp only [Option.some.injEq] at hb
        subst hb
        have hjl : j < news.length := by
          rcases Nat.lt_or_ge j news.length with h | h
          · exact h
          · simp [List.getElem?_eq_none h] at hj
        have hplain : (⟨b, off, none⟩ : Addr).add j = ⟨b, off + j, none⟩ := by unfold Addr.add; split <;> simp_all
        rw [hplain, hat j hjl, ← hj, List.getElem?_eq_getElem hjl]
    obtain ⟨v', w', hr, h2, h3⟩ := run_own_fresh (P := P) w base T o.type E i0 z size bytes ht hi hz0 hz1 hzb hz2 hpos v n xs hown ad m cap news hl hnews h1 (by unfold maxLen; omega) hbytes hbase
    unfold Oper.wp execOp
    simp only [ho, resolve, invoke, builtin, Sem.run_bind, Sem.run_pure, Result.andThen_ok, List.map_toArray, List.map_cons, List.map_nil, hs, hx, hr]
    exact h v' w' h2 ((Below.refl base w).grown h3.1 hbase (own_block hown)) h3

theorem step_any {P : Program} {T E : TypeId} {z : Value} {size bytes : Nat} (hE : Elem P T E z size bytes)
    {ops : Array Oper} {o : Oper} {a : Act} {K : Act → World → Prop} {Q : Exit → Act → World → Prop} {EE : Prop} {w : World} {base : Nat} {v u : Value} {n m : Nat} {xs news : List Value} (hgd : o.guard = none) (s x : Operand)
    (ho : o.op = .call { callee := .builtin .append, args := #[s, x], argTypes := #[T, T] })
    (hs : a.eval s = v) (hx : a.eval x = u) (hown : w.ownsRow base E size v n xs) (hu : Sl w u m news) (hl : news.length = m * size) (h1 : ∀ c ∈ news, c.oneCell' = true)
    (hlen : n + m ≤ 9223372036854775807) (hbytes : (n + m) * bytes ≤ 140737488355328) (hbase : base ≤ w.heap.size)
    (h : ∀ v' w', w'.ownsRow base E size v' (n + m) (xs ++ news) → Below base w w' → Grew w v w' v' → K (a.put o.dst v') w') : if Region.wanted o (yielded ops a.tmps) = true then Oper.wp P o a w K Q else EE := by
  have hw : Region.wanted o (yielded ops a.tmps) = true := by simp [Region.wanted, hgd]
  rw [if_pos hw]
  exact wp_any hE s x ho hs hx hown hu hl h1 hlen hbytes hbase h

theorem step_one {P : Program} {T E : TypeId} {z : Value} {size bytes : Nat} (hE : Elem P T E z size bytes)
    {ops : Array Oper} {o : Oper} {a : Act} {K : Act → World → Prop} {Q : Exit → Act → World → Prop} {EE : Prop} {w : World} {base : Nat} {v : Value} {n : Nat} {xs cs : List Value} (hgd : o.guard = none) (s x : Operand)
    (ho : o.op = .call { callee := .builtin .append, args := #[s, x], argTypes := #[T, T] })
    {mm : Nat} (hs : a.eval s = v) (hx : a.eval x = .slice (some ⟨mm, 0, none⟩) 1 1) (hat : At w mm 0 cs) (hown : w.ownsRow base E size v n xs) (hl : cs.length = size) (h1 : ∀ c ∈ cs, c.oneCell' = true)
    (hlen : n + 1 ≤ 9223372036854775807) (hbytes : (n + 1) * bytes ≤ 140737488355328) (hbase : base ≤ w.heap.size)
    (h : ∀ v' w', w'.ownsRow base E size v' (n + 1) (xs ++ cs) → Below base w w' → Grew w v w' v' → K (a.put o.dst v') w') : if Region.wanted o (yielded ops a.tmps) = true then Oper.wp P o a w K Q else EE :=
  step_any hE hgd s x ho hs hx hown ⟨_, _, rfl, Nat.le_refl _, by omega, by simp, .inr ⟨mm, 0, rfl, hat⟩⟩ (by omega) h1 hlen hbytes hbase h

theorem step_one1 {P : Program} {T E : TypeId} {z : Value} {size bytes : Nat} (hE : Elem P T E z size bytes)
    {ops : Array Oper} {o : Oper} {a : Act} {K : Act → World → Prop} {Q : Exit → Act → World → Prop} {EE : Prop} {w : World} {base : Nat} {v : Value} {n : Nat} {xs cs : List Value} (hgd : o.guard = none) (s x : Operand)
    (ho : o.op = .call { callee := .builtin .append, args := #[s, x], argTypes := #[T, T] })
    {mm : Nat} (hs : a.eval s = v) (hx : a.eval x = .slice (some ⟨mm, 0, none⟩) 1 1) (hmm : mm = w.heap.size) (hown : w.ownsRow base E size v n xs) (hl : cs.length = size) (h1 : ∀ c ∈ cs, c.oneCell' = true)
    (hlen : n + 1 ≤ 9223372036854775807) (hbytes : (n + 1) * bytes ≤ 140737488355328) (hbase : base ≤ w.heap.size)
    (h : ∀ v' w', w'.ownsRow base E size v' (n + 1) (xs ++ cs) → Below base w w' → Grew w v w' v' → K (a.put o.dst v') w') : if Region.wanted o (yielded ops a.tmps) = true then Oper.wp P o a (w.alloc (.cells cs.toArray E)) K Q else EE := by
  refine step_one hE hgd s x ho hs hx ?_ (hown.alloc _) hl h1 hlen hbytes (by simp; omega) ?_
  · subst hmm
    intro j hj
    rw [World.cell?_alloc_new]
    simp
  · intro v' w' g1 g2 g3
    obtain ⟨g3, g4⟩ := g3
    refine h v' w' g1 (((Below.refl base w).alloc hbase _).trans g2) ⟨⟨g3.os, g3.tape, g3.output, by have := g3.size; simp at this; omega, fun k hk hne => ?_⟩, ?_⟩
    · rw [g3.block k (by simp; omega) hne, Below.heap_alloc _ _ _ hk]
    · rcases g4 with g4 | ⟨k, g4, g5⟩
      · exact .inl g4
      · exact .inr ⟨k, g4, by simp at g5; omega⟩
theorem Grew.cell {w w' : World} {v v' : Value} (hg : Grew w v w' v') {a : Addr} {u : Value} (h : w.cell? a = some u) (hne : v.ownBlock ≠ some a.block) : w'.cell? a = some u :=
  (World.cell?_of_block (hg.1.block a.block (World.block_lt_of_cell? w a h) (Ne.symm hne))).trans h
theorem Grew.free {w w' : World} {v v' : Value} (hg : Grew w v w' v') {a : Addr} {u : Value} (h : w.cell? a = some u) (hne : v.ownBlock ≠ some a.block) (hf : w.frozen? a = false) : w'.frozen? a = false :=
  (World.frozen?_of_block (hg.1.block a.block (World.block_lt_of_cell? w a h) (Ne.symm hne))).trans hf
end Go.Proofs.YtakfineljffoaaaGreatDoor
