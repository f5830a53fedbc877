/-
  THE WALKS of package leb's readers and writers and of the reference's: each returns what the plain functions of LebP say. Conditions: lengths of strings are at most the model's greatest length.
-/
import Derived.Test.YtakfineljffoaaaGreatDoorGFoldSays2
import Derived.Test.YtakfineljffoaaaGreatDoorGFoldSays4
import Derived.Test.YtakfineljffoaaaGreatDoorGFoldSays6
import Derived.Test.YtakfineljffoaaaGreatDoorGFoldSays8
import Derived.Test.YtakfineljffoaaaGreatDoorGFoldSays10
import Derived.Test.YtakfineljffoaaaGreatDoorGFoldSays11
import Derived.Deep.QuietTactic
import Derived.BigQuiet
import Derived.IntWalk
import Derived.Deep.RegionLaw
import Derived.Lib.OthersKept
namespace Go.Proofs.YtakfineljffoaaaGreatDoor
open Go.RowKit

end Go.Proofs.YtakfineljffoaaaGreatDoor
namespace Go.Proofs.YtakfineljffoaaaGreatDoor
open Go.RowKit

def hs (n : Int) : List UInt8 → Int
  | [] => n
  | c :: r => (c.toNat % 128 : Nat) + 128 * hs n r
end Go.Proofs.YtakfineljffoaaaGreatDoor
namespace Go.Proofs.YtakfineljffoaaaGreatDoor
open Go.RowKit

end Go.Proofs.YtakfineljffoaaaGreatDoor
namespace Go.Proofs.YtakfineljffoaaaGreatDoor
open Go.RowKit

end Go.Proofs.YtakfineljffoaaaGreatDoor
namespace Go.Proofs.YtakfineljffoaaaGreatDoor
open Go.RowKit

end Go.Proofs.YtakfineljffoaaaGreatDoor
namespace Go.Proofs.YtakfineljffoaaaGreatDoor
open Go.RowKit Go.Lib
attribute [local go_sem ↓] Go.wp_at_zero Go.wp_at_succ

abbrev CuB (w : World) (B : Nat) (all : Int) (s : ByteArray × Int) : Prop := Blk w B 58 [.string s.1, .int .i64 all, .int .i64 s.2]
abbrev ToC (B : Nat) (w w' : World) : Prop := Touch (fun k => k = B) w w'
end Go.Proofs.YtakfineljffoaaaGreatDoor
namespace Go.Proofs.YtakfineljffoaaaGreatDoor
open Go.RowKit Go.Lib
attribute [local go_sem ↓] Go.wp_at_zero Go.wp_at_succ

abbrev IrB (w : World) (B : Nat) (t : ByteArray) (at0 : Nat) (bad : Int) : Prop := Blk w B 208 [.string t, .int .i64 at0, .int .i64 bad]
def left (t : ByteArray) (at0 : Nat) : ByteArray := t.extract at0 t.size
abbrev ToI (B : Nat) (w w' : World) : Prop := Touch (fun k => k = B) w w'
end Go.Proofs.YtakfineljffoaaaGreatDoor
namespace Go.Proofs.YtakfineljffoaaaGreatDoor
open Go.RowKit Go.Lib
attribute [local go_sem ↓] Go.wp_at_zero Go.wp_at_succ

end Go.Proofs.YtakfineljffoaaaGreatDoor
namespace Go.Proofs.YtakfineljffoaaaGreatDoor
open Go.RowKit Go.Lib
attribute [local go_sem ↓] Go.wp_at_zero Go.wp_at_succ

structure DuI (w : World) (R X : Nat) (t : ByteArray) (s : ByteArray × Int) (op : Nat) (A B : Int) (u : Value) : Prop where
  rd : ∃ a, a ≤ t.size ∧ s.1 = left t a ∧ IrB w R t a s.2
  ins : Blk w X 97 [.int .u8 op, .int .i64 A, .int .i64 B, u]
  ne : R ≠ X
  sz : t.size ≤ 140737488351232
abbrev ToD (R X : Nat) (w w' : World) : Prop := Touch (fun k => k = R ∨ k = X) w w'
section
variable {w : World} {R X : Nat} {t : ByteArray} {s : ByteArray × Int} {op : Nat} {A B : Int} {u : Value}
theorem DuI.next {w' : World} {s' : ByteArray × Int} (h : DuI w R X t s op A B u) (g : ∃ a', a' ≤ t.size ∧ s'.1 = left t a' ∧ IrB w' R t a' s'.2) (ht : ToI R w w') : DuI w' R X t s' op A B u :=
  ⟨g, h.ins.touch ht (fun e => h.ne e.symm), h.ne, h.sz⟩
theorem ToD.of {w' : World} (h : ToI R w w') : ToD R X w w' := h.mono (fun _ _ g => Or.inl g)
theorem ToD.put (w : World) (i : Nat) (v : Value) : ToD R X w (w.setCell ⟨X, i, none⟩ v) := Touch.setCell (a := ⟨X, i, none⟩) (Or.inr rfl) v
end
end Go.Proofs.YtakfineljffoaaaGreatDoor
namespace Go.Proofs.YtakfineljffoaaaGreatDoor
open Go.RowKit Go.Lib
attribute [local go_sem ↓] Go.wp_at_zero Go.wp_at_succ

theorem elem_i64v : Elem Tryz.prog 95 2 (.int .i64 0) 1 8 := ⟨Tryz.underlying95, by kernel_rfl, rfl, by decide⟩
section
variable {w : World} {R X : Nat} {t : ByteArray} {s : ByteArray × Int} {op : Nat} {A B : Int} {u : Value}
theorem DuI.drew (h : DuI w R X t s op A B u) : DuI w.drew R X t s op A B u := ⟨h.rd, h.ins, h.ne, h.sz⟩
theorem DuI.lt (h : DuI w R X t s op A B u) : R < w.heap.size ∧ X < w.heap.size := by
  obtain ⟨a, h1, h2, h3⟩ := h.rd
  exact ⟨h3.lt, h.ins.lt⟩
end
end Go.Proofs.YtakfineljffoaaaGreatDoor
namespace Go.Proofs.YtakfineljffoaaaGreatDoor
open Go.RowKit Go.Lib

end Go.Proofs.YtakfineljffoaaaGreatDoor
namespace Go.Proofs.YtakfineljffoaaaGreatDoor
open Go.RowKit Go.Lib

structure DuC (w : World) (R X : Nat) (all : Int) (s : ByteArray × Int) (op : Nat) (A B : Int) (u : Value) : Prop where
  cu : CuB w R all s
  ins : Blk w X 97 [.int .u8 op, .int .i64 A, .int .i64 B, u]
  ne : R ≠ X
  sz : (s.1.size : Int) ≤ all ∧ all ≤ 140737488351232
section
variable {w : World} {R X : Nat} {all : Int} {s : ByteArray × Int} {op : Nat} {A B : Int} {u : Value}
theorem DuC.drew (h : DuC w R X all s op A B u) : DuC w.drew R X all s op A B u := ⟨h.cu, h.ins, h.ne, h.sz⟩
theorem DuC.lt (h : DuC w R X all s op A B u) : R < w.heap.size ∧ X < w.heap.size := ⟨h.cu.lt, h.ins.lt⟩
theorem DuC.same {w' : World} (h : DuC w R X all s op A B u) (hR : w'.heap[R]? = w.heap[R]?) (hX : w'.heap[X]? = w.heap[X]?) : DuC w' R X all s op A B u := ⟨h.cu.same hR, h.ins.same hX, h.ne, h.sz⟩
theorem DuC.below {w' : World} (h : DuC w R X all s op A B u) (hb : Below w.heap.size w w') : DuC w' R X all s op A B u := ⟨h.cu.below hb, h.ins.below hb, h.ne, h.sz⟩
theorem DuC.next {w' : World} {s' : ByteArray × Int} (h : DuC w R X all s op A B u) (g : CuB w' R all s') (hs : s'.1.size ≤ s.1.size) (ht : ToC R w w') : DuC w' R X all s' op A B u :=
  ⟨g, h.ins.touch ht (fun e => h.ne e.symm), h.ne, by have := h.sz; omega⟩
end

end Go.Proofs.YtakfineljffoaaaGreatDoor
namespace Go.Proofs.YtakfineljffoaaaGreatDoor
open Go.RowKit Go.Lib
attribute [local go_sem ↓] Go.wp_at_zero Go.wp_at_succ

theorem DuI.below {w w' : World} {R X : Nat} {t : ByteArray} {s : ByteArray × Int} {op : Nat} {A B : Int} {u : Value} (h : DuI w R X t s op A B u) (hb : Below w.heap.size w w') : DuI w' R X t s op A B u := by
  obtain ⟨a, h1, h2, h3⟩ := h.rd
  exact ⟨⟨a, h1, h2, h3.below hb⟩, h.ins.below hb, h.ne, h.sz⟩
end Go.Proofs.YtakfineljffoaaaGreatDoor
namespace Go.Proofs.YtakfineljffoaaaGreatDoor
open Go.RowKit Go.Lib

section
variable {t : ByteArray} {f a : Nat} {l : List It} {T : Stk}
end
def Way (l : List It) (T : Stk) : Prop := ∀ r, chkR itC It.op (l ++ r) 0 ([(-1, 2)], false) = chkR itC It.op r l.length (T, false)
theorem Way.next {l : List It} {T : Stk} (h : Way l T) {x : It} (hc : itC x = 0) (h3 : (wnext (T, false) x.op l.length).1.2 = 0) (h4 : (wnext (T, false) x.op l.length).2.2 = false) : Way (l ++ [x]) (wnext (T, false) x.op l.length).2.1 := by
  intro r
  rw [List.append_assoc, List.singleton_append, h, chkR, if_neg (by simp [hc]), if_neg (by simp [h3]), List.length_append, List.length_singleton]
  generalize wnext (T, false) x.op l.length = q at *
  obtain ⟨⟨a, b⟩, c, d⟩ := q
  simp only at h4
  rw [h4]
end Go.Proofs.YtakfineljffoaaaGreatDoor
namespace Go.Proofs.YtakfineljffoaaaGreatDoor
open Go.RowKit Go.Lib

theorem info_insv : (Tryz.prog.info? 97).map (fun i => (i.zero, i.size, i.bytes)) = some (some (.agg #[.int .u8 0, .int .i64 0, .int .i64 0, .slice none 0 0]), 4, 48) := by kernel_rfl
theorem elem_insv : Elem Tryz.prog 36 97 (.agg #[.int .u8 0, .int .i64 0, .int .i64 0, .slice none 0 0]) 4 48 := ⟨Tryz.underlying36, info_insv, rfl, by decide⟩
def ItO (w : World) (base : Nat) (cs : List Value) (x : It) : Prop := ∃ u, cs = [.int .u8 x.op, .int .i64 x.A, .int .i64 x.B, u] ∧ OwnI w base .i64 2 u x.tos
def Its (w : World) (base : Nat) (css : List (List Value)) (l : List It) : Prop := css.length = l.length ∧ ∀ i (h1 : i < css.length) (h2 : i < l.length), ItO w base css[i] l[i]
def KI (w w' : World) : Prop := ∀ (k : Nat) (cs : Array Value) (ty : TypeId) (fr : Nat × Nat), (ty = 97 ∨ ty = 2) → w.heap[k]? = some (.cells cs ty fr) → w'.heap[k]? = w.heap[k]?
theorem KI.below {w w' : World} (h : Below w.heap.size w w') : KI w w' := fun k _ _ _ _ hk => h.block k (lt_of_block hk)
theorem own_type {w : World} {base size n : Nat} {e : TypeId} {v : Value} {cs : List Value} (ho : w.ownsRow base e size v n cs) {k : Nat} (hk : v.ownBlock = some k) : ∃ cur fr, w.heap[k]? = some (.cells cur e fr) := by
  rcases ho.2 with ⟨e, _⟩ | ⟨g, cap, cur, e, _, hh, _⟩
  · rw [e] at hk; simp [Value.ownBlock] at hk
  · rw [e] at hk
    simp only [Value.ownBlock, Option.some.injEq] at hk
    subst hk
    exact ⟨_, _, hh⟩
theorem KI.own {w w' : World} {base size n : Nat} {e : TypeId} {v : Value} {cs : List Value} (h : KI w w') (he : e = 97 ∨ e = 2) (ho : w.ownsRow base e size v n cs) : w'.ownsRow base e size v n cs := by
  refine own_same ho (fun k hk => ?_)
  obtain ⟨cur, fr, hh⟩ := own_type ho hk
  exact h k cur e fr he hh
theorem Its.ki {w w' : World} {base : Nat} {css : List (List Value)} {l : List It} (h : Its w base css l) (k : KI w w') : Its w' base css l := by
  refine ⟨h.1, fun i h1 h2 => ?_⟩
  obtain ⟨u, e, ho⟩ := h.2 i h1 h2
  exact ⟨u, e, k.own (.inr rfl) ho⟩
def OwnB (w : World) (base : Nat) (v : Value) (l : List It) : Prop := ∃ css : List (List Value), Its w base css l ∧ w.ownsRow base 97 4 v l.length css.flatten
theorem OwnB.nil (w : World) (base : Nat) : OwnB w base (.slice none 0 0) [] := ⟨[], ⟨rfl, fun i h => by simp at h⟩, World.ownsRow_nil _ _ _ _⟩
theorem OwnB.ki {w w' : World} {base : Nat} {v : Value} {l : List It} (h : OwnB w base v l) (k : KI w w') : OwnB w' base v l := by
  obtain ⟨css, h1, h2⟩ := h
  exact ⟨css, h1.ki k, k.own (.inl rfl) h2⟩
theorem OwnB.below {w w' : World} {base : Nat} {v : Value} {l : List It} (h : OwnB w base v l) (k : Below w.heap.size w w') : OwnB w' base v l := h.ki (KI.below k)
theorem OwnB.bod {w : World} {base : Nat} {v : Value} {l : List It} (h : OwnB w base v l) : BodS w v l := by
  obtain ⟨css, h1, h2⟩ := h
  refine ⟨css, h1.1, own_sl h2, fun i g1 g2 => ?_⟩
  obtain ⟨u, e, ho⟩ := h1.2 i g1 g2
  exact ⟨u, e, OwnI.ints ho⟩
def slLen : Value → Nat
  | .slice _ n _ => n
  | _ => 0
theorem OwnB.len {w : World} {base : Nat} {v : Value} {l : List It} (h : OwnB w base v l) : slLen v = l.length := by
  obtain ⟨css, h1, h2⟩ := h
  obtain ⟨ao, cap, rfl, _⟩ := own_sl h2
  rfl
end Go.Proofs.YtakfineljffoaaaGreatDoor
namespace Go.Proofs.YtakfineljffoaaaGreatDoor
open Go.RowKit Go.Lib

def KN (F : Nat → Prop) (w w' : World) : Prop := ∀ k, k < w.heap.size → (F k ∨ ∃ cs fr, w.heap[k]? = some (.cells cs 2 fr)) → w'.heap[k]? = w.heap[k]?
theorem KN.below {F : Nat → Prop} {w w' : World} (h : Below w.heap.size w w') : KN F w w' := fun k hk _ => h.block k hk
theorem KN.ints {F : Nat → Prop} {w w' : World} {base : Nat} {u : Value} {xs : List Int} (h : KN F w w') (hu : OwnI w base .i64 2 u xs) : OwnI w' base .i64 2 u xs := by
  refine own_same hu (fun k hk => ?_)
  obtain ⟨cur, fr, hh⟩ := own_type hu hk
  exact h k (lt_of_block hh) (.inr ⟨_, _, hh⟩)
end Go.Proofs.YtakfineljffoaaaGreatDoor
namespace Go.Proofs.YtakfineljffoaaaGreatDoor
open Go.RowKit Go.Lib
attribute [local go_sem ↓] Go.wp_at_zero Go.wp_at_succ

end Go.Proofs.YtakfineljffoaaaGreatDoor
namespace Go.Proofs.YtakfineljffoaaaGreatDoor
open Go.RowKit Go.Lib

theorem cell_below {w w' : World} {a : Addr} {v : Value} (hb : Below w.heap.size w w') (h : w.cell? a = some v) : w'.cell? a = some v := (hb.cell (World.block_lt_of_cell? w a h)).trans h
theorem BodS.len {w : World} {v : Value} {l : List It} (h : BodS w v l) : slLen v = l.length := by
  obtain ⟨css, h1, ⟨ao, cap, rfl, _⟩, _⟩ := h
  rfl
theorem KN.trans {F : Nat → Prop} {a b c : World} (h : KN F a b) (g : KN F b c) (hs : a.heap.size ≤ b.heap.size) : KN F a c := by
  intro k hk hh
  have e := h k hk hh
  have e2 := g k (by omega) (by
    rcases hh with hh | ⟨cs, fr, hh⟩
    · exact .inl hh
    · exact .inr ⟨cs, fr, e.trans hh⟩)
  exact e2.trans e
theorem KN.sub {F G : Nat → Prop} {a b : World} (h : KN G a b) (hg : ∀ k, F k → G k) : KN F a b := fun k hk hh => h k hk (hh.imp (hg k) id)
theorem KN.set {F : Nat → Prop} {w : World} {N i : Nat} {ty : TypeId} {cs : List Value} (h : Blk w N ty cs) (hty : ty ≠ 2) (hN : ¬ F N) (v : Value) : KN F w (w.setCell ⟨N, i, none⟩ v) := by
  intro k hk hh
  refine Below.heap_setCell _ _ _ _ (fun e => ?_)
  simp only at e
  subst e
  rcases hh with hh | ⟨cs', fr, hh⟩
  · exact hN hh
  · unfold Blk at h
    rw [h] at hh
    simp only [Option.some.injEq, Obj.cells.injEq] at hh
    exact hty hh.2.1
end Go.Proofs.YtakfineljffoaaaGreatDoor
namespace Go.Proofs.YtakfineljffoaaaGreatDoor
open Go.RowKit Go.Lib

def Its0 (w : World) (css : List (List Value)) (l : List It) : Prop := css.length = l.length ∧ ∀ i (h1 : i < css.length) (h2 : i < l.length), ItAt w css[i] l[i]
theorem BodS.its {w : World} {v : Value} {l : List It} (h : BodS w v l) : ∃ css, Its0 w css l ∧ Sl w v l.length css.flatten := by
  obtain ⟨css, h1, h2, h3⟩ := h
  exact ⟨css, ⟨h1, h3⟩, h2⟩
theorem Its0.bod {w : World} {v : Value} {l : List It} {css : List (List Value)} (h : Its0 w css l) (hs : Sl w v l.length css.flatten) : BodS w v l := ⟨css, h.1, hs, h.2⟩
theorem Its0.four {w : World} {l : List It} {css : List (List Value)} (h : Its0 w css l) : ∀ c ∈ css, c.length = 4 := by
  intro c hc
  obtain ⟨i, hi, rfl⟩ := List.getElem_of_mem hc
  obtain ⟨_, e, _⟩ := h.2 i hi (by have := h.1; omega)
  rw [e]; rfl
theorem Its0.one {w : World} {l : List It} {css : List (List Value)} (h : Its0 w css l) : ∀ c ∈ css.flatten, c.oneCell' = true := by
  intro c hc
  obtain ⟨d, hd, hcd⟩ := List.mem_flatten.1 hc
  obtain ⟨i, hi, rfl⟩ := List.getElem_of_mem hd
  obtain ⟨u, e, hu⟩ := h.2 i hi (by have := h.1; omega)
  obtain ⟨ao, cap, rfl, -⟩ := hu
  rw [e] at hcd
  simp only [List.mem_cons, List.not_mem_nil, or_false] at hcd
  rcases hcd with rfl | rfl | rfl | rfl <;> rfl
theorem Its0.len {w : World} {l : List It} {css : List (List Value)} (h : Its0 w css l) : css.flatten.length = l.length * 4 := by rw [flatten_len css h.four, h.1]
theorem Its0.below {w w' : World} {l : List It} {css : List (List Value)} (h : Its0 w css l) (hb : Below w.heap.size w w') : Its0 w' css l := ⟨h.1, fun i h1 h2 => (h.2 i h1 h2).below hb⟩
theorem Its0.nil (w : World) : Its0 w [] [] := ⟨rfl, fun i h => by simp at h⟩
theorem Its0.append {w : World} {a b : List It} {cs ds : List (List Value)} (h : Its0 w cs a) (g : Its0 w ds b) : Its0 w (cs ++ ds) (a ++ b) := by
  have hl := h.1
  have gl := g.1
  refine ⟨by simp [hl, gl], fun i h1 h2 => ?_⟩
  by_cases hi : i < cs.length
  · rw [List.getElem_append_left hi, List.getElem_append_left (by omega)]
    exact h.2 i hi (by omega)
  · simp only [List.length_append] at h1 h2
    rw [List.getElem_append_right (by omega), List.getElem_append_right (by omega)]
    simp only [hl]
    exact g.2 (i - a.length) (by omega) (by omega)
theorem Its0.single (w : World) (op : Nat) (A : Int) : Its0 w [[.int .u8 op, .int .i64 A, .int .i64 0, .slice none 0 0]] [⟨op, A, 0, []⟩] := by
  refine ⟨rfl, fun i h1 h2 => ?_⟩
  obtain rfl : i = 0 := by simp at h1; omega
  exact ⟨_, rfl, ⟨none, 0, rfl, by simp, by simp, by simp, .inl rfl⟩⟩
theorem Its0.part {w : World} {l : List It} {css : List (List Value)} (h : Its0 w css l) (i j : Nat) : Its0 w ((css.take j).drop i) ((l.take j).drop i) := by
  have hl := h.1
  refine ⟨by simp [hl], fun k h1 h2 => ?_⟩
  simp only [List.length_drop, List.length_take] at h1 h2
  simp only [List.getElem_drop, List.getElem_take]
  exact h.2 (i + k) (by omega) (by omega)
theorem flatten_take {s : Nat} (css : List (List Value)) (hs : ∀ c ∈ css, c.length = s) : ∀ i, (css.take i).flatten = css.flatten.take (i * s) := by
  induction css with
  | nil => intro i; simp
  | cons c r ih =>
    intro i
    have hc := hs c (by simp)
    cases i with
    | zero => simp
    | succ i => rw [List.take_succ_cons, List.flatten_cons, List.flatten_cons, ih (fun d hd => hs d (by simp [hd])), List.take_append, hc, Nat.succ_mul, List.take_of_length_le (l := c) (by omega), show i * s + s - s = i * s by omega]
theorem flatten_drop {s : Nat} (css : List (List Value)) (hs : ∀ c ∈ css, c.length = s) : ∀ i, (css.drop i).flatten = css.flatten.drop (i * s) := by
  induction css with
  | nil => intro i; simp
  | cons c r ih =>
    intro i
    have hc := hs c (by simp)
    cases i with
    | zero => simp
    | succ i => rw [List.drop_succ_cons, List.flatten_cons, ih (fun d hd => hs d (by simp [hd])), List.drop_append, hc, Nat.succ_mul, List.drop_of_length_le (show c.length ≤ i * s + s by omega), show i * s + s - s = i * s by omega, List.nil_append]
theorem run_lo {P : Program} {T E : TypeId} {z : Value} {size bytes : Nat} (hE : Elem P T E z size bytes) (b off n cap i : Nat) (kl : IntKind) (L : Int) (hL : L = (i : Int)) (hn : i ≤ n) :
    ∃ o, (i < cap → o = off + i * size) ∧ ∀ w : World, (Instr.slice T (.slice (some ⟨b, off, none⟩) n cap) (some (.int kl L)) none none).run P w = .ok (.slice (some ⟨b, o, none⟩) (n - i) (cap - i)) w := by
  obtain ⟨ht, hinfo, hz2, hpos⟩ := hE
  obtain ⟨i0, hi, hz0, hz1, hzb⟩ := info_parts hinfo
  have hel : P.elem T = E := by simp [Program.elem, ht]
  subst hL
  refine ⟨if cap = i then off else off + i * size, fun h => by rw [if_neg (by omega)], fun w => ?_⟩
  rw [run_slice_l (P := P) w T (some ⟨b, off, none⟩) n cap (by rw [hel]; exact ht) kl (i : Int) (by omega) (by omega), hel]
  have hadd : (⟨b, off, none⟩ : Addr).add (i * size) = ⟨b, off + i * size, none⟩ := by
    unfold Addr.add; split <;> simp_all
  by_cases h : cap = i
  · simp [sizeOf, typeInfo, hi, hz1, sliced, h]
  · simp [sizeOf, typeInfo, hi, hz1, sliced, h, hadd]
theorem run_hi {P : Program} {T E : TypeId} {z : Value} {size bytes : Nat} (hE : Elem P T E z size bytes) (b off n cap j : Nat) (kh : IntKind) (H : Int) (hH : H = (j : Int)) (hn : j ≤ cap) (w : World) :
    (Instr.slice T (.slice (some ⟨b, off, none⟩) n cap) none (some (.int kh H)) none).run P w = .ok (.slice (some ⟨b, off, none⟩) j cap) w := by
  obtain ⟨ht, hinfo, hz2, hpos⟩ := hE
  obtain ⟨i0, hi, hz0, hz1, hzb⟩ := info_parts hinfo
  have hel : P.elem T = E := by simp [Program.elem, ht]
  subst hH
  rw [run_slice_h (P := P) w T (some ⟨b, off, none⟩) n cap (by rw [hel]; exact ht) kh (j : Int) (by omega) (by omega), hel]
  have hadd : (⟨b, off, none⟩ : Addr).add 0 = ⟨b, off, none⟩ := by
    unfold Addr.add; split <;> simp_all
  simp [sizeOf, typeInfo, hi, hz1, sliced, hadd]
theorem run_mid {P : Program} {T E : TypeId} {z : Value} {size bytes : Nat} (hE : Elem P T E z size bytes) (b off n cap i j : Nat) (kl kh : IntKind) (L H : Int) (hL : L = (i : Int)) (hH : H = (j : Int)) (hij : i ≤ j) (hn : j ≤ cap) :
    ∃ o, (i < cap → o = off + i * size) ∧ ∀ w : World, (Instr.slice T (.slice (some ⟨b, off, none⟩) n cap) (some (.int kl L)) (some (.int kh H)) none).run P w = .ok (.slice (some ⟨b, o, none⟩) (j - i) (cap - i)) w := by
  obtain ⟨ht, hinfo, hz2, hpos⟩ := hE
  obtain ⟨i0, hi, hz0, hz1, hzb⟩ := info_parts hinfo
  have hel : P.elem T = E := by simp [Program.elem, ht]
  subst hL hH
  refine ⟨if cap = i then off else off + i * size, fun h => by rw [if_neg (by omega)], fun w => ?_⟩
  rw [run_slice_lh (P := P) w T (some ⟨b, off, none⟩) n cap (by rw [hel]; exact ht) kl kh (i : Int) (j : Int) (by omega) (by omega) (by omega), hel]
  have hadd : (⟨b, off, none⟩ : Addr).add (i * size) = ⟨b, off + i * size, none⟩ := by
    unfold Addr.add; split <;> simp_all
  by_cases h : cap = i
  · simp [sizeOf, typeInfo, hi, hz1, sliced, h]
  · simp [sizeOf, typeInfo, hi, hz1, sliced, h, hadd]
theorem BodS.part {w : World} {b off n cap o : Nat} {l : List It} (h : BodS w (.slice (some ⟨b, off, none⟩) n cap) l) (i j : Nat) (hij : i ≤ j) (hj : j ≤ l.length) (ho : i < cap → o = off + i * 4) : BodS w (.slice (some ⟨b, o, none⟩) (j - i) (cap - i)) ((l.take j).drop i) := by
  obtain ⟨css, hI, ⟨ao, cap', hv, hc1, hc2, _, hcs⟩⟩ := h.its
  simp only [Value.slice.injEq] at hv
  obtain ⟨rfl, rfl, rfl⟩ := hv
  have h4 := hI.four
  refine (hI.part i j).bod ⟨_, _, by simp only [List.length_drop, List.length_take]; rw [Nat.min_eq_left hj], by simp only [List.length_drop, List.length_take]; omega, by omega, by simp, ?_⟩
  by_cases he : i = j
  · refine .inl ?_
    subst he
    rw [List.drop_of_length_le (by rw [List.length_take]; exact Nat.min_le_left _ _)]
    rfl
  refine .inr ⟨b, o, rfl, fun k hk => ?_⟩
  have hf : ((css.take j).drop i).flatten = (css.flatten.take (j * 4)).drop (i * 4) := by
    rw [flatten_drop _ (fun c hc => h4 c (List.mem_of_mem_take hc)), flatten_take _ h4]
  rw [ho (by omega)]
  rcases hcs with hcs | ⟨b', off', hao, hat⟩
  · rw [hf, hcs] at hk
    simp at hk
  · simp only [Option.some.injEq, Addr.mk.injEq, and_true] at hao
    obtain ⟨rfl, rfl⟩ := hao
    have hk2 : i * 4 + k < css.flatten.length := by
      rw [hf] at hk
      simp only [List.length_drop, List.length_take] at hk
      omega
    rw [Nat.add_assoc, hat (i * 4 + k) hk2]
    congr 1
    simp only [hf, List.getElem_drop, List.getElem_take]
theorem BodS.drop {w : World} {b off n cap o : Nat} {l : List It} (h : BodS w (.slice (some ⟨b, off, none⟩) n cap) l) (i : Nat) (hi : i ≤ l.length) (ho : i < cap → o = off + i * 4) : BodS w (.slice (some ⟨b, o, none⟩) (n - i) (cap - i)) (l.drop i) := by
  have hn : n = l.length := by
    obtain ⟨css, hI, ⟨ao, cap', hv, _⟩⟩ := h.its
    simp only [Value.slice.injEq] at hv
    exact hv.2.1
  have := h.part i l.length hi (Nat.le_refl _) ho
  rw [List.take_of_length_le (Nat.le_refl _), ← hn] at this
  exact this
theorem BodS.take {w : World} {b off n cap : Nat} {l : List It} (h : BodS w (.slice (some ⟨b, off, none⟩) n cap) l) (j : Nat) (hj : j ≤ l.length) : BodS w (.slice (some ⟨b, off, none⟩) j cap) (l.take j) := by
  have := h.part 0 j (Nat.zero_le _) hj (o := off) (fun _ => by omega)
  simpa using this
theorem BodS.nil (w : World) : BodS w (.slice none 0 0) [] := ⟨[], rfl, ⟨none, 0, rfl, by simp, by simp, by simp, .inl rfl⟩, fun i h => by simp at h⟩
theorem BodS.made (w : World) (op : Nat) (A : Int) (m : Nat) (hm : m = w.heap.size) : BodS (w.alloc (.cells #[.int .u8 op, .int .i64 A, .int .i64 0, .slice none 0 0] 97)) (.slice (some ⟨m, 0, none⟩) 1 1) [⟨op, A, 0, []⟩] := (Its0.single _ op A).bod (Sl.made w _ 1 [.int .u8 op, .int .i64 A, .int .i64 0, .slice none 0 0] m hm (by decide))
def OwnF (W w : World) (base : Nat) (v : Value) (l : List It) : Prop := ∃ css, Its0 W css l ∧ w.ownsRow base 97 4 v l.length css.flatten
theorem OwnF.nil (W w : World) (base : Nat) : OwnF W w base (.slice none 0 0) [] := ⟨[], Its0.nil W, World.ownsRow_nil _ _ _ _⟩
theorem OwnF.bod {W w : World} {base : Nat} {v : Value} {l : List It} (h : OwnF W w base v l) (hb : Below W.heap.size W w) : BodS w v l := by
  obtain ⟨css, h1, h2⟩ := h
  exact (h1.below hb).bod (own_sl h2)
theorem app_bod {ops : Array Oper} {rest : List Oper} {o : Oper} {a : Act} {Q : Exit → Act → World → Prop} {W w : World} {base : Nat} {v u : Value} {l m : List It} (hgd : o.guard = none) (s x : Operand)
    (ho : o.op = .call { callee := .builtin .append, args := #[s, x], argTypes := #[36, 36] })
    (hs : a.eval s = v) (hx : a.eval x = u) (hown : OwnF W w base v l) (hu : BodS W u m) (hW : Below W.heap.size W w)
    (hlen : l.length + m.length ≤ 1000) (hbase : base ≤ w.heap.size)
    (h : ∀ v' w', OwnF W w' base v' (l ++ m) → Below base w w' → slLen v' = l.length + m.length → wpList Tryz.prog ops Q rest (a.put o.dst v') w') : wpList Tryz.prog ops Q (o :: rest) a w := by
  obtain ⟨cs, hc, hr⟩ := hown
  obtain ⟨ds, hd, hsl⟩ := (hu.below hW).its
  obtain ⟨ds', hd', hsl'⟩ := hu.its
  have hq : Sl w u m.length ds'.flatten := hsl'.below hW
  refine app_any elem_insv hgd s x ho hs hx hr hq hd'.len hd'.one (by omega) (by omega) hbase (fun v' w' h1 h2 _ => ?_)
  refine h v' w' ⟨cs ++ ds', hc.append hd', ?_⟩ h2 ?_
  · rw [List.length_append, List.flatten_append]
    exact h1
  · obtain ⟨ao, cap, rfl, _⟩ := own_sl h1
    rfl
end Go.Proofs.YtakfineljffoaaaGreatDoor
