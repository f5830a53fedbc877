/-
  MODULES READ, the program's reader: a section under way: the reader, the module. No condition. Printed by a program of mine.
-/
import Derived.Test.YtakfineljffoaaaGreatDoorGBinReads29
namespace Go.Proofs.YtakfineljffoaaaGreatDoor
open Go.RowKit Go.Lib

def LG {α : Type} (id : Nat) (up : MC → α → MC) (n : Nat) (x : MC) (q : α × SB) : MC × SB := loopM id n (up x q.1) q.2
theorem LG_st {α : Type} {id : Nat} {up : MC → α → MC} {n : Nat} {x : MC} {q : α × SB} (h : q.2.2 ≠ 0) : (LG id up n x q).2 = q.2 := by unfold LG; rw [loop_st h]
theorem loop_go {α : Type} {id : Nat} {up : MC → α → MC} {F : SB → α × SB} {n : Nat} {x : MC} {s : SB} (hs : s.2 = 0) (h : oneM id x s = (up x (F s).1, (F s).2)) : loopM id (n + 1) x s = LG id up n x (F s) := by
  rw [loopM, if_neg (fun g => g hs), h]
  rfl
def up1 (x : MC) (v : Sg) : MC := ({ x.1 with types := x.1.types ++ [v] }, x.2)
def up2 (x : MC) (v : Im) : MC := ({ x.1 with imports := x.1.imports ++ [v] }, x.2)
def up3 (x : MC) (v : Int) : MC := ({ x.1 with funcs := x.1.funcs ++ [(v, [], [])] }, x.2)
def up4 (x : MC) (v : Int) : MC := ({ x.1 with table := v }, x.2)
def up5 (x : MC) (v : Int × Int) : MC := ({ x.1 with pages := v.1, most := v.2 }, x.2)
def up6 (x : MC) (v : Gb) : MC := ({ x.1 with globals := x.1.globals ++ [v] }, x.2)
def up7 (x : MC) (v : Im) : MC := ({ x.1 with exports := x.1.exports ++ [v] }, x.2)
def up9 (x : MC) (v : El) : MC := ({ x.1 with elems := x.1.elems ++ [v] }, x.2)
def up10 (x : MC) (v : Cd) : MC := (x.1, x.2 ++ [v])
def up11 (x : MC) (v : Da) : MC := ({ x.1 with data := x.1.data ++ [v] }, x.2)
/-- the places that a section may turn -/
abbrev FS (M H : Nat) : Nat → Prop := fun k => k = M ∨ H ≤ k
/-- the module as eleven cells: enough for one who throws it away -/
def M11 (w : World) (M : Nat) : Prop := ∃ cs : List Value, cs.length = 11 ∧ Blk w M 30 cs
/-- a section under way -/
structure MS (w0 w : World) (H M B : Nat) (t : ByteArray) (a : Nat) (vt vi vf vg vx ve vd : Value) (m : Mdl) : Prop where
  rd : BrB w B t a
  mo : MO w H M vt vi vf vg vx ve vd m
  tt : Touch (FS M H) w0 w
  hM : M < H
  hB : H ≤ B
  hH : H ≤ w0.heap.size
theorem MS.m11 {w0 w : World} {H M B : Nat} {t : ByteArray} {a : Nat} {vt vi vf vg vx ve vd : Value} {m : Mdl} (h : MS w0 w H M B t a vt vi vf vg vx ve vd m) : M11 w M := ⟨_, rfl, h.mo.blk⟩
theorem MS.size {w0 w : World} {H M B : Nat} {t : ByteArray} {a : Nat} {vt vi vf vg vx ve vd : Value} {m : Mdl} (h : MS w0 w H M B t a vt vi vf vg vx ve vd m) : H ≤ w.heap.size := Nat.le_trans h.hH h.tt.size
theorem MS.bad {w0 w : World} {H M B : Nat} {t : ByteArray} {a : Nat} {vt vi vf vg vx ve vd : Value} {m : Mdl} {w' : World} (h : MS w0 w H M B t a vt vi vf vg vx ve vd m) (ht : Touch (fun k => k = B) w w') : Touch (FS M H) w0 w' ∧ M11 w' M :=
  ⟨h.tt.trans (ht.mono (fun _ _ e => .inr (e ▸ h.hB))), _, rfl, (KT.touch h.rd ht).blk h.mo.blk rfl⟩
theorem MS.read {w0 w : World} {H M B : Nat} {t : ByteArray} {a : Nat} {vt vi vf vg vx ve vd : Value} {m : Mdl} {w' : World} {a' : Nat} (h : MS w0 w H M B t a vt vi vf vg vx ve vd m) (ht : Touch (fun k => k = B) w w') (hb : BrB w' B t a') : MS w0 w' H M B t a' vt vi vf vg vx ve vd m :=
  ⟨hb, h.mo.kt (KT.touch h.rd ht) noM_rd, (h.bad ht).1, h.hM, h.hB, h.hH⟩
theorem MS.below {w0 w : World} {H M B : Nat} {t : ByteArray} {a : Nat} {vt vi vf vg vx ve vd : Value} {m : Mdl} {w' : World} (h : MS w0 w H M B t a vt vi vf vg vx ve vd m) (hb : Below w.heap.size w w') : MS w0 w' H M B t a vt vi vf vg vx ve vd m :=
  ⟨h.rd.below hb, h.mo.kt (KT.below hb) noM_rd, h.tt.trans (Touch.of_below hb), h.hM, h.hB, h.hH⟩
theorem MS.drew {w0 w : World} {H M B : Nat} {t : ByteArray} {a : Nat} {vt vi vf vg vx ve vd : Value} {m : Mdl} (h : MS w0 w H M B t a vt vi vf vg vx ve vd m) : MS w0 w.drew H M B t a vt vi vf vg vx ve vd m := h.below (drew_bel' (n := 1) (Below.refl _ _))
/-- a store into a block of the call's own -/
theorem MS.own {w0 w : World} {H M B : Nat} {t : ByteArray} {a : Nat} {vt vi vf vg vx ve vd : Value} {m : Mdl} (h : MS w0 w H M B t a vt vi vf vg vx ve vd m) {X : Nat} {ty : TypeId} {cs : List Value} (hX : Blk w X ty cs) (hw : w0.heap.size ≤ X) (ht : NoM ty) (ht2 : (46 == ty) = false) (i : Nat) (v : Value) : MS w0 (w.setCell ⟨X, i, none⟩ v) H M B t a vt vi vf vg vx ve vd m := by
  have k := KT.set (i := i) hX v
  exact ⟨k.blk h.rd ht2, h.mo.kt k ht, h.tt.newCell (a := ⟨X, i, none⟩) hw v, h.hM, h.hB, h.hH⟩
theorem MS.pushT {w0 w : World} {H M B : Nat} {t : ByteArray} {a : Nat} {vt vi vf vg vx ve vd : Value} {m : Mdl} {w' : World} {v' : Value} {x : Sg} {cs : List Value} {css : List (List Value)} {n0 : Nat} (h : MS w0 w H M B t a vt vi vf vg vx ve vd m) (hn : m.types.length = n0)
    (hc : css.length = m.types.length ∧ ∀ i (h1 : i < css.length) (h2 : i < m.types.length), ESg w H css[i] m.types[i]) (ho0 : w.ownsRow H 77 2 vt n0 css.flatten) (hx : ESg w H cs x) (hg : w.grownBy w' vt.ownBlock) (ho : w'.ownsRow H 77 2 v' (n0 + 1) (css.flatten ++ cs)) :
    (w'.cell? ⟨M, 0, none⟩ = some vt ∧ w'.frozen? ⟨M, 0, none⟩ = false) ∧ MS w0 (w'.setCell ⟨M, 0, none⟩ v') H M B t a v' vi vf vg vx ve vd { m with types := m.types ++ [x] } := by
  subst hn
  obtain ⟨k, hcell, k2, hm⟩ := h.mo.pushT hc ho0 hx hg ho
  refine ⟨hcell, k2.blk (k.blk h.rd rfl) rfl, hm, ?_, h.hM, h.hB, h.hH⟩
  have h1 : Touch (FS M H) w0 w' := h.tt.trans (Touch.grown hg (fun j hj => .inr ((World.ownsRow.lt ho0 j hj).1)))
  exact h1.trans (Touch.setCell (a := ⟨M, 0, none⟩) (.inl rfl) _)
theorem MS.pushI {w0 w : World} {H M B : Nat} {t : ByteArray} {a : Nat} {vt vi vf vg vx ve vd : Value} {m : Mdl} {w' : World} {v' : Value} {x : Im} {cs : List Value} {css : List (List Value)} {n0 : Nat} (h : MS w0 w H M B t a vt vi vf vg vx ve vd m) (hn : m.imports.length = n0)
    (hc : css.length = m.imports.length ∧ ∀ i (h1 : i < css.length) (h2 : i < m.imports.length), EIm w H css[i] m.imports[i]) (ho0 : w.ownsRow H 81 2 vi n0 css.flatten) (hx : EIm w H cs x) (hg : w.grownBy w' vi.ownBlock) (ho : w'.ownsRow H 81 2 v' (n0 + 1) (css.flatten ++ cs)) :
    (w'.cell? ⟨M, 1, none⟩ = some vi ∧ w'.frozen? ⟨M, 1, none⟩ = false) ∧ MS w0 (w'.setCell ⟨M, 1, none⟩ v') H M B t a vt v' vf vg vx ve vd { m with imports := m.imports ++ [x] } := by
  subst hn
  obtain ⟨k, hcell, k2, hm⟩ := h.mo.pushI hc ho0 hx hg ho
  refine ⟨hcell, k2.blk (k.blk h.rd rfl) rfl, hm, ?_, h.hM, h.hB, h.hH⟩
  have h1 : Touch (FS M H) w0 w' := h.tt.trans (Touch.grown hg (fun j hj => .inr ((World.ownsRow.lt ho0 j hj).1)))
  exact h1.trans (Touch.setCell (a := ⟨M, 1, none⟩) (.inl rfl) _)
theorem MS.pushF {w0 w : World} {H M B : Nat} {t : ByteArray} {a : Nat} {vt vi vf vg vx ve vd : Value} {m : Mdl} {w' : World} {v' : Value} {x : Fn} {cs : List Value} {css : List (List Value)} {n0 : Nat} (h : MS w0 w H M B t a vt vi vf vg vx ve vd m) (hn : m.funcs.length = n0)
    (hc : css.length = m.funcs.length ∧ ∀ i (h1 : i < css.length) (h2 : i < m.funcs.length), EFn w H css[i] m.funcs[i]) (ho0 : w.ownsRow H 66 3 vf n0 css.flatten) (hx : EFn w H cs x) (hg : w.grownBy w' vf.ownBlock) (ho : w'.ownsRow H 66 3 v' (n0 + 1) (css.flatten ++ cs)) :
    (w'.cell? ⟨M, 2, none⟩ = some vf ∧ w'.frozen? ⟨M, 2, none⟩ = false) ∧ MS w0 (w'.setCell ⟨M, 2, none⟩ v') H M B t a vt vi v' vg vx ve vd { m with funcs := m.funcs ++ [x] } := by
  subst hn
  obtain ⟨k, hcell, k2, hm⟩ := h.mo.pushF hc ho0 hx hg ho
  refine ⟨hcell, k2.blk (k.blk h.rd rfl) rfl, hm, ?_, h.hM, h.hB, h.hH⟩
  have h1 : Touch (FS M H) w0 w' := h.tt.trans (Touch.grown hg (fun j hj => .inr ((World.ownsRow.lt ho0 j hj).1)))
  exact h1.trans (Touch.setCell (a := ⟨M, 2, none⟩) (.inl rfl) _)
theorem MS.pushG {w0 w : World} {H M B : Nat} {t : ByteArray} {a : Nat} {vt vi vf vg vx ve vd : Value} {m : Mdl} {w' : World} {v' : Value} {x : Gb} {cs : List Value} {css : List (List Value)} {n0 : Nat} (h : MS w0 w H M B t a vt vi vf vg vx ve vd m) (hn : m.globals.length = n0)
    (hc : css.length = m.globals.length ∧ ∀ i (h1 : i < css.length) (h2 : i < m.globals.length), EGb w H css[i] m.globals[i]) (ho0 : w.ownsRow H 85 3 vg n0 css.flatten) (hx : EGb w H cs x) (hg : w.grownBy w' vg.ownBlock) (ho : w'.ownsRow H 85 3 v' (n0 + 1) (css.flatten ++ cs)) :
    (w'.cell? ⟨M, 6, none⟩ = some vg ∧ w'.frozen? ⟨M, 6, none⟩ = false) ∧ MS w0 (w'.setCell ⟨M, 6, none⟩ v') H M B t a vt vi vf v' vx ve vd { m with globals := m.globals ++ [x] } := by
  subst hn
  obtain ⟨k, hcell, k2, hm⟩ := h.mo.pushG hc ho0 hx hg ho
  refine ⟨hcell, k2.blk (k.blk h.rd rfl) rfl, hm, ?_, h.hM, h.hB, h.hH⟩
  have h1 : Touch (FS M H) w0 w' := h.tt.trans (Touch.grown hg (fun j hj => .inr ((World.ownsRow.lt ho0 j hj).1)))
  exact h1.trans (Touch.setCell (a := ⟨M, 6, none⟩) (.inl rfl) _)
theorem MS.pushX {w0 w : World} {H M B : Nat} {t : ByteArray} {a : Nat} {vt vi vf vg vx ve vd : Value} {m : Mdl} {w' : World} {v' : Value} {x : Im} {cs : List Value} {css : List (List Value)} {n0 : Nat} (h : MS w0 w H M B t a vt vi vf vg vx ve vd m) (hn : m.exports.length = n0)
    (hc : css.length = m.exports.length ∧ ∀ i (h1 : i < css.length) (h2 : i < m.exports.length), EIm w H css[i] m.exports[i]) (ho0 : w.ownsRow H 88 2 vx n0 css.flatten) (hx : EIm w H cs x) (hg : w.grownBy w' vx.ownBlock) (ho : w'.ownsRow H 88 2 v' (n0 + 1) (css.flatten ++ cs)) :
    (w'.cell? ⟨M, 7, none⟩ = some vx ∧ w'.frozen? ⟨M, 7, none⟩ = false) ∧ MS w0 (w'.setCell ⟨M, 7, none⟩ v') H M B t a vt vi vf vg v' ve vd { m with exports := m.exports ++ [x] } := by
  subst hn
  obtain ⟨k, hcell, k2, hm⟩ := h.mo.pushX hc ho0 hx hg ho
  refine ⟨hcell, k2.blk (k.blk h.rd rfl) rfl, hm, ?_, h.hM, h.hB, h.hH⟩
  have h1 : Touch (FS M H) w0 w' := h.tt.trans (Touch.grown hg (fun j hj => .inr ((World.ownsRow.lt ho0 j hj).1)))
  exact h1.trans (Touch.setCell (a := ⟨M, 7, none⟩) (.inl rfl) _)
theorem MS.pushE {w0 w : World} {H M B : Nat} {t : ByteArray} {a : Nat} {vt vi vf vg vx ve vd : Value} {m : Mdl} {w' : World} {v' : Value} {x : El} {cs : List Value} {css : List (List Value)} {n0 : Nat} (h : MS w0 w H M B t a vt vi vf vg vx ve vd m) (hn : m.elems.length = n0)
    (hc : css.length = m.elems.length ∧ ∀ i (h1 : i < css.length) (h2 : i < m.elems.length), EEl w H css[i] m.elems[i]) (ho0 : w.ownsRow H 72 2 ve n0 css.flatten) (hx : EEl w H cs x) (hg : w.grownBy w' ve.ownBlock) (ho : w'.ownsRow H 72 2 v' (n0 + 1) (css.flatten ++ cs)) :
    (w'.cell? ⟨M, 9, none⟩ = some ve ∧ w'.frozen? ⟨M, 9, none⟩ = false) ∧ MS w0 (w'.setCell ⟨M, 9, none⟩ v') H M B t a vt vi vf vg vx v' vd { m with elems := m.elems ++ [x] } := by
  subst hn
  obtain ⟨k, hcell, k2, hm⟩ := h.mo.pushE hc ho0 hx hg ho
  refine ⟨hcell, k2.blk (k.blk h.rd rfl) rfl, hm, ?_, h.hM, h.hB, h.hH⟩
  have h1 : Touch (FS M H) w0 w' := h.tt.trans (Touch.grown hg (fun j hj => .inr ((World.ownsRow.lt ho0 j hj).1)))
  exact h1.trans (Touch.setCell (a := ⟨M, 9, none⟩) (.inl rfl) _)
theorem MS.pushD {w0 w : World} {H M B : Nat} {t : ByteArray} {a : Nat} {vt vi vf vg vx ve vd : Value} {m : Mdl} {w' : World} {v' : Value} {x : Da} {cs : List Value} {css : List (List Value)} {n0 : Nat} (h : MS w0 w H M B t a vt vi vf vg vx ve vd m) (hn : m.data.length = n0)
    (hc : css.length = m.data.length ∧ ∀ i (h1 : i < css.length) (h2 : i < m.data.length), EDa w H css[i] m.data[i]) (ho0 : w.ownsRow H 92 2 vd n0 css.flatten) (hx : EDa w H cs x) (hg : w.grownBy w' vd.ownBlock) (ho : w'.ownsRow H 92 2 v' (n0 + 1) (css.flatten ++ cs)) :
    (w'.cell? ⟨M, 10, none⟩ = some vd ∧ w'.frozen? ⟨M, 10, none⟩ = false) ∧ MS w0 (w'.setCell ⟨M, 10, none⟩ v') H M B t a vt vi vf vg vx ve v' { m with data := m.data ++ [x] } := by
  subst hn
  obtain ⟨k, hcell, k2, hm⟩ := h.mo.pushD hc ho0 hx hg ho
  refine ⟨hcell, k2.blk (k.blk h.rd rfl) rfl, hm, ?_, h.hM, h.hB, h.hH⟩
  have h1 : Touch (FS M H) w0 w' := h.tt.trans (Touch.grown hg (fun j hj => .inr ((World.ownsRow.lt ho0 j hj).1)))
  exact h1.trans (Touch.setCell (a := ⟨M, 10, none⟩) (.inl rfl) _)
theorem MS.set_table {w0 w : World} {H M B : Nat} {t : ByteArray} {a : Nat} {vt vi vf vg vx ve vd : Value} {m : Mdl} (h : MS w0 w H M B t a vt vi vf vg vx ve vd m) (n : Int) : MS w0 (w.setCell ⟨M, 3, none⟩ (.int .i64 n)) H M B t a vt vi vf vg vx ve vd { m with table := n } := by
  obtain ⟨k, hm⟩ := h.mo.set_table n
  exact ⟨k.blk h.rd rfl, hm, h.tt.trans (Touch.setCell (a := ⟨M, 3, none⟩) (.inl rfl) _), h.hM, h.hB, h.hH⟩
theorem MS.set_pages {w0 w : World} {H M B : Nat} {t : ByteArray} {a : Nat} {vt vi vf vg vx ve vd : Value} {m : Mdl} (h : MS w0 w H M B t a vt vi vf vg vx ve vd m) (n : Int) : MS w0 (w.setCell ⟨M, 4, none⟩ (.int .i64 n)) H M B t a vt vi vf vg vx ve vd { m with pages := n } := by
  obtain ⟨k, hm⟩ := h.mo.set_pages n
  exact ⟨k.blk h.rd rfl, hm, h.tt.trans (Touch.setCell (a := ⟨M, 4, none⟩) (.inl rfl) _), h.hM, h.hB, h.hH⟩
theorem MS.set_most {w0 w : World} {H M B : Nat} {t : ByteArray} {a : Nat} {vt vi vf vg vx ve vd : Value} {m : Mdl} (h : MS w0 w H M B t a vt vi vf vg vx ve vd m) (n : Int) : MS w0 (w.setCell ⟨M, 5, none⟩ (.int .i64 n)) H M B t a vt vi vf vg vx ve vd { m with most := n } := by
  obtain ⟨k, hm⟩ := h.mo.set_most n
  exact ⟨k.blk h.rd rfl, hm, h.tt.trans (Touch.setCell (a := ⟨M, 5, none⟩) (.inl rfl) _), h.hM, h.hB, h.hH⟩
theorem MS.set_start {w0 w : World} {H M B : Nat} {t : ByteArray} {a : Nat} {vt vi vf vg vx ve vd : Value} {m : Mdl} (h : MS w0 w H M B t a vt vi vf vg vx ve vd m) (n : Int) : MS w0 (w.setCell ⟨M, 8, none⟩ (.int .i64 n)) H M B t a vt vi vf vg vx ve vd { m with start := n } := by
  obtain ⟨k, hm⟩ := h.mo.set_start n
  exact ⟨k.blk h.rd rfl, hm, h.tt.trans (Touch.setCell (a := ⟨M, 8, none⟩) (.inl rfl) _), h.hM, h.hB, h.hH⟩
theorem KT.apart {bad : TypeId} {w w' : World} {B : Nat} {cs : List Value} (h : Blk w B bad cs) (ht : Touch (fun k => k = B ∨ w.heap.size ≤ k) w w') : KT bad w w' := by
  refine ⟨ht.size, fun k cs' ty fr hne hk => ht.block k (lt_of_block hk) (fun hf => ?_)⟩
  rcases hf with rfl | hf
  · unfold Blk at h
    rw [h] at hk
    simp only [Option.some.injEq, Obj.cells.injEq] at hk
    rw [hk.2.1] at hne
    simp at hne
  · have := lt_of_block hk
    omega
/-- a section under way, and a block X of a part that is being read -/
structure MX (w0 ws w : World) (H M B : Nat) (t : ByteArray) (a : Nat) (vt vi vf vg vx ve vd : Value) (m : Mdl) (X : Nat) (ty : TypeId) (cs : List Value) : Prop where
  s : ∃ a0, MS w0 ws H M B t a0 vt vi vf vg vx ve vd m
  rd : BrB w B t a
  x : Blk w X ty cs
  tx : Touch (fun k => k = B ∨ ws.heap.size ≤ k) ws w
  hX : ws.heap.size ≤ X
  ne : X ≠ B
theorem MX.kt {w0 ws w : World} {H M B : Nat} {t : ByteArray} {a : Nat} {vt vi vf vg vx ve vd : Value} {m : Mdl} {X : Nat} {ty : TypeId} {cs : List Value} (h : MX w0 ws w H M B t a vt vi vf vg vx ve vd m X ty cs) : KT 46 ws w := by
  obtain ⟨a0, g⟩ := h.s
  exact KT.apart g.rd h.tx
theorem MX.ms {w0 ws w : World} {H M B : Nat} {t : ByteArray} {a : Nat} {vt vi vf vg vx ve vd : Value} {m : Mdl} {X : Nat} {ty : TypeId} {cs : List Value} (h : MX w0 ws w H M B t a vt vi vf vg vx ve vd m X ty cs) : MS w0 w H M B t a vt vi vf vg vx ve vd m := by
  obtain ⟨a0, g⟩ := h.s
  have hz := g.size
  exact ⟨h.rd, g.mo.kt h.kt noM_rd, g.tt.trans (h.tx.mono (fun k _ e => by rcases e with rfl | e; exact .inr g.hB; exact .inr (Nat.le_trans hz e))), g.hM, g.hB, g.hH⟩
theorem MX.bad {w0 ws w w' : World} {H M B : Nat} {t : ByteArray} {a : Nat} {vt vi vf vg vx ve vd : Value} {m : Mdl} {X : Nat} {ty : TypeId} {cs : List Value} (h : MX w0 ws w H M B t a vt vi vf vg vx ve vd m X ty cs) (ht : Touch (fun k => k = B) w w') : Touch (FS M H) w0 w' ∧ M11 w' M := h.ms.bad ht
theorem MX.m11 {w0 ws w : World} {H M B : Nat} {t : ByteArray} {a : Nat} {vt vi vf vg vx ve vd : Value} {m : Mdl} {X : Nat} {ty : TypeId} {cs : List Value} (h : MX w0 ws w H M B t a vt vi vf vg vx ve vd m X ty cs) : M11 w M := h.ms.m11
theorem MX.tt {w0 ws w : World} {H M B : Nat} {t : ByteArray} {a : Nat} {vt vi vf vg vx ve vd : Value} {m : Mdl} {X : Nat} {ty : TypeId} {cs : List Value} (h : MX w0 ws w H M B t a vt vi vf vg vx ve vd m X ty cs) : Touch (FS M H) w0 w := h.ms.tt
theorem MX.read {w0 ws w w' : World} {H M B : Nat} {t : ByteArray} {a a' : Nat} {vt vi vf vg vx ve vd : Value} {m : Mdl} {X : Nat} {ty : TypeId} {cs : List Value} (h : MX w0 ws w H M B t a vt vi vf vg vx ve vd m X ty cs) (ht : Touch (fun k => k = B) w w') (hb : BrB w' B t a') : MX w0 ws w' H M B t a' vt vi vf vg vx ve vd m X ty cs :=
  ⟨h.s, hb, h.x.touch ht (fun e => h.ne e), h.tx.trans' ht (fun _ _ e => .inl e), h.hX, h.ne⟩
theorem MX.below {w0 ws w w' : World} {H M B : Nat} {t : ByteArray} {a : Nat} {vt vi vf vg vx ve vd : Value} {m : Mdl} {X : Nat} {ty : TypeId} {cs : List Value} (h : MX w0 ws w H M B t a vt vi vf vg vx ve vd m X ty cs) (hb : Below w.heap.size w w') : MX w0 ws w' H M B t a vt vi vf vg vx ve vd m X ty cs :=
  ⟨h.s, h.rd.below hb, h.x.below hb, h.tx.trans (Touch.of_below hb), h.hX, h.ne⟩
theorem MX.drew {w0 ws w : World} {H M B : Nat} {t : ByteArray} {a : Nat} {vt vi vf vg vx ve vd : Value} {m : Mdl} {X : Nat} {ty : TypeId} {cs : List Value} (h : MX w0 ws w H M B t a vt vi vf vg vx ve vd m X ty cs) : MX w0 ws w.drew H M B t a vt vi vf vg vx ve vd m X ty cs := h.below (drew_bel' (n := 1) (Below.refl _ _))
theorem MX.set {w0 ws w : World} {H M B : Nat} {t : ByteArray} {a : Nat} {vt vi vf vg vx ve vd : Value} {m : Mdl} {X : Nat} {ty : TypeId} {cs : List Value} (h : MX w0 ws w H M B t a vt vi vf vg vx ve vd m X ty cs) (i : Nat) (v : Value) : MX w0 ws (w.setCell ⟨X, i, none⟩ v) H M B t a vt vi vf vg vx ve vd m X ty (cs.set i v) :=
  ⟨h.s, h.rd.other (a := ⟨X, i, none⟩) h.ne v, h.x.set i v, h.tx.trans (Touch.setCell (a := ⟨X, i, none⟩) (.inr h.hX) v), h.hX, h.ne⟩
theorem MX.new {w0 ws : World} {H M B : Nat} {t : ByteArray} {a : Nat} {vt vi vf vg vx ve vd : Value} {m : Mdl} (h : MS w0 ws H M B t a vt vi vf vg vx ve vd m) (cs : Array Value) (ty : TypeId) : MX w0 ws (ws.alloc (.cells cs ty)) H M B t a vt vi vf vg vx ve vd m ws.heap.size ty cs.toList :=
  ⟨⟨a, h⟩, h.rd.alloc _, Blk.new ws cs ty _ rfl, (Touch.refl _ _).alloc _, Nat.le_refl _, Nat.ne_of_gt h.rd.lt⟩
theorem MX.xkeep {w0 ws w w' : World} {H M B : Nat} {t : ByteArray} {a : Nat} {vt vi vf vg vx ve vd : Value} {m : Mdl} {X : Nat} {ty : TypeId} {cs : List Value} (h : MX w0 ws w H M B t a vt vi vf vg vx ve vd m X ty cs) {v : Value} (hv : ∀ k, v.ownBlock = some k → k < ws.heap.size) (hg : w.grownBy w' v.ownBlock) : Blk w' X ty cs :=
  h.x.touch (Touch.grown (F := fun k => v.ownBlock = some k) hg (fun _ e => e)) (fun e => by have := hv X e; have := h.hX; omega)
/-- one number more in the row of the block's second cell -/
theorem MX.pushI {w0 ws w w' : World} {H M B : Nat} {t : ByteArray} {a : Nat} {vt vi vf vg vx ve vd : Value} {m : Mdl} {X : Nat} {ty : TypeId} {c u u' : Value} {xs ys : List Int} (h : MX w0 ws w H M B t a vt vi vf vg vx ve vd m X ty [c, u]) (hty : (ty == 3) = false) (ho : OwnI w ws.heap.size .i64 3 u xs) (hg : w.grownBy w' u.ownBlock) (ho' : OwnI w' ws.heap.size .i64 3 u' ys) :
    (w'.cell? ⟨X, 1, none⟩ = some u ∧ w'.frozen? ⟨X, 1, none⟩ = false) ∧ MX w0 ws (w'.setCell ⟨X, 1, none⟩ u') H M B t a vt vi vf vg vx ve vd m X ty [c, u'] ∧ OwnI (w'.setCell ⟨X, 1, none⟩ u') ws.heap.size .i64 3 u' ys := by
  have k : KT 3 w w' := KT.grown hg ho
  have hx := k.blk h.x hty
  have h1 : MX w0 ws w' H M B t a vt vi vf vg vx ve vd m X ty [c, u] := ⟨h.s, k.blk h.rd rfl, hx, h.tx.trans (Touch.grown hg (fun j hj => .inr ((World.ownsRow.lt ho j hj).1))), h.hX, h.ne⟩
  have k2 : KT ty w' (w'.setCell ⟨X, 1, none⟩ u') := KT.set hx u'
  exact ⟨⟨hx.cell (i := 1) rfl, hx.free 1⟩, h1.set 1 u', k2.own ho' (by rw [beq_eq_false_iff_ne] at hty ⊢; exact fun e => hty e.symm)⟩
/-- the reader goes on -/
theorem MX.adv {w0 ws w : World} {H M B : Nat} {t : ByteArray} {a : Nat} {vt vi vf vg vx ve vd : Value} {m : Mdl} {X : Nat} {ty : TypeId} {cs : List Value} (h : MX w0 ws w H M B t a vt vi vf vg vx ve vd m X ty cs) (b : Nat) : MX w0 ws (w.setCell ⟨B, 1, none⟩ (.int .i64 (b : Int))) H M B t b vt vi vf vg vx ve vd m X ty cs :=
  h.read (Touch.setCell (F := fun k => k = B) (a := ⟨B, 1, none⟩) rfl _) (h.rd.set 1 (.int .i64 (b : Int)))
/-- what a section leaves: the module fin, n codes; q: the model's answer -/
def PSec (H M B : Nat) (t : ByteArray) (v : Value) (fin : Mdl) (s : SB) (w : World) (e : Ending) (w' : World) : Prop :=
  Touch (FS M H) w w' ∧ ((s.2 = 0 ∧ e = .returned v ∧ ∃ vt vi vf vg vx ve vd a, a ≤ t.size ∧ s.1 = left t a ∧ MO w' H M vt vi vf vg vx ve vd fin ∧ BrB w' B t a) ∨ (s.2 ≠ 0 ∧ e = .panicked [{ v := wrongV s.2, recovered := false }] ∧ M11 w' M))
end Go.Proofs.YtakfineljffoaaaGreatDoor
