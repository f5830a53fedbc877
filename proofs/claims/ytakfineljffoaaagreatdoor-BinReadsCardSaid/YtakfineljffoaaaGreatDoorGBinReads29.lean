/-
  MODULES READ: a module under way in memory: its block and its seven rows. No condition. Printed by a program of mine.
-/
import Derived.Test.YtakfineljffoaaaGreatDoorGBinReads27
import Derived.Test.YtakfineljffoaaaGreatDoorGBinReads28
namespace Go.Proofs.YtakfineljffoaaaGreatDoor
open Go.RowKit Go.Lib

/-- a row that the call owns, its elements read by E -/
def OwR {α : Type} (E : World → Nat → List Value → α → Prop) (ty : TypeId) (sz : Nat) (w : World) (base : Nat) (v : Value) (l : List α) : Prop :=
  ∃ css : List (List Value), (css.length = l.length ∧ ∀ i (h1 : i < css.length) (h2 : i < l.length), E w base css[i] l[i]) ∧ w.ownsRow base ty sz v l.length css.flatten
theorem OwR.nil {α : Type} (E : World → Nat → List Value → α → Prop) (ty : TypeId) (sz : Nat) (w : World) (base : Nat) : OwR E ty sz w base (.slice none 0 0) [] := ⟨[], ⟨rfl, fun i h => by simp at h⟩, World.ownsRow_nil _ _ _ _⟩
theorem OwR.keep {α : Type} {E : World → Nat → List Value → α → Prop} {ty bad : TypeId} {sz : Nat} {w w' : World} {base : Nat} {v : Value} {l : List α} (h : OwR E ty sz w base v l) (k : KT bad w w') (ht : (ty == bad) = false) (hE : ∀ cs x, E w base cs x → E w' base cs x) : OwR E ty sz w' base v l := by
  obtain ⟨css, ⟨h1, h2⟩, h3⟩ := h
  exact ⟨css, ⟨h1, fun i g1 g2 => hE _ _ (h2 i g1 g2)⟩, k.own h3 ht⟩
theorem OwR.push {α : Type} {E : World → Nat → List Value → α → Prop} {ty : TypeId} {sz : Nat} {w w' : World} {base : Nat} {v' : Value} {l : List α} {css : List (List Value)} (h : css.length = l.length ∧ ∀ i (h1 : i < css.length) (h2 : i < l.length), E w base css[i] l[i]) {cs : List Value} {x : α} (hx : E w base cs x) (hE : ∀ cs x, E w base cs x → E w' base cs x)
    (ho : w'.ownsRow base ty sz v' (l.length + 1) (css.flatten ++ cs)) : OwR E ty sz w' base v' (l ++ [x]) := by
  obtain ⟨h1, h2⟩ := h
  refine ⟨css ++ [cs], ⟨by simp [h1], fun i g1 g2 => ?_⟩, by simpa using ho⟩
  by_cases hi : i < css.length
  · rw [List.getElem_append_left hi, List.getElem_append_left (by omega)]
    exact hE _ _ (h2 i hi (by omega))
  · obtain rfl : i = css.length := by simp at g1; omega
    rw [List.getElem_append_right (Nat.le_refl _), List.getElem_append_right (by omega)]
    simp only [h1, Nat.sub_self, List.getElem_cons_zero]
    exact hE _ _ hx
theorem OwnB.ktG {bad : TypeId} {w w' : World} {base : Nat} {v : Value} {l : List It} (h : OwnB w base v l) (k : KT bad w w') (h1 : (97 == bad) = false) (h2 : (2 == bad) = false) : OwnB w' base v l := by
  obtain ⟨css, ⟨g1, g2⟩, g3⟩ := h
  refine ⟨css, ⟨g1, fun i i1 i2 => ?_⟩, k.own g3 h1⟩
  obtain ⟨u, e, ho⟩ := g2 i i1 i2
  exact ⟨u, e, k.own ho h2⟩
theorem OwnB.mono {w : World} {base b : Nat} {v : Value} {l : List It} (h : OwnB w base v l) (hb : b ≤ base) : OwnB w b v l := by
  obtain ⟨css, ⟨g1, g2⟩, g3⟩ := h
  refine ⟨css, ⟨g1, fun i i1 i2 => ?_⟩, own_mono' g3 hb⟩
  obtain ⟨u, e, ho⟩ := g2 i i1 i2
  exact ⟨u, e, own_mono' ho hb⟩
def ESg (w : World) (b : Nat) (cs : List Value) (x : Sg) : Prop := ∃ u v, cs = [u, v] ∧ OwnI w b .u8 68 u x.1 ∧ OwnI w b .u8 68 v x.2
def EIm (_w : World) (_b : Nat) (cs : List Value) (x : Im) : Prop := cs = [.string x.1, .int .i64 x.2]
def EFn (w : World) (b : Nat) (cs : List Value) (x : Fn) : Prop := ∃ u v, cs = [.int .i64 x.1, u, v] ∧ OwnI w b .u8 68 u x.2.1 ∧ OwnB w b v x.2.2
def EGb (_w : World) (_b : Nat) (cs : List Value) (x : Gb) : Prop := cs = [.int .u8 x.1, .bool x.2.1, .int .i64 x.2.2]
def EEl (w : World) (b : Nat) (cs : List Value) (x : El) : Prop := ∃ u, cs = [.int .i64 x.1, u] ∧ OwnI w b .i64 3 u x.2
def EDa (_w : World) (_b : Nat) (cs : List Value) (x : Da) : Prop := cs = [.int .i64 x.1, .string x.2]
/-- the inner rows' types are not bad -/
structure Inn (bad : TypeId) : Prop where
  k : (68 == bad) = false
  s : (97 == bad) = false
  l : (2 == bad) = false
  i : (3 == bad) = false
theorem ESg.kt {bad : TypeId} {w w' : World} {b : Nat} (k : KT bad w w') (hi : Inn bad) (cs : List Value) (x : Sg) (h : ESg w b cs x) : ESg w' b cs x := by
  obtain ⟨u, v, e, h1, h2⟩ := h
  exact ⟨u, v, e, k.own h1 hi.k, k.own h2 hi.k⟩
theorem EFn.kt {bad : TypeId} {w w' : World} {b : Nat} (k : KT bad w w') (hi : Inn bad) (cs : List Value) (x : Fn) (h : EFn w b cs x) : EFn w' b cs x := by
  obtain ⟨u, v, e, h1, h2⟩ := h
  exact ⟨u, v, e, k.own h1 hi.k, h2.ktG k hi.s hi.l⟩
theorem EEl.kt {bad : TypeId} {w w' : World} {b : Nat} (k : KT bad w w') (hi : Inn bad) (cs : List Value) (x : El) (h : EEl w b cs x) : EEl w' b cs x := by
  obtain ⟨u, e, h1⟩ := h
  exact ⟨u, e, k.own h1 hi.i⟩
theorem EIm.kt {bad : TypeId} {w w' : World} {b : Nat} (_ : KT bad w w') (_ : Inn bad) (cs : List Value) (x : Im) (h : EIm w b cs x) : EIm w' b cs x := h
theorem EGb.kt {bad : TypeId} {w w' : World} {b : Nat} (_ : KT bad w w') (_ : Inn bad) (cs : List Value) (x : Gb) (h : EGb w b cs x) : EGb w' b cs x := h
theorem EDa.kt {bad : TypeId} {w w' : World} {b : Nat} (_ : KT bad w w') (_ : Inn bad) (cs : List Value) (x : Da) (h : EDa w b cs x) : EDa w' b cs x := h
/-- a module's block and its rows -/
structure MO (w : World) (H M : Nat) (vt vi vf vg vx ve vd : Value) (m : Mdl) : Prop where
  blk : Blk w M 30 [vt, vi, vf, .int .i64 m.table, .int .i64 m.pages, .int .i64 m.most, vg, vx, .int .i64 m.start, ve, vd]
  t : OwR ESg 77 2 w H vt m.types
  i : OwR EIm 81 2 w H vi m.imports
  f : OwR EFn 66 3 w H vf m.funcs
  g : OwR EGb 85 3 w H vg m.globals
  x : OwR EIm 88 2 w H vx m.exports
  e : OwR EEl 72 2 w H ve m.elems
  d : OwR EDa 92 2 w H vd m.data
/-- no type of a module is bad -/
structure NoM (bad : TypeId) : Prop extends Inn bad where
  m : (30 == bad) = false
  rt : (77 == bad) = false
  ri : (81 == bad) = false
  rf : (66 == bad) = false
  rg : (85 == bad) = false
  rx : (88 == bad) = false
  re : (72 == bad) = false
  rd : (92 == bad) = false
theorem noM_rd : NoM 46 := by constructor <;> first | rfl | (constructor <;> rfl)
theorem noM_cu : NoM 58 := by constructor <;> first | rfl | (constructor <;> rfl)
theorem MO.kt {bad : TypeId} {w w' : World} {H M : Nat} {vt vi vf vg vx ve vd : Value} {m : Mdl} (h : MO w H M vt vi vf vg vx ve vd m) (k : KT bad w w') (hb : NoM bad) : MO w' H M vt vi vf vg vx ve vd m :=
  ⟨k.blk h.blk hb.m, h.t.keep k hb.rt (ESg.kt k hb.toInn), h.i.keep k hb.ri (EIm.kt k hb.toInn), h.f.keep k hb.rf (EFn.kt k hb.toInn), h.g.keep k hb.rg (EGb.kt k hb.toInn), h.x.keep k hb.rx (EIm.kt k hb.toInn), h.e.keep k hb.re (EEl.kt k hb.toInn), h.d.keep k hb.rd (EDa.kt k hb.toInn)⟩
theorem elem_sigv : Elem Tryz.prog 22 77 (.agg #[.slice none 0 0, .slice none 0 0]) 2 48 := ⟨Tryz.underlying22, by kernel_rfl, rfl, by decide⟩
/-- one element more in types -/
theorem MO.pushT {w w' : World} {H M : Nat} {vt vi vf vg vx ve vd : Value} {m : Mdl} {v' : Value} {x : Sg} {cs : List Value} {css : List (List Value)} (h : MO w H M vt vi vf vg vx ve vd m)
    (hc : css.length = m.types.length ∧ ∀ i (h1 : i < css.length) (h2 : i < m.types.length), ESg w H css[i] m.types[i]) (ho0 : w.ownsRow H 77 2 vt m.types.length css.flatten) (hx : ESg w H cs x) (hg : w.grownBy w' vt.ownBlock) (ho : w'.ownsRow H 77 2 v' (m.types.length + 1) (css.flatten ++ cs)) :
    KT 77 w w' ∧ (w'.cell? ⟨M, 0, none⟩ = some vt ∧ w'.frozen? ⟨M, 0, none⟩ = false) ∧ KT 30 w' (w'.setCell ⟨M, 0, none⟩ v') ∧ MO (w'.setCell ⟨M, 0, none⟩ v') H M v' vi vf vg vx ve vd { m with types := m.types ++ [x] } := by
  have k : KT 77 w w' := KT.grown hg ho0
  have hi : Inn 77 := by constructor <;> rfl
  have hm := k.blk h.blk rfl
  have k2 : KT 30 w' (w'.setCell ⟨M, 0, none⟩ v') := KT.set hm v'
  have hi2 : Inn 30 := by constructor <;> rfl
  refine ⟨k, ⟨hm.cell (i := 0) rfl, hm.free 0⟩, k2, hm.set 0 v', (OwR.push hc hx (ESg.kt k hi) ho).keep k2 rfl (ESg.kt k2 hi2), (h.i.keep k rfl (EIm.kt k hi)).keep k2 rfl (EIm.kt k2 hi2), (h.f.keep k rfl (EFn.kt k hi)).keep k2 rfl (EFn.kt k2 hi2), (h.g.keep k rfl (EGb.kt k hi)).keep k2 rfl (EGb.kt k2 hi2), (h.x.keep k rfl (EIm.kt k hi)).keep k2 rfl (EIm.kt k2 hi2), (h.e.keep k rfl (EEl.kt k hi)).keep k2 rfl (EEl.kt k2 hi2), (h.d.keep k rfl (EDa.kt k hi)).keep k2 rfl (EDa.kt k2 hi2)⟩
theorem elem_importv : Elem Tryz.prog 23 81 (.agg #[.string ⟨#[]⟩, .int .i64 0]) 2 24 := ⟨Tryz.underlying23, by kernel_rfl, rfl, by decide⟩
/-- one element more in imports -/
theorem MO.pushI {w w' : World} {H M : Nat} {vt vi vf vg vx ve vd : Value} {m : Mdl} {v' : Value} {x : Im} {cs : List Value} {css : List (List Value)} (h : MO w H M vt vi vf vg vx ve vd m)
    (hc : css.length = m.imports.length ∧ ∀ i (h1 : i < css.length) (h2 : i < m.imports.length), EIm w H css[i] m.imports[i]) (ho0 : w.ownsRow H 81 2 vi m.imports.length css.flatten) (hx : EIm w H cs x) (hg : w.grownBy w' vi.ownBlock) (ho : w'.ownsRow H 81 2 v' (m.imports.length + 1) (css.flatten ++ cs)) :
    KT 81 w w' ∧ (w'.cell? ⟨M, 1, none⟩ = some vi ∧ w'.frozen? ⟨M, 1, none⟩ = false) ∧ KT 30 w' (w'.setCell ⟨M, 1, none⟩ v') ∧ MO (w'.setCell ⟨M, 1, none⟩ v') H M vt v' vf vg vx ve vd { m with imports := m.imports ++ [x] } := by
  have k : KT 81 w w' := KT.grown hg ho0
  have hi : Inn 81 := by constructor <;> rfl
  have hm := k.blk h.blk rfl
  have k2 : KT 30 w' (w'.setCell ⟨M, 1, none⟩ v') := KT.set hm v'
  have hi2 : Inn 30 := by constructor <;> rfl
  refine ⟨k, ⟨hm.cell (i := 1) rfl, hm.free 1⟩, k2, hm.set 1 v', (h.t.keep k rfl (ESg.kt k hi)).keep k2 rfl (ESg.kt k2 hi2), (OwR.push hc hx (EIm.kt k hi) ho).keep k2 rfl (EIm.kt k2 hi2), (h.f.keep k rfl (EFn.kt k hi)).keep k2 rfl (EFn.kt k2 hi2), (h.g.keep k rfl (EGb.kt k hi)).keep k2 rfl (EGb.kt k2 hi2), (h.x.keep k rfl (EIm.kt k hi)).keep k2 rfl (EIm.kt k2 hi2), (h.e.keep k rfl (EEl.kt k hi)).keep k2 rfl (EEl.kt k2 hi2), (h.d.keep k rfl (EDa.kt k hi)).keep k2 rfl (EDa.kt k2 hi2)⟩
theorem elem_funcv : Elem Tryz.prog 24 66 (.agg #[.int .i64 0, .slice none 0 0, .slice none 0 0]) 3 56 := ⟨Tryz.underlying24, by kernel_rfl, rfl, by decide⟩
/-- one element more in funcs -/
theorem MO.pushF {w w' : World} {H M : Nat} {vt vi vf vg vx ve vd : Value} {m : Mdl} {v' : Value} {x : Fn} {cs : List Value} {css : List (List Value)} (h : MO w H M vt vi vf vg vx ve vd m)
    (hc : css.length = m.funcs.length ∧ ∀ i (h1 : i < css.length) (h2 : i < m.funcs.length), EFn w H css[i] m.funcs[i]) (ho0 : w.ownsRow H 66 3 vf m.funcs.length css.flatten) (hx : EFn w H cs x) (hg : w.grownBy w' vf.ownBlock) (ho : w'.ownsRow H 66 3 v' (m.funcs.length + 1) (css.flatten ++ cs)) :
    KT 66 w w' ∧ (w'.cell? ⟨M, 2, none⟩ = some vf ∧ w'.frozen? ⟨M, 2, none⟩ = false) ∧ KT 30 w' (w'.setCell ⟨M, 2, none⟩ v') ∧ MO (w'.setCell ⟨M, 2, none⟩ v') H M vt vi v' vg vx ve vd { m with funcs := m.funcs ++ [x] } := by
  have k : KT 66 w w' := KT.grown hg ho0
  have hi : Inn 66 := by constructor <;> rfl
  have hm := k.blk h.blk rfl
  have k2 : KT 30 w' (w'.setCell ⟨M, 2, none⟩ v') := KT.set hm v'
  have hi2 : Inn 30 := by constructor <;> rfl
  refine ⟨k, ⟨hm.cell (i := 2) rfl, hm.free 2⟩, k2, hm.set 2 v', (h.t.keep k rfl (ESg.kt k hi)).keep k2 rfl (ESg.kt k2 hi2), (h.i.keep k rfl (EIm.kt k hi)).keep k2 rfl (EIm.kt k2 hi2), (OwR.push hc hx (EFn.kt k hi) ho).keep k2 rfl (EFn.kt k2 hi2), (h.g.keep k rfl (EGb.kt k hi)).keep k2 rfl (EGb.kt k2 hi2), (h.x.keep k rfl (EIm.kt k hi)).keep k2 rfl (EIm.kt k2 hi2), (h.e.keep k rfl (EEl.kt k hi)).keep k2 rfl (EEl.kt k2 hi2), (h.d.keep k rfl (EDa.kt k hi)).keep k2 rfl (EDa.kt k2 hi2)⟩
theorem elem_globalv : Elem Tryz.prog 25 85 (.agg #[.int .u8 0, .bool false, .int .i64 0]) 3 16 := ⟨Tryz.underlying25, by kernel_rfl, rfl, by decide⟩
/-- one element more in globals -/
theorem MO.pushG {w w' : World} {H M : Nat} {vt vi vf vg vx ve vd : Value} {m : Mdl} {v' : Value} {x : Gb} {cs : List Value} {css : List (List Value)} (h : MO w H M vt vi vf vg vx ve vd m)
    (hc : css.length = m.globals.length ∧ ∀ i (h1 : i < css.length) (h2 : i < m.globals.length), EGb w H css[i] m.globals[i]) (ho0 : w.ownsRow H 85 3 vg m.globals.length css.flatten) (hx : EGb w H cs x) (hg : w.grownBy w' vg.ownBlock) (ho : w'.ownsRow H 85 3 v' (m.globals.length + 1) (css.flatten ++ cs)) :
    KT 85 w w' ∧ (w'.cell? ⟨M, 6, none⟩ = some vg ∧ w'.frozen? ⟨M, 6, none⟩ = false) ∧ KT 30 w' (w'.setCell ⟨M, 6, none⟩ v') ∧ MO (w'.setCell ⟨M, 6, none⟩ v') H M vt vi vf v' vx ve vd { m with globals := m.globals ++ [x] } := by
  have k : KT 85 w w' := KT.grown hg ho0
  have hi : Inn 85 := by constructor <;> rfl
  have hm := k.blk h.blk rfl
  have k2 : KT 30 w' (w'.setCell ⟨M, 6, none⟩ v') := KT.set hm v'
  have hi2 : Inn 30 := by constructor <;> rfl
  refine ⟨k, ⟨hm.cell (i := 6) rfl, hm.free 6⟩, k2, hm.set 6 v', (h.t.keep k rfl (ESg.kt k hi)).keep k2 rfl (ESg.kt k2 hi2), (h.i.keep k rfl (EIm.kt k hi)).keep k2 rfl (EIm.kt k2 hi2), (h.f.keep k rfl (EFn.kt k hi)).keep k2 rfl (EFn.kt k2 hi2), (OwR.push hc hx (EGb.kt k hi) ho).keep k2 rfl (EGb.kt k2 hi2), (h.x.keep k rfl (EIm.kt k hi)).keep k2 rfl (EIm.kt k2 hi2), (h.e.keep k rfl (EEl.kt k hi)).keep k2 rfl (EEl.kt k2 hi2), (h.d.keep k rfl (EDa.kt k hi)).keep k2 rfl (EDa.kt k2 hi2)⟩
theorem elem_exportv : Elem Tryz.prog 26 88 (.agg #[.string ⟨#[]⟩, .int .i64 0]) 2 24 := ⟨Tryz.underlying26, by kernel_rfl, rfl, by decide⟩
/-- one element more in exports -/
theorem MO.pushX {w w' : World} {H M : Nat} {vt vi vf vg vx ve vd : Value} {m : Mdl} {v' : Value} {x : Im} {cs : List Value} {css : List (List Value)} (h : MO w H M vt vi vf vg vx ve vd m)
    (hc : css.length = m.exports.length ∧ ∀ i (h1 : i < css.length) (h2 : i < m.exports.length), EIm w H css[i] m.exports[i]) (ho0 : w.ownsRow H 88 2 vx m.exports.length css.flatten) (hx : EIm w H cs x) (hg : w.grownBy w' vx.ownBlock) (ho : w'.ownsRow H 88 2 v' (m.exports.length + 1) (css.flatten ++ cs)) :
    KT 88 w w' ∧ (w'.cell? ⟨M, 7, none⟩ = some vx ∧ w'.frozen? ⟨M, 7, none⟩ = false) ∧ KT 30 w' (w'.setCell ⟨M, 7, none⟩ v') ∧ MO (w'.setCell ⟨M, 7, none⟩ v') H M vt vi vf vg v' ve vd { m with exports := m.exports ++ [x] } := by
  have k : KT 88 w w' := KT.grown hg ho0
  have hi : Inn 88 := by constructor <;> rfl
  have hm := k.blk h.blk rfl
  have k2 : KT 30 w' (w'.setCell ⟨M, 7, none⟩ v') := KT.set hm v'
  have hi2 : Inn 30 := by constructor <;> rfl
  refine ⟨k, ⟨hm.cell (i := 7) rfl, hm.free 7⟩, k2, hm.set 7 v', (h.t.keep k rfl (ESg.kt k hi)).keep k2 rfl (ESg.kt k2 hi2), (h.i.keep k rfl (EIm.kt k hi)).keep k2 rfl (EIm.kt k2 hi2), (h.f.keep k rfl (EFn.kt k hi)).keep k2 rfl (EFn.kt k2 hi2), (h.g.keep k rfl (EGb.kt k hi)).keep k2 rfl (EGb.kt k2 hi2), (OwR.push hc hx (EIm.kt k hi) ho).keep k2 rfl (EIm.kt k2 hi2), (h.e.keep k rfl (EEl.kt k hi)).keep k2 rfl (EEl.kt k2 hi2), (h.d.keep k rfl (EDa.kt k hi)).keep k2 rfl (EDa.kt k2 hi2)⟩
theorem elem_elemv : Elem Tryz.prog 27 72 (.agg #[.int .i64 0, .slice none 0 0]) 2 32 := ⟨Tryz.underlying27, by kernel_rfl, rfl, by decide⟩
/-- one element more in elems -/
theorem MO.pushE {w w' : World} {H M : Nat} {vt vi vf vg vx ve vd : Value} {m : Mdl} {v' : Value} {x : El} {cs : List Value} {css : List (List Value)} (h : MO w H M vt vi vf vg vx ve vd m)
    (hc : css.length = m.elems.length ∧ ∀ i (h1 : i < css.length) (h2 : i < m.elems.length), EEl w H css[i] m.elems[i]) (ho0 : w.ownsRow H 72 2 ve m.elems.length css.flatten) (hx : EEl w H cs x) (hg : w.grownBy w' ve.ownBlock) (ho : w'.ownsRow H 72 2 v' (m.elems.length + 1) (css.flatten ++ cs)) :
    KT 72 w w' ∧ (w'.cell? ⟨M, 9, none⟩ = some ve ∧ w'.frozen? ⟨M, 9, none⟩ = false) ∧ KT 30 w' (w'.setCell ⟨M, 9, none⟩ v') ∧ MO (w'.setCell ⟨M, 9, none⟩ v') H M vt vi vf vg vx v' vd { m with elems := m.elems ++ [x] } := by
  have k : KT 72 w w' := KT.grown hg ho0
  have hi : Inn 72 := by constructor <;> rfl
  have hm := k.blk h.blk rfl
  have k2 : KT 30 w' (w'.setCell ⟨M, 9, none⟩ v') := KT.set hm v'
  have hi2 : Inn 30 := by constructor <;> rfl
  refine ⟨k, ⟨hm.cell (i := 9) rfl, hm.free 9⟩, k2, hm.set 9 v', (h.t.keep k rfl (ESg.kt k hi)).keep k2 rfl (ESg.kt k2 hi2), (h.i.keep k rfl (EIm.kt k hi)).keep k2 rfl (EIm.kt k2 hi2), (h.f.keep k rfl (EFn.kt k hi)).keep k2 rfl (EFn.kt k2 hi2), (h.g.keep k rfl (EGb.kt k hi)).keep k2 rfl (EGb.kt k2 hi2), (h.x.keep k rfl (EIm.kt k hi)).keep k2 rfl (EIm.kt k2 hi2), (OwR.push hc hx (EEl.kt k hi) ho).keep k2 rfl (EEl.kt k2 hi2), (h.d.keep k rfl (EDa.kt k hi)).keep k2 rfl (EDa.kt k2 hi2)⟩
theorem elem_datav : Elem Tryz.prog 28 92 (.agg #[.int .i64 0, .string ⟨#[]⟩]) 2 24 := ⟨Tryz.underlying28, by kernel_rfl, rfl, by decide⟩
/-- one element more in data -/
theorem MO.pushD {w w' : World} {H M : Nat} {vt vi vf vg vx ve vd : Value} {m : Mdl} {v' : Value} {x : Da} {cs : List Value} {css : List (List Value)} (h : MO w H M vt vi vf vg vx ve vd m)
    (hc : css.length = m.data.length ∧ ∀ i (h1 : i < css.length) (h2 : i < m.data.length), EDa w H css[i] m.data[i]) (ho0 : w.ownsRow H 92 2 vd m.data.length css.flatten) (hx : EDa w H cs x) (hg : w.grownBy w' vd.ownBlock) (ho : w'.ownsRow H 92 2 v' (m.data.length + 1) (css.flatten ++ cs)) :
    KT 92 w w' ∧ (w'.cell? ⟨M, 10, none⟩ = some vd ∧ w'.frozen? ⟨M, 10, none⟩ = false) ∧ KT 30 w' (w'.setCell ⟨M, 10, none⟩ v') ∧ MO (w'.setCell ⟨M, 10, none⟩ v') H M vt vi vf vg vx ve v' { m with data := m.data ++ [x] } := by
  have k : KT 92 w w' := KT.grown hg ho0
  have hi : Inn 92 := by constructor <;> rfl
  have hm := k.blk h.blk rfl
  have k2 : KT 30 w' (w'.setCell ⟨M, 10, none⟩ v') := KT.set hm v'
  have hi2 : Inn 30 := by constructor <;> rfl
  refine ⟨k, ⟨hm.cell (i := 10) rfl, hm.free 10⟩, k2, hm.set 10 v', (h.t.keep k rfl (ESg.kt k hi)).keep k2 rfl (ESg.kt k2 hi2), (h.i.keep k rfl (EIm.kt k hi)).keep k2 rfl (EIm.kt k2 hi2), (h.f.keep k rfl (EFn.kt k hi)).keep k2 rfl (EFn.kt k2 hi2), (h.g.keep k rfl (EGb.kt k hi)).keep k2 rfl (EGb.kt k2 hi2), (h.x.keep k rfl (EIm.kt k hi)).keep k2 rfl (EIm.kt k2 hi2), (h.e.keep k rfl (EEl.kt k hi)).keep k2 rfl (EEl.kt k2 hi2), (OwR.push hc hx (EDa.kt k hi) ho).keep k2 rfl (EDa.kt k2 hi2)⟩
theorem MO.set_table {w : World} {H M : Nat} {vt vi vf vg vx ve vd : Value} {m : Mdl} (h : MO w H M vt vi vf vg vx ve vd m) (n : Int) : KT 30 w (w.setCell ⟨M, 3, none⟩ (.int .i64 n)) ∧ MO (w.setCell ⟨M, 3, none⟩ (.int .i64 n)) H M vt vi vf vg vx ve vd { m with table := n } := by
  have k2 : KT 30 w (w.setCell ⟨M, 3, none⟩ (.int .i64 n)) := KT.set h.blk _
  have hi2 : Inn 30 := by constructor <;> rfl
  exact ⟨k2, h.blk.set 3 _, h.t.keep k2 rfl (ESg.kt k2 hi2), h.i.keep k2 rfl (EIm.kt k2 hi2), h.f.keep k2 rfl (EFn.kt k2 hi2), h.g.keep k2 rfl (EGb.kt k2 hi2), h.x.keep k2 rfl (EIm.kt k2 hi2), h.e.keep k2 rfl (EEl.kt k2 hi2), h.d.keep k2 rfl (EDa.kt k2 hi2)⟩
theorem MO.set_pages {w : World} {H M : Nat} {vt vi vf vg vx ve vd : Value} {m : Mdl} (h : MO w H M vt vi vf vg vx ve vd m) (n : Int) : KT 30 w (w.setCell ⟨M, 4, none⟩ (.int .i64 n)) ∧ MO (w.setCell ⟨M, 4, none⟩ (.int .i64 n)) H M vt vi vf vg vx ve vd { m with pages := n } := by
  have k2 : KT 30 w (w.setCell ⟨M, 4, none⟩ (.int .i64 n)) := KT.set h.blk _
  have hi2 : Inn 30 := by constructor <;> rfl
  exact ⟨k2, h.blk.set 4 _, h.t.keep k2 rfl (ESg.kt k2 hi2), h.i.keep k2 rfl (EIm.kt k2 hi2), h.f.keep k2 rfl (EFn.kt k2 hi2), h.g.keep k2 rfl (EGb.kt k2 hi2), h.x.keep k2 rfl (EIm.kt k2 hi2), h.e.keep k2 rfl (EEl.kt k2 hi2), h.d.keep k2 rfl (EDa.kt k2 hi2)⟩
theorem MO.set_most {w : World} {H M : Nat} {vt vi vf vg vx ve vd : Value} {m : Mdl} (h : MO w H M vt vi vf vg vx ve vd m) (n : Int) : KT 30 w (w.setCell ⟨M, 5, none⟩ (.int .i64 n)) ∧ MO (w.setCell ⟨M, 5, none⟩ (.int .i64 n)) H M vt vi vf vg vx ve vd { m with most := n } := by
  have k2 : KT 30 w (w.setCell ⟨M, 5, none⟩ (.int .i64 n)) := KT.set h.blk _
  have hi2 : Inn 30 := by constructor <;> rfl
  exact ⟨k2, h.blk.set 5 _, h.t.keep k2 rfl (ESg.kt k2 hi2), h.i.keep k2 rfl (EIm.kt k2 hi2), h.f.keep k2 rfl (EFn.kt k2 hi2), h.g.keep k2 rfl (EGb.kt k2 hi2), h.x.keep k2 rfl (EIm.kt k2 hi2), h.e.keep k2 rfl (EEl.kt k2 hi2), h.d.keep k2 rfl (EDa.kt k2 hi2)⟩
theorem MO.set_start {w : World} {H M : Nat} {vt vi vf vg vx ve vd : Value} {m : Mdl} (h : MO w H M vt vi vf vg vx ve vd m) (n : Int) : KT 30 w (w.setCell ⟨M, 8, none⟩ (.int .i64 n)) ∧ MO (w.setCell ⟨M, 8, none⟩ (.int .i64 n)) H M vt vi vf vg vx ve vd { m with start := n } := by
  have k2 : KT 30 w (w.setCell ⟨M, 8, none⟩ (.int .i64 n)) := KT.set h.blk _
  have hi2 : Inn 30 := by constructor <;> rfl
  exact ⟨k2, h.blk.set 8 _, h.t.keep k2 rfl (ESg.kt k2 hi2), h.i.keep k2 rfl (EIm.kt k2 hi2), h.f.keep k2 rfl (EFn.kt k2 hi2), h.g.keep k2 rfl (EGb.kt k2 hi2), h.x.keep k2 rfl (EIm.kt k2 hi2), h.e.keep k2 rfl (EEl.kt k2 hi2), h.d.keep k2 rfl (EDa.kt k2 hi2)⟩
end Go.Proofs.YtakfineljffoaaaGreatDoor
