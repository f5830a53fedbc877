/-
  MODULES READ, the reference's section under way: the cursor, the module, the codes. No condition. Printed by a program of mine.
-/
import Derived.Test.YtakfineljffoaaaGreatDoorGBinReads30
import Derived.Test.YtakfineljffoaaaGreatDoorGBinReads33
namespace Go.Proofs.YtakfineljffoaaaGreatDoor
open Go.RowKit Go.Lib

/-- codes as functions -/
def fnC (cs : List Cd) : List Fn := cs.map (fun c => ((0 : Int), c.1, c.2))
/-- the places that a section of the reference may turn -/
abbrev FK (M K H : Nat) : Nat → Prop := fun k => k = M ∨ k = K ∨ H ≤ k
theorem OwR.other {α : Type} {E : World → Nat → List Value → α → Prop} {ty : TypeId} {sz : Nat} {w w' : World} {base : Nat} {u v v' : Value} {l : List α} (h : OwR E ty sz w base u l) (hg : Grew w v w' v') (hs : Sep u v) (hE : ∀ cs x, E w base cs x → E w' base cs x) : OwR E ty sz w' base u l ∧ Sep u v' := by
  obtain ⟨css, ⟨h1, h2⟩, h3⟩ := h
  obtain ⟨g1, g2⟩ := hg.other h3 hs
  exact ⟨⟨css, ⟨h1, fun i i1 i2 => hE _ _ (h2 i i1 i2)⟩, g1⟩, g2⟩
structure RS (w0 w : World) (H M K B : Nat) (all : Int) (s : SB) (vt vi vf vg vx ve vd kv : Value) (m : Mdl) (cs : List Cd) : Prop where
  cu : CuB w B all s
  mo : MO w H M vt vi vf vg vx ve vd m
  kb : Blk w K 24 [kv]
  kr : OwR EFn 66 3 w H kv (fnC cs)
  sp : Sep kv vf
  tt : Touch (FK M K H) w0 w
  hM : M < H
  hK : K < H
  ne : M ≠ K
  hB : H ≤ B
  hH : H ≤ w0.heap.size
theorem noM_k : NoM 24 := by constructor <;> first | rfl | (constructor <;> rfl)
theorem RS.size {w0 w : World} {H M K B : Nat} {all : Int} {s : SB} {vt vi vf vg vx ve vd kv : Value} {m : Mdl} {cs : List Cd} (h : RS w0 w H M K B all s vt vi vf vg vx ve vd kv m cs) : H ≤ w.heap.size := Nat.le_trans h.hH h.tt.size
theorem RS.ktc {w0 w : World} {H M K B : Nat} {all : Int} {s : SB} {vt vi vf vg vx ve vd kv : Value} {m : Mdl} {cs : List Cd} {w' : World} {s' : SB} {bad : TypeId} (h : RS w0 w H M K B all s vt vi vf vg vx ve vd kv m cs) (k : KT bad w w') (hb : NoM bad) (hb2 : (24 == bad) = false) (g : CuB w' B all s') (t : Touch (FK M K H) w0 w') : RS w0 w' H M K B all s' vt vi vf vg vx ve vd kv m cs :=
  ⟨g, h.mo.kt k hb, k.blk h.kb hb2, h.kr.keep k hb.rf (EFn.kt k hb.toInn), h.sp, t, h.hM, h.hK, h.ne, h.hB, h.hH⟩
theorem RS.read {w0 w : World} {H M K B : Nat} {all : Int} {s : SB} {vt vi vf vg vx ve vd kv : Value} {m : Mdl} {cs : List Cd} {w' : World} {s' : SB} (h : RS w0 w H M K B all s vt vi vf vg vx ve vd kv m cs) (ht : Touch (fun k => k = B) w w') (g : CuB w' B all s') : RS w0 w' H M K B all s' vt vi vf vg vx ve vd kv m cs :=
  h.ktc (KT.touch h.cu ht) noM_cu rfl g (h.tt.trans (ht.mono (fun _ _ e => .inr (.inr (e ▸ h.hB)))))
theorem RS.below {w0 w : World} {H M K B : Nat} {all : Int} {s : SB} {vt vi vf vg vx ve vd kv : Value} {m : Mdl} {cs : List Cd} {w' : World} (h : RS w0 w H M K B all s vt vi vf vg vx ve vd kv m cs) (hb : Below w.heap.size w w') : RS w0 w' H M K B all s vt vi vf vg vx ve vd kv m cs :=
  h.ktc (KT.below hb) noM_cu rfl (h.cu.below hb) (h.tt.trans (Touch.of_below hb))
theorem RS.drew {w0 w : World} {H M K B : Nat} {all : Int} {s : SB} {vt vi vf vg vx ve vd kv : Value} {m : Mdl} {cs : List Cd} (h : RS w0 w H M K B all s vt vi vf vg vx ve vd kv m cs) : RS w0 w.drew H M K B all s vt vi vf vg vx ve vd kv m cs := h.below (drew_bel' (n := 1) (Below.refl _ _))
theorem RS.pushT {w0 w : World} {H M K B : Nat} {all : Int} {s : SB} {vt vi vf vg vx ve vd kv : Value} {m : Mdl} {cs : List Cd} {w' : World} {v' : Value} {x : Sg} {ds : List Value} {css : List (List Value)} {n0 : Nat} (h : RS w0 w H M K B all s vt vi vf vg vx ve vd kv m cs) (hn : m.types.length = n0)
    (hc : css.length = m.types.length ∧ ∀ i (h1 : i < css.length) (h2 : i < m.types.length), ESg w H css[i] m.types[i]) (ho0 : w.ownsRow H 77 2 vt n0 css.flatten) (hx : ESg w H ds x) (hg : w.grownBy w' vt.ownBlock) (ho : w'.ownsRow H 77 2 v' (n0 + 1) (css.flatten ++ ds)) :
    (w'.cell? ⟨M, 0, none⟩ = some vt ∧ w'.frozen? ⟨M, 0, none⟩ = false) ∧ RS w0 (w'.setCell ⟨M, 0, none⟩ v') H M K B all s v' vi vf vg vx ve vd kv { m with types := m.types ++ [x] } cs := by
  subst hn
  obtain ⟨k, hcell, k2, hm⟩ := h.mo.pushT hc ho0 hx hg ho
  have h1 : Touch (FK M K H) w0 w' := h.tt.trans (Touch.grown hg (fun j hj => .inr (.inr ((World.ownsRow.lt ho0 j hj).1))))
  have hi : Inn 77 := by constructor <;> rfl
  have hi2 : Inn 30 := by constructor <;> rfl
  exact ⟨hcell, k2.blk (k.blk h.cu rfl) rfl, hm, k2.blk (k.blk h.kb rfl) rfl, (h.kr.keep k rfl (EFn.kt k hi)).keep k2 rfl (EFn.kt k2 hi2), h.sp, h1.trans (Touch.setCell (a := ⟨M, 0, none⟩) (.inl rfl) _), h.hM, h.hK, h.ne, h.hB, h.hH⟩
theorem RS.pushI {w0 w : World} {H M K B : Nat} {all : Int} {s : SB} {vt vi vf vg vx ve vd kv : Value} {m : Mdl} {cs : List Cd} {w' : World} {v' : Value} {x : Im} {ds : List Value} {css : List (List Value)} {n0 : Nat} (h : RS w0 w H M K B all s vt vi vf vg vx ve vd kv m cs) (hn : m.imports.length = n0)
    (hc : css.length = m.imports.length ∧ ∀ i (h1 : i < css.length) (h2 : i < m.imports.length), EIm w H css[i] m.imports[i]) (ho0 : w.ownsRow H 81 2 vi n0 css.flatten) (hx : EIm w H ds x) (hg : w.grownBy w' vi.ownBlock) (ho : w'.ownsRow H 81 2 v' (n0 + 1) (css.flatten ++ ds)) :
    (w'.cell? ⟨M, 1, none⟩ = some vi ∧ w'.frozen? ⟨M, 1, none⟩ = false) ∧ RS w0 (w'.setCell ⟨M, 1, none⟩ v') H M K B all s vt v' vf vg vx ve vd kv { m with imports := m.imports ++ [x] } cs := by
  subst hn
  obtain ⟨k, hcell, k2, hm⟩ := h.mo.pushI hc ho0 hx hg ho
  have h1 : Touch (FK M K H) w0 w' := h.tt.trans (Touch.grown hg (fun j hj => .inr (.inr ((World.ownsRow.lt ho0 j hj).1))))
  have hi : Inn 81 := by constructor <;> rfl
  have hi2 : Inn 30 := by constructor <;> rfl
  exact ⟨hcell, k2.blk (k.blk h.cu rfl) rfl, hm, k2.blk (k.blk h.kb rfl) rfl, (h.kr.keep k rfl (EFn.kt k hi)).keep k2 rfl (EFn.kt k2 hi2), h.sp, h1.trans (Touch.setCell (a := ⟨M, 1, none⟩) (.inl rfl) _), h.hM, h.hK, h.ne, h.hB, h.hH⟩
theorem RS.pushF {w0 w : World} {H M K B : Nat} {all : Int} {s : SB} {vt vi vf vg vx ve vd kv : Value} {m : Mdl} {cs : List Cd} {w' : World} {v' : Value} {x : Fn} {ds : List Value} {css : List (List Value)} {n0 : Nat} (h : RS w0 w H M K B all s vt vi vf vg vx ve vd kv m cs) (hn : m.funcs.length = n0)
    (hc : css.length = m.funcs.length ∧ ∀ i (h1 : i < css.length) (h2 : i < m.funcs.length), EFn w H css[i] m.funcs[i]) (ho0 : w.ownsRow H 66 3 vf n0 css.flatten) (hx : EFn w H ds x) (hg : Grew w vf w' v') (ho : w'.ownsRow H 66 3 v' (n0 + 1) (css.flatten ++ ds)) :
    (w'.cell? ⟨M, 2, none⟩ = some vf ∧ w'.frozen? ⟨M, 2, none⟩ = false) ∧ RS w0 (w'.setCell ⟨M, 2, none⟩ v') H M K B all s vt vi v' vg vx ve vd kv { m with funcs := m.funcs ++ [x] } cs := by
  subst hn
  obtain ⟨k, hcell, k2, hm⟩ := h.mo.pushF hc ho0 hx hg.1 ho
  have h1 : Touch (FK M K H) w0 w' := h.tt.trans (Touch.grown hg.1 (fun j hj => .inr (.inr ((World.ownsRow.lt ho0 j hj).1))))
  have hi : Inn 66 := by constructor <;> rfl
  have hi2 : Inn 30 := by constructor <;> rfl
  obtain ⟨g1, g2⟩ := h.kr.other hg h.sp (EFn.kt k hi)
  exact ⟨hcell, k2.blk (k.blk h.cu rfl) rfl, hm, k2.blk (k.blk h.kb rfl) rfl, g1.keep k2 rfl (EFn.kt k2 hi2), g2, h1.trans (Touch.setCell (a := ⟨M, 2, none⟩) (.inl rfl) _), h.hM, h.hK, h.ne, h.hB, h.hH⟩
theorem RS.pushG {w0 w : World} {H M K B : Nat} {all : Int} {s : SB} {vt vi vf vg vx ve vd kv : Value} {m : Mdl} {cs : List Cd} {w' : World} {v' : Value} {x : Gb} {ds : List Value} {css : List (List Value)} {n0 : Nat} (h : RS w0 w H M K B all s vt vi vf vg vx ve vd kv m cs) (hn : m.globals.length = n0)
    (hc : css.length = m.globals.length ∧ ∀ i (h1 : i < css.length) (h2 : i < m.globals.length), EGb w H css[i] m.globals[i]) (ho0 : w.ownsRow H 85 3 vg n0 css.flatten) (hx : EGb w H ds x) (hg : w.grownBy w' vg.ownBlock) (ho : w'.ownsRow H 85 3 v' (n0 + 1) (css.flatten ++ ds)) :
    (w'.cell? ⟨M, 6, none⟩ = some vg ∧ w'.frozen? ⟨M, 6, none⟩ = false) ∧ RS w0 (w'.setCell ⟨M, 6, none⟩ v') H M K B all s vt vi vf v' vx ve vd kv { m with globals := m.globals ++ [x] } cs := by
  subst hn
  obtain ⟨k, hcell, k2, hm⟩ := h.mo.pushG hc ho0 hx hg ho
  have h1 : Touch (FK M K H) w0 w' := h.tt.trans (Touch.grown hg (fun j hj => .inr (.inr ((World.ownsRow.lt ho0 j hj).1))))
  have hi : Inn 85 := by constructor <;> rfl
  have hi2 : Inn 30 := by constructor <;> rfl
  exact ⟨hcell, k2.blk (k.blk h.cu rfl) rfl, hm, k2.blk (k.blk h.kb rfl) rfl, (h.kr.keep k rfl (EFn.kt k hi)).keep k2 rfl (EFn.kt k2 hi2), h.sp, h1.trans (Touch.setCell (a := ⟨M, 6, none⟩) (.inl rfl) _), h.hM, h.hK, h.ne, h.hB, h.hH⟩
theorem RS.pushX {w0 w : World} {H M K B : Nat} {all : Int} {s : SB} {vt vi vf vg vx ve vd kv : Value} {m : Mdl} {cs : List Cd} {w' : World} {v' : Value} {x : Im} {ds : List Value} {css : List (List Value)} {n0 : Nat} (h : RS w0 w H M K B all s vt vi vf vg vx ve vd kv m cs) (hn : m.exports.length = n0)
    (hc : css.length = m.exports.length ∧ ∀ i (h1 : i < css.length) (h2 : i < m.exports.length), EIm w H css[i] m.exports[i]) (ho0 : w.ownsRow H 88 2 vx n0 css.flatten) (hx : EIm w H ds x) (hg : w.grownBy w' vx.ownBlock) (ho : w'.ownsRow H 88 2 v' (n0 + 1) (css.flatten ++ ds)) :
    (w'.cell? ⟨M, 7, none⟩ = some vx ∧ w'.frozen? ⟨M, 7, none⟩ = false) ∧ RS w0 (w'.setCell ⟨M, 7, none⟩ v') H M K B all s vt vi vf vg v' ve vd kv { m with exports := m.exports ++ [x] } cs := by
  subst hn
  obtain ⟨k, hcell, k2, hm⟩ := h.mo.pushX hc ho0 hx hg ho
  have h1 : Touch (FK M K H) w0 w' := h.tt.trans (Touch.grown hg (fun j hj => .inr (.inr ((World.ownsRow.lt ho0 j hj).1))))
  have hi : Inn 88 := by constructor <;> rfl
  have hi2 : Inn 30 := by constructor <;> rfl
  exact ⟨hcell, k2.blk (k.blk h.cu rfl) rfl, hm, k2.blk (k.blk h.kb rfl) rfl, (h.kr.keep k rfl (EFn.kt k hi)).keep k2 rfl (EFn.kt k2 hi2), h.sp, h1.trans (Touch.setCell (a := ⟨M, 7, none⟩) (.inl rfl) _), h.hM, h.hK, h.ne, h.hB, h.hH⟩
theorem RS.pushE {w0 w : World} {H M K B : Nat} {all : Int} {s : SB} {vt vi vf vg vx ve vd kv : Value} {m : Mdl} {cs : List Cd} {w' : World} {v' : Value} {x : El} {ds : List Value} {css : List (List Value)} {n0 : Nat} (h : RS w0 w H M K B all s vt vi vf vg vx ve vd kv m cs) (hn : m.elems.length = n0)
    (hc : css.length = m.elems.length ∧ ∀ i (h1 : i < css.length) (h2 : i < m.elems.length), EEl w H css[i] m.elems[i]) (ho0 : w.ownsRow H 72 2 ve n0 css.flatten) (hx : EEl w H ds x) (hg : w.grownBy w' ve.ownBlock) (ho : w'.ownsRow H 72 2 v' (n0 + 1) (css.flatten ++ ds)) :
    (w'.cell? ⟨M, 9, none⟩ = some ve ∧ w'.frozen? ⟨M, 9, none⟩ = false) ∧ RS w0 (w'.setCell ⟨M, 9, none⟩ v') H M K B all s vt vi vf vg vx v' vd kv { m with elems := m.elems ++ [x] } cs := by
  subst hn
  obtain ⟨k, hcell, k2, hm⟩ := h.mo.pushE hc ho0 hx hg ho
  have h1 : Touch (FK M K H) w0 w' := h.tt.trans (Touch.grown hg (fun j hj => .inr (.inr ((World.ownsRow.lt ho0 j hj).1))))
  have hi : Inn 72 := by constructor <;> rfl
  have hi2 : Inn 30 := by constructor <;> rfl
  exact ⟨hcell, k2.blk (k.blk h.cu rfl) rfl, hm, k2.blk (k.blk h.kb rfl) rfl, (h.kr.keep k rfl (EFn.kt k hi)).keep k2 rfl (EFn.kt k2 hi2), h.sp, h1.trans (Touch.setCell (a := ⟨M, 9, none⟩) (.inl rfl) _), h.hM, h.hK, h.ne, h.hB, h.hH⟩
theorem RS.pushD {w0 w : World} {H M K B : Nat} {all : Int} {s : SB} {vt vi vf vg vx ve vd kv : Value} {m : Mdl} {cs : List Cd} {w' : World} {v' : Value} {x : Da} {ds : List Value} {css : List (List Value)} {n0 : Nat} (h : RS w0 w H M K B all s vt vi vf vg vx ve vd kv m cs) (hn : m.data.length = n0)
    (hc : css.length = m.data.length ∧ ∀ i (h1 : i < css.length) (h2 : i < m.data.length), EDa w H css[i] m.data[i]) (ho0 : w.ownsRow H 92 2 vd n0 css.flatten) (hx : EDa w H ds x) (hg : w.grownBy w' vd.ownBlock) (ho : w'.ownsRow H 92 2 v' (n0 + 1) (css.flatten ++ ds)) :
    (w'.cell? ⟨M, 10, none⟩ = some vd ∧ w'.frozen? ⟨M, 10, none⟩ = false) ∧ RS w0 (w'.setCell ⟨M, 10, none⟩ v') H M K B all s vt vi vf vg vx ve v' kv { m with data := m.data ++ [x] } cs := by
  subst hn
  obtain ⟨k, hcell, k2, hm⟩ := h.mo.pushD hc ho0 hx hg ho
  have h1 : Touch (FK M K H) w0 w' := h.tt.trans (Touch.grown hg (fun j hj => .inr (.inr ((World.ownsRow.lt ho0 j hj).1))))
  have hi : Inn 92 := by constructor <;> rfl
  have hi2 : Inn 30 := by constructor <;> rfl
  exact ⟨hcell, k2.blk (k.blk h.cu rfl) rfl, hm, k2.blk (k.blk h.kb rfl) rfl, (h.kr.keep k rfl (EFn.kt k hi)).keep k2 rfl (EFn.kt k2 hi2), h.sp, h1.trans (Touch.setCell (a := ⟨M, 10, none⟩) (.inl rfl) _), h.hM, h.hK, h.ne, h.hB, h.hH⟩
theorem RS.set_table {w0 w : World} {H M K B : Nat} {all : Int} {s : SB} {vt vi vf vg vx ve vd kv : Value} {m : Mdl} {cs : List Cd} (h : RS w0 w H M K B all s vt vi vf vg vx ve vd kv m cs) (n : Int) : RS w0 (w.setCell ⟨M, 3, none⟩ (.int .i64 n)) H M K B all s vt vi vf vg vx ve vd kv { m with table := n } cs := by
  obtain ⟨k, hm⟩ := h.mo.set_table n
  have hi2 : Inn 30 := by constructor <;> rfl
  exact ⟨k.blk h.cu rfl, hm, k.blk h.kb rfl, h.kr.keep k rfl (EFn.kt k hi2), h.sp, h.tt.trans (Touch.setCell (a := ⟨M, 3, none⟩) (.inl rfl) _), h.hM, h.hK, h.ne, h.hB, h.hH⟩
theorem RS.set_pages {w0 w : World} {H M K B : Nat} {all : Int} {s : SB} {vt vi vf vg vx ve vd kv : Value} {m : Mdl} {cs : List Cd} (h : RS w0 w H M K B all s vt vi vf vg vx ve vd kv m cs) (n : Int) : RS w0 (w.setCell ⟨M, 4, none⟩ (.int .i64 n)) H M K B all s vt vi vf vg vx ve vd kv { m with pages := n } cs := by
  obtain ⟨k, hm⟩ := h.mo.set_pages n
  have hi2 : Inn 30 := by constructor <;> rfl
  exact ⟨k.blk h.cu rfl, hm, k.blk h.kb rfl, h.kr.keep k rfl (EFn.kt k hi2), h.sp, h.tt.trans (Touch.setCell (a := ⟨M, 4, none⟩) (.inl rfl) _), h.hM, h.hK, h.ne, h.hB, h.hH⟩
theorem RS.set_most {w0 w : World} {H M K B : Nat} {all : Int} {s : SB} {vt vi vf vg vx ve vd kv : Value} {m : Mdl} {cs : List Cd} (h : RS w0 w H M K B all s vt vi vf vg vx ve vd kv m cs) (n : Int) : RS w0 (w.setCell ⟨M, 5, none⟩ (.int .i64 n)) H M K B all s vt vi vf vg vx ve vd kv { m with most := n } cs := by
  obtain ⟨k, hm⟩ := h.mo.set_most n
  have hi2 : Inn 30 := by constructor <;> rfl
  exact ⟨k.blk h.cu rfl, hm, k.blk h.kb rfl, h.kr.keep k rfl (EFn.kt k hi2), h.sp, h.tt.trans (Touch.setCell (a := ⟨M, 5, none⟩) (.inl rfl) _), h.hM, h.hK, h.ne, h.hB, h.hH⟩
theorem RS.set_start {w0 w : World} {H M K B : Nat} {all : Int} {s : SB} {vt vi vf vg vx ve vd kv : Value} {m : Mdl} {cs : List Cd} (h : RS w0 w H M K B all s vt vi vf vg vx ve vd kv m cs) (n : Int) : RS w0 (w.setCell ⟨M, 8, none⟩ (.int .i64 n)) H M K B all s vt vi vf vg vx ve vd kv { m with start := n } cs := by
  obtain ⟨k, hm⟩ := h.mo.set_start n
  have hi2 : Inn 30 := by constructor <;> rfl
  exact ⟨k.blk h.cu rfl, hm, k.blk h.kb rfl, h.kr.keep k rfl (EFn.kt k hi2), h.sp, h.tt.trans (Touch.setCell (a := ⟨M, 8, none⟩) (.inl rfl) _), h.hM, h.hK, h.ne, h.hB, h.hH⟩
/-- one code more -/
theorem RS.pushC {w0 w : World} {H M K B : Nat} {all : Int} {s : SB} {vt vi vf vg vx ve vd kv : Value} {m : Mdl} {cs : List Cd} {w' : World} {v' : Value} {x : Cd} {ds : List Value} {css : List (List Value)} {n0 : Nat} (h : RS w0 w H M K B all s vt vi vf vg vx ve vd kv m cs) (hn : cs.length = n0)
    (hc : css.length = (fnC cs).length ∧ ∀ i (h1 : i < css.length) (h2 : i < (fnC cs).length), EFn w H css[i] (fnC cs)[i]) (ho0 : w.ownsRow H 66 3 kv n0 css.flatten) (hx : EFn w H ds (0, x.1, x.2)) (hg : Grew w kv w' v') (ho : w'.ownsRow H 66 3 v' (n0 + 1) (css.flatten ++ ds)) :
    (w'.cell? ⟨K, 0, none⟩ = some kv ∧ w'.frozen? ⟨K, 0, none⟩ = false) ∧ RS w0 (w'.setCell ⟨K, 0, none⟩ v') H M K B all s vt vi vf vg vx ve vd v' m (cs ++ [x]) := by
  have hn2 : (fnC cs).length = n0 := by unfold fnC; rw [List.length_map]; exact hn
  subst hn2
  have k : KT 66 w w' := KT.grown hg.1 ho0
  have hi : Inn 66 := by constructor <;> rfl
  have hk := k.blk h.kb rfl
  have k2 : KT 24 w' (w'.setCell ⟨K, 0, none⟩ v') := KT.set hk v'
  have h1 : Touch (FK M K H) w0 w' := h.tt.trans (Touch.grown hg.1 (fun j hj => .inr (.inr ((World.ownsRow.lt ho0 j hj).1))))
  obtain ⟨g1, g2⟩ := h.mo.f.other hg h.sp.symm (EFn.kt k hi)
  have hm : MO w' H M vt vi vf vg vx ve vd m := ⟨k.blk h.mo.blk rfl, h.mo.t.keep k rfl (ESg.kt k hi), h.mo.i.keep k rfl (EIm.kt k hi), g1, h.mo.g.keep k rfl (EGb.kt k hi), h.mo.x.keep k rfl (EIm.kt k hi), h.mo.e.keep k rfl (EEl.kt k hi), h.mo.d.keep k rfl (EDa.kt k hi)⟩
  have hr : OwR EFn 66 3 w' H v' (fnC (cs ++ [x])) := by
    have := OwR.push (E := EFn) hc (cs := ds) (x := (0, x.1, x.2)) hx (EFn.kt k hi) ho
    unfold fnC at this ⊢
    rw [List.map_append]
    exact this
  exact ⟨⟨hk.cell (i := 0) rfl, hk.free 0⟩, (k.blk h.cu rfl).other (a := ⟨K, 0, none⟩) (by have := h.hB; have := h.hK; show K ≠ B; omega) _, hm.kt k2 noM_k, hk.set 0 v', hr.keep k2 rfl (EFn.kt k2 noM_k.toInn), g2.symm, h1.trans (Touch.setCell (a := ⟨K, 0, none⟩) (.inr (.inl rfl)) _), h.hM, h.hK, h.ne, h.hB, h.hH⟩
/-- a section under way, and a block X of a part that is being read -/
structure RX (w0 ws w : World) (H M K B : Nat) (all : Int) (s : SB) (vt vi vf vg vx ve vd kv : Value) (m : Mdl) (cs : List Cd) (X : Nat) (ty : TypeId) (xs : List Value) : Prop where
  sx : ∃ s0, RS w0 ws H M K B all s0 vt vi vf vg vx ve vd kv m cs
  cu : CuB w B all s
  x : Blk w X ty xs
  tx : Touch (fun k => k = B ∨ ws.heap.size ≤ k) ws w
  hX : ws.heap.size ≤ X
  ne : X ≠ B
theorem RX.ms {w0 ws w : World} {H M K B : Nat} {all : Int} {s : SB} {vt vi vf vg vx ve vd kv : Value} {m : Mdl} {cs : List Cd} {X : Nat} {ty : TypeId} {xs : List Value} (h : RX w0 ws w H M K B all s vt vi vf vg vx ve vd kv m cs X ty xs) : RS w0 w H M K B all s vt vi vf vg vx ve vd kv m cs := by
  obtain ⟨s0, g⟩ := h.sx
  have hz := g.size
  exact g.ktc (KT.apart g.cu h.tx) noM_cu rfl h.cu (g.tt.trans (h.tx.mono (fun k _ e => by rcases e with rfl | e; exact .inr (.inr g.hB); exact .inr (.inr (Nat.le_trans hz e)))))
theorem RX.read {w0 ws w : World} {H M K B : Nat} {all : Int} {s : SB} {vt vi vf vg vx ve vd kv : Value} {m : Mdl} {cs : List Cd} {X : Nat} {ty : TypeId} {xs : List Value} {w' : World} {s' : SB} (h : RX w0 ws w H M K B all s vt vi vf vg vx ve vd kv m cs X ty xs) (ht : Touch (fun k => k = B) w w') (g : CuB w' B all s') : RX w0 ws w' H M K B all s' vt vi vf vg vx ve vd kv m cs X ty xs :=
  ⟨h.sx, g, h.x.touch ht (fun e => h.ne e), h.tx.trans' ht (fun _ _ e => .inl e), h.hX, h.ne⟩
theorem RX.below {w0 ws w : World} {H M K B : Nat} {all : Int} {s : SB} {vt vi vf vg vx ve vd kv : Value} {m : Mdl} {cs : List Cd} {X : Nat} {ty : TypeId} {xs : List Value} {w' : World} (h : RX w0 ws w H M K B all s vt vi vf vg vx ve vd kv m cs X ty xs) (hb : Below w.heap.size w w') : RX w0 ws w' H M K B all s vt vi vf vg vx ve vd kv m cs X ty xs :=
  ⟨h.sx, h.cu.below hb, h.x.below hb, h.tx.trans (Touch.of_below hb), h.hX, h.ne⟩
theorem RX.drew {w0 ws w : World} {H M K B : Nat} {all : Int} {s : SB} {vt vi vf vg vx ve vd kv : Value} {m : Mdl} {cs : List Cd} {X : Nat} {ty : TypeId} {xs : List Value} (h : RX w0 ws w H M K B all s vt vi vf vg vx ve vd kv m cs X ty xs) : RX w0 ws w.drew H M K B all s vt vi vf vg vx ve vd kv m cs X ty xs := h.below (drew_bel' (n := 1) (Below.refl _ _))
theorem RX.set {w0 ws w : World} {H M K B : Nat} {all : Int} {s : SB} {vt vi vf vg vx ve vd kv : Value} {m : Mdl} {cs : List Cd} {X : Nat} {ty : TypeId} {xs : List Value} (h : RX w0 ws w H M K B all s vt vi vf vg vx ve vd kv m cs X ty xs) (i : Nat) (v : Value) : RX w0 ws (w.setCell ⟨X, i, none⟩ v) H M K B all s vt vi vf vg vx ve vd kv m cs X ty (xs.set i v) :=
  ⟨h.sx, h.cu.other (a := ⟨X, i, none⟩) h.ne v, h.x.set i v, h.tx.trans (Touch.setCell (a := ⟨X, i, none⟩) (.inr h.hX) v), h.hX, h.ne⟩
theorem RX.new {w0 ws : World} {H M K B : Nat} {all : Int} {s : SB} {vt vi vf vg vx ve vd kv : Value} {m : Mdl} {cs : List Cd} (h : RS w0 ws H M K B all s vt vi vf vg vx ve vd kv m cs) (xs : Array Value) (ty : TypeId) : RX w0 ws (ws.alloc (.cells xs ty)) H M K B all s vt vi vf vg vx ve vd kv m cs ws.heap.size ty xs.toList :=
  ⟨⟨s, h⟩, h.cu.alloc _, Blk.new ws xs ty _ rfl, (Touch.refl _ _).alloc _, Nat.le_refl _, Nat.ne_of_gt h.cu.lt⟩
theorem RX.xkeep {w0 ws w : World} {H M K B : Nat} {all : Int} {s : SB} {vt vi vf vg vx ve vd kv : Value} {m : Mdl} {cs : List Cd} {X : Nat} {ty : TypeId} {xs : List Value} {w' : World} (h : RX w0 ws w H M K B all s vt vi vf vg vx ve vd kv m cs X ty xs) {v : Value} (hv : ∀ k, v.ownBlock = some k → k < ws.heap.size) (hg : w.grownBy w' v.ownBlock) : Blk w' X ty xs :=
  h.x.touch (Touch.grown (F := fun k => v.ownBlock = some k) hg (fun _ e => e)) (fun e => by have := hv X e; have := h.hX; omega)
theorem RX.pushI {w0 ws w w' : World} {H M K B : Nat} {all : Int} {s : SB} {vt vi vf vg vx ve vd kv : Value} {m : Mdl} {cs : List Cd} {X : Nat} {ty : TypeId} {c u u' : Value} {xs ys : List Int} (h : RX w0 ws w H M K B all s vt vi vf vg vx ve vd kv m cs X ty [c, u]) (hty : (ty == 3) = false) (ho : OwnI w ws.heap.size .i64 3 u xs) (hg : w.grownBy w' u.ownBlock) (ho' : OwnI w' ws.heap.size .i64 3 u' ys) :
    (w'.cell? ⟨X, 1, none⟩ = some u ∧ w'.frozen? ⟨X, 1, none⟩ = false) ∧ RX w0 ws (w'.setCell ⟨X, 1, none⟩ u') H M K B all s vt vi vf vg vx ve vd kv m cs X ty [c, u'] ∧ OwnI (w'.setCell ⟨X, 1, none⟩ u') ws.heap.size .i64 3 u' ys ∧ KT ty w' (w'.setCell ⟨X, 1, none⟩ u') := by
  have k : KT 3 w w' := KT.grown hg ho
  have hx := k.blk h.x hty
  have h1 : RX w0 ws w' H M K B all s vt vi vf vg vx ve vd kv m cs X ty [c, u] := ⟨h.sx, k.blk h.cu rfl, hx, h.tx.trans (Touch.grown hg (fun j hj => .inr ((World.ownsRow.lt ho j hj).1))), h.hX, h.ne⟩
  have k2 : KT ty w' (w'.setCell ⟨X, 1, none⟩ u') := KT.set hx u'
  exact ⟨⟨hx.cell (i := 1) rfl, hx.free 1⟩, h1.set 1 u', k2.own ho' (by rw [beq_eq_false_iff_ne] at hty ⊢; exact fun e => hty e.symm), k2⟩
theorem RX.pushA {w0 ws w w' : World} {H M K B : Nat} {all : Int} {s : SB} {vt vi vf vg vx ve vd kv : Value} {m : Mdl} {cs : List Cd} {X : Nat} {ty : TypeId} {c u u' : Value} {xs ys : List Int} (h : RX w0 ws w H M K B all s vt vi vf vg vx ve vd kv m cs X ty [u, c]) (hty : (ty == 68) = false) (ho : OwnI w ws.heap.size .u8 68 u xs) (hg : w.grownBy w' u.ownBlock) (ho' : OwnI w' ws.heap.size .u8 68 u' ys) :
    (w'.cell? ⟨X, 0, none⟩ = some u ∧ w'.frozen? ⟨X, 0, none⟩ = false) ∧ RX w0 ws (w'.setCell ⟨X, 0, none⟩ u') H M K B all s vt vi vf vg vx ve vd kv m cs X ty [u', c] ∧ OwnI (w'.setCell ⟨X, 0, none⟩ u') ws.heap.size .u8 68 u' ys ∧ KT ty w' (w'.setCell ⟨X, 0, none⟩ u') := by
  have k : KT 68 w w' := KT.grown hg ho
  have hx := k.blk h.x hty
  have h1 : RX w0 ws w' H M K B all s vt vi vf vg vx ve vd kv m cs X ty [u, c] := ⟨h.sx, k.blk h.cu rfl, hx, h.tx.trans (Touch.grown hg (fun j hj => .inr ((World.ownsRow.lt ho j hj).1))), h.hX, h.ne⟩
  have k2 : KT ty w' (w'.setCell ⟨X, 0, none⟩ u') := KT.set hx u'
  exact ⟨⟨hx.cell (i := 0) rfl, hx.free 0⟩, h1.set 0 u', k2.own ho' (by rw [beq_eq_false_iff_ne] at hty ⊢; exact fun e => hty e.symm), k2⟩
theorem RX.pushB {w0 ws w w' : World} {H M K B : Nat} {all : Int} {s : SB} {vt vi vf vg vx ve vd kv : Value} {m : Mdl} {cs : List Cd} {X : Nat} {ty : TypeId} {c u u' : Value} {xs ys : List Int} (h : RX w0 ws w H M K B all s vt vi vf vg vx ve vd kv m cs X ty [c, u]) (hty : (ty == 68) = false) (ho : OwnI w ws.heap.size .u8 68 u xs) (hg : w.grownBy w' u.ownBlock) (ho' : OwnI w' ws.heap.size .u8 68 u' ys) :
    (w'.cell? ⟨X, 1, none⟩ = some u ∧ w'.frozen? ⟨X, 1, none⟩ = false) ∧ RX w0 ws (w'.setCell ⟨X, 1, none⟩ u') H M K B all s vt vi vf vg vx ve vd kv m cs X ty [c, u'] ∧ OwnI (w'.setCell ⟨X, 1, none⟩ u') ws.heap.size .u8 68 u' ys ∧ KT ty w' (w'.setCell ⟨X, 1, none⟩ u') := by
  have k : KT 68 w w' := KT.grown hg ho
  have hx := k.blk h.x hty
  have h1 : RX w0 ws w' H M K B all s vt vi vf vg vx ve vd kv m cs X ty [c, u] := ⟨h.sx, k.blk h.cu rfl, hx, h.tx.trans (Touch.grown hg (fun j hj => .inr ((World.ownsRow.lt ho j hj).1))), h.hX, h.ne⟩
  have k2 : KT ty w' (w'.setCell ⟨X, 1, none⟩ u') := KT.set hx u'
  exact ⟨⟨hx.cell (i := 1) rfl, hx.free 1⟩, h1.set 1 u', k2.own ho' (by rw [beq_eq_false_iff_ne] at hty ⊢; exact fun e => hty e.symm), k2⟩
end Go.Proofs.YtakfineljffoaaaGreatDoor
