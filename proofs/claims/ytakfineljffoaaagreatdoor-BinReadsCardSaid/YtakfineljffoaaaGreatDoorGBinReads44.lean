/-
  MODULES READ, the program's Read: what it leaves. No condition. Printed by a program of mine.
-/
import Derived.Test.YtakfineljffoaaaGreatDoorGBinReads48
import Derived.Test.YtakfineljffoaaaGreatDoorGBinReads34
import Derived.Test.YtakfineljffoaaaGreatDoorGBinReads35
import Derived.Test.YtakfineljffoaaaGreatDoorGBinReads36
import Derived.Test.YtakfineljffoaaaGreatDoorGBinReads39
import Derived.Test.YtakfineljffoaaaGreatDoorGBinReads40
import Derived.Test.YtakfineljffoaaaGreatDoorGBinReads41
import Derived.Test.YtakfineljffoaaaGreatDoorGBinReads42
import Derived.Test.YtakfineljffoaaaGreatDoorGBinReads43
namespace Go.Proofs.YtakfineljffoaaaGreatDoor
open Go.RowKit Go.Lib

/-- a module's rows, whatever holds its cells -/
structure MV (w : World) (H : Nat) (vt vi vf vg vx ve vd : Value) (m : Mdl) : Prop where
  t : OwR ESg 77 2 w H vt m.types
  i : OwR EIm 81 2 w H vi m.imports
  f : OwR EFn 66 3 w H vf m.funcs
  g : OwR EGb 85 3 w H vg m.globals
  x : OwR EIm 88 2 w H vx m.exports
  e : OwR EEl 72 2 w H ve m.elems
  d : OwR EDa 92 2 w H vd m.data
def mdlV (vt vi vf vg vx ve vd : Value) (m : Mdl) : Value := .agg #[vt, vi, vf, .int .i64 m.table, .int .i64 m.pages, .int .i64 m.most, vg, vx, .int .i64 m.start, ve, vd]
theorem MV.zero (w : World) (H : Nat) : MV w H (.slice none 0 0) (.slice none 0 0) (.slice none 0 0) (.slice none 0 0) (.slice none 0 0) (.slice none 0 0) (.slice none 0 0) Mdl.zero :=
  ⟨OwR.nil _ _ _ _ _, OwR.nil _ _ _ _ _, OwR.nil _ _ _ _ _, OwR.nil _ _ _ _ _, OwR.nil _ _ _ _ _, OwR.nil _ _ _ _ _, OwR.nil _ _ _ _ _⟩
theorem MO.mv {w : World} {H M : Nat} {vt vi vf vg vx ve vd : Value} {m : Mdl} (h : MO w H M vt vi vf vg vx ve vd m) : MV w H vt vi vf vg vx ve vd m := ⟨h.t, h.i, h.f, h.g, h.x, h.e, h.d⟩
/-- every row's type is another than bad -/
structure NoR (bad : TypeId) : Prop extends Inn bad where
  rt : (77 == bad) = false
  ri : (81 == bad) = false
  rf : (66 == bad) = false
  rg : (85 == bad) = false
  rx : (88 == bad) = false
  re : (72 == bad) = false
  rd : (92 == bad) = false
theorem MV.kt {bad : TypeId} {w w' : World} {H : Nat} {vt vi vf vg vx ve vd : Value} {m : Mdl} (h : MV w H vt vi vf vg vx ve vd m) (k : KT bad w w') (hb : NoR bad) : MV w' H vt vi vf vg vx ve vd m :=
  ⟨h.t.keep k hb.rt (ESg.kt k hb.toInn), h.i.keep k hb.ri (EIm.kt k hb.toInn), h.f.keep k hb.rf (EFn.kt k hb.toInn), h.g.keep k hb.rg (EGb.kt k hb.toInn), h.x.keep k hb.rx (EIm.kt k hb.toInn), h.e.keep k hb.re (EEl.kt k hb.toInn), h.d.keep k hb.rd (EDa.kt k hb.toInn)⟩
theorem noR_m : NoR 30 := by constructor <;> first | rfl | (constructor <;> rfl)
theorem noR_e : NoR 31 := by constructor <;> first | rfl | (constructor <;> rfl)
/-- eleven cells are laid anew -/
theorem put11 (w : World) (M : Nat) (c0 c1 c2 c3 c4 c5 c6 c7 c8 c9 c10 d0 d1 d2 d3 d4 d5 d6 d7 d8 d9 d10 : Value) (HM : Blk w M 30 [c0, c1, c2, c3, c4, c5, c6, c7, c8, c9, c10]) :
    Blk (World.setCell (World.setCell (World.setCell (World.setCell (World.setCell (World.setCell (World.setCell (World.setCell (World.setCell (World.setCell (World.setCell w ⟨M, 0, none⟩ d0) ⟨M, 1, none⟩ d1) ⟨M, 2, none⟩ d2) ⟨M, 3, none⟩ d3) ⟨M, 4, none⟩ d4) ⟨M, 5, none⟩ d5) ⟨M, 6, none⟩ d6) ⟨M, 7, none⟩ d7) ⟨M, 8, none⟩ d8) ⟨M, 9, none⟩ d9) ⟨M, 10, none⟩ d10) M 30 [d0, d1, d2, d3, d4, d5, d6, d7, d8, d9, d10] ∧ KT 30 w (World.setCell (World.setCell (World.setCell (World.setCell (World.setCell (World.setCell (World.setCell (World.setCell (World.setCell (World.setCell (World.setCell w ⟨M, 0, none⟩ d0) ⟨M, 1, none⟩ d1) ⟨M, 2, none⟩ d2) ⟨M, 3, none⟩ d3) ⟨M, 4, none⟩ d4) ⟨M, 5, none⟩ d5) ⟨M, 6, none⟩ d6) ⟨M, 7, none⟩ d7) ⟨M, 8, none⟩ d8) ⟨M, 9, none⟩ d9) ⟨M, 10, none⟩ d10) ∧ Touch (fun k => k = M) w (World.setCell (World.setCell (World.setCell (World.setCell (World.setCell (World.setCell (World.setCell (World.setCell (World.setCell (World.setCell (World.setCell w ⟨M, 0, none⟩ d0) ⟨M, 1, none⟩ d1) ⟨M, 2, none⟩ d2) ⟨M, 3, none⟩ d3) ⟨M, 4, none⟩ d4) ⟨M, 5, none⟩ d5) ⟨M, 6, none⟩ d6) ⟨M, 7, none⟩ d7) ⟨M, 8, none⟩ d8) ⟨M, 9, none⟩ d9) ⟨M, 10, none⟩ d10) := by
  exact ⟨(((((((((((HM.set 0 d0).set 1 d1).set 2 d2).set 3 d3).set 4 d4).set 5 d5).set 6 d6).set 7 d7).set 8 d8).set 9 d9).set 10 d10), (KT.trans (KT.trans (KT.trans (KT.trans (KT.trans (KT.trans (KT.trans (KT.trans (KT.trans (KT.trans (KT.set (i := 0) (bad := 30) (HM) d0) (KT.set (i := 1) (bad := 30) ((HM.set 0 d0)) d1)) (KT.set (i := 2) (bad := 30) (((HM.set 0 d0).set 1 d1)) d2)) (KT.set (i := 3) (bad := 30) ((((HM.set 0 d0).set 1 d1).set 2 d2)) d3)) (KT.set (i := 4) (bad := 30) (((((HM.set 0 d0).set 1 d1).set 2 d2).set 3 d3)) d4)) (KT.set (i := 5) (bad := 30) ((((((HM.set 0 d0).set 1 d1).set 2 d2).set 3 d3).set 4 d4)) d5)) (KT.set (i := 6) (bad := 30) (((((((HM.set 0 d0).set 1 d1).set 2 d2).set 3 d3).set 4 d4).set 5 d5)) d6)) (KT.set (i := 7) (bad := 30) ((((((((HM.set 0 d0).set 1 d1).set 2 d2).set 3 d3).set 4 d4).set 5 d5).set 6 d6)) d7)) (KT.set (i := 8) (bad := 30) (((((((((HM.set 0 d0).set 1 d1).set 2 d2).set 3 d3).set 4 d4).set 5 d5).set 6 d6).set 7 d7)) d8)) (KT.set (i := 9) (bad := 30) ((((((((((HM.set 0 d0).set 1 d1).set 2 d2).set 3 d3).set 4 d4).set 5 d5).set 6 d6).set 7 d7).set 8 d8)) d9)) (KT.set (i := 10) (bad := 30) (((((((((((HM.set 0 d0).set 1 d1).set 2 d2).set 3 d3).set 4 d4).set 5 d5).set 6 d6).set 7 d7).set 8 d8).set 9 d9)) d10)), ((((((((((((Touch.refl (fun k => k = M) w).trans (Touch.setCell (F := fun k => k = M) (a := ⟨M, 0, none⟩) rfl d0)).trans (Touch.setCell (F := fun k => k = M) (a := ⟨M, 1, none⟩) rfl d1)).trans (Touch.setCell (F := fun k => k = M) (a := ⟨M, 2, none⟩) rfl d2)).trans (Touch.setCell (F := fun k => k = M) (a := ⟨M, 3, none⟩) rfl d3)).trans (Touch.setCell (F := fun k => k = M) (a := ⟨M, 4, none⟩) rfl d4)).trans (Touch.setCell (F := fun k => k = M) (a := ⟨M, 5, none⟩) rfl d5)).trans (Touch.setCell (F := fun k => k = M) (a := ⟨M, 6, none⟩) rfl d6)).trans (Touch.setCell (F := fun k => k = M) (a := ⟨M, 7, none⟩) rfl d7)).trans (Touch.setCell (F := fun k => k = M) (a := ⟨M, 8, none⟩) rfl d8)).trans (Touch.setCell (F := fun k => k = M) (a := ⟨M, 9, none⟩) rfl d9)).trans (Touch.setCell (F := fun k => k = M) (a := ⟨M, 10, none⟩) rfl d10))⟩
def PRd (q : Mdl × Int) (w : World) (e : Ending) (w' : World) : Prop :=
  Below w.heap.size w w' ∧ ∃ H vt vi vf vg vx ve vd, w.heap.size ≤ H ∧ e = .returned (.tuple #[mdlV vt vi vf vg vx ve vd q.1, .int .i64 q.2]) ∧ MV w' H vt vi vf vg vx ve vd q.1
set_option maxRecDepth 100000 in
/-- what Read hands back is read off its two variables -/
theorem read_results (W : World) (M E : Nat) (c0 c1 c2 c3 c4 c5 c6 c7 c8 c9 c10 : Value) (e : Int) (tmps : Array Value) (h2 : tmps.getD 2 undef = .pointer (some ⟨M, 0, none⟩)) (h3 : tmps.getD 3 undef = .pointer (some ⟨E, 0, none⟩)) (HM : Blk W M 30 [c0, c1, c2, c3, c4, c5, c6, c7, c8, c9, c10]) (HE : Blk W E 31 [.int .i64 e]) :
    (results Tryz.f5 tmps).run Tryz.prog W = .ok (.tuple #[.agg #[c0, c1, c2, c3, c4, c5, c6, c7, c8, c9, c10], .int .i64 e]) W := by
  have y0 := HM.cell (i := 0) rfl
  have y1 := HM.cell (i := 1) rfl
  have y2 := HM.cell (i := 2) rfl
  have y3 := HM.cell (i := 3) rfl
  have y4 := HM.cell (i := 4) rfl
  have y5 := HM.cell (i := 5) rfl
  have y6 := HM.cell (i := 6) rfl
  have y7 := HM.cell (i := 7) rfl
  have y8 := HM.cell (i := 8) rfl
  have y9 := HM.cell (i := 9) rfl
  have y10 := HM.cell (i := 10) rfl
  have ey := HE.cell (i := 0) rfl
  simp only [Array.getD_eq_getD_getElem?] at h2 h3
  simp [results, Tryz.results5, go_sem, h2, h3, y0, y1, y2, y3, y4, y5, y6, y7, y8, y9, y10, ey]
/-- what is deferred -/
abbrev dfr (M E : Nat) : Deferred := { target := .fn (Go.Fn.func 11) #[.pointer (some ⟨M, 0, none⟩), .pointer (some ⟨E, 0, none⟩)], args := #[] }
theorem leave_ok {w W : World} {M E : Nat} {H : Nat} {vt vi vf vg vx ve vd : Value} {m : Mdl} {tmps : Array Value} (h2 : tmps.getD 2 undef = .pointer (some ⟨M, 0, none⟩)) (h3 : tmps.getD 3 undef = .pointer (some ⟨E, 0, none⟩)) (hM : Blk W M 30 [vt, vi, vf, .int .i64 m.table, .int .i64 m.pages, .int .i64 m.most, vg, vx, .int .i64 m.start, ve, vd]) (hE : Blk W E 31 [.int .i64 0]) (hv : MV W H vt vi vf vg vx ve vd m) (hH : w.heap.size ≤ H) (bl : Below w.heap.size w W) :
    Leaves Tryz.prog Tryz.f5 tmps (PRd (m, 0) w) [dfr M E] .returning W := by
  refine leaves_cons (f := 11) (args := #[.pointer (some ⟨M, 0, none⟩), .pointer (some ⟨E, 0, none⟩)]) (by simp) (by simp [go_sem]) ?_
  refine (catch_idle _ M E).mono ?_
  rintro e u' w'' ⟨rfl, rfl, rfl⟩
  exact ⟨_, read_results _ M E _ _ _ _ _ _ _ _ _ _ _ 0 tmps h2 h3 hM hE, bl, H, vt, vi, vf, vg, vx, ve, vd, hH, rfl, hv⟩
/-- where Read stands when a fault is thrown -/
structure RB (w W : World) (M E : Nat) : Prop where
  m : M11 W M
  e : Blk W E 31 [.int .i64 0]
  bl : Below w.heap.size w W
  hM : w.heap.size ≤ M
  hE : w.heap.size ≤ E
  ne : M ≠ E
theorem leave_bad {w W : World} {M E : Nat} {x : Int} {tmps : Array Value} (h2 : tmps.getD 2 undef = .pointer (some ⟨M, 0, none⟩)) (h3 : tmps.getD 3 undef = .pointer (some ⟨E, 0, none⟩)) (h : RB w W M E) :
    Leaves Tryz.prog Tryz.f5 tmps (PRd (Mdl.zero, x) w) [dfr M E] (.panicking [{ v := wrongV x, recovered := false }]) W := by
  obtain ⟨cc, hl, hm⟩ := h.m
  refine leaves_cons (f := 11) (args := #[.pointer (some ⟨M, 0, none⟩), .pointer (some ⟨E, 0, none⟩)]) (by simp) (by simp [go_sem]) ?_
  refine (catch_thrown _ M E x cc hl hm h.e h.ne).mono ?_
  rintro e u' w'' ⟨rfl, rfl, ht, hM, hE⟩
  have hb : Below w.heap.size w w'' := h.bl.trans (ht.below h.bl.size (fun k hk => by rcases hk with rfl | rfl; exact h.hM; exact h.hE))
  exact ⟨_, read_results _ M E _ _ _ _ _ _ _ _ _ _ _ x tmps h2 h3 hM hE, hb, w.heap.size, _, _, _, _, _, _, _, Nat.le_refl _, rfl, MV.zero _ _⟩
/-- Read under way: its reader B, the module M, the error E -/
structure RT (w wr : World) (H M E B : Nat) (t : ByteArray) (a : Nat) (vt vi vf vg vx ve vd : Value) (m : Mdl) : Prop where
  rd : BrB wr B t a
  mo : MO wr H M vt vi vf vg vx ve vd m
  e : Blk wr E 31 [.int .i64 0]
  bl : Below w.heap.size w wr
  hM : w.heap.size ≤ M
  hE : w.heap.size ≤ E
  hB : w.heap.size ≤ B
  mH : M < H
  eH : E < H
  bH : B < H
  ne : M ≠ E
  nb : M ≠ B
  nbe : E ≠ B
  hH : H ≤ wr.heap.size
section
variable {w wr w' : World} {H M E B : Nat} {t : ByteArray} {a : Nat} {vt vi vf vg vx ve vd : Value} {m : Mdl}
theorem RT.rb (h : RT w wr H M E B t a vt vi vf vg vx ve vd m) : RB w wr M E := ⟨⟨_, rfl, h.mo.blk⟩, h.e, h.bl, h.hM, h.hE, h.ne⟩
theorem RT.bad (h : RT w wr H M E B t a vt vi vf vg vx ve vd m) (ht : Touch (fun k => k = B) wr w') : RB w w' M E :=
  ⟨⟨_, rfl, h.mo.blk.touch ht h.nb⟩, h.e.touch ht h.nbe, h.bl.trans (ht.below h.bl.size (fun k hk => hk ▸ h.hB)), h.hM, h.hE, h.ne⟩
theorem RT.read {a' : Nat} (h : RT w wr H M E B t a vt vi vf vg vx ve vd m) (ht : Touch (fun k => k = B) wr w') (hb : BrB w' B t a') : RT w w' H M E B t a' vt vi vf vg vx ve vd m :=
  ⟨hb, h.mo.kt (KT.touch h.rd ht) noM_rd, h.e.touch ht h.nbe, (h.bad ht).bl, h.hM, h.hE, h.hB, h.mH, h.eH, h.bH, h.ne, h.nb, h.nbe, Nat.le_trans h.hH ht.size⟩
/-- a section's reader R is used up -/
theorem RT.inner {R : Nat} {p : ByteArray} {b : Nat} (h : RT w wr H M E B t a vt vi vf vg vx ve vd m) (hr : BrB wr R p b) (hR : H ≤ R) (ht : Touch (fun k => k = R) wr w') : RT w w' H M E B t a vt vi vf vg vx ve vd m :=
  ⟨h.rd.touch ht (fun e => by have := h.bH; omega), h.mo.kt (KT.touch hr ht) noM_rd, h.e.touch ht (fun e => by have := h.eH; omega), h.bl.trans (ht.below h.bl.size (fun k hk => by have := h.hM; have := h.mH; omega)), h.hM, h.hE, h.hB, h.mH, h.eH, h.bH, h.ne, h.nb, h.nbe, Nat.le_trans h.hH ht.size⟩
theorem RT.ms {R : Nat} {p : ByteArray} {b : Nat} (h : RT w wr H M E B t a vt vi vf vg vx ve vd m) (hr : BrB wr R p b) (hR : H ≤ R) : MS wr wr H M R p b vt vi vf vg vx ve vd m := ⟨hr, h.mo, Touch.refl _ _, h.mH, hR, h.hH⟩
theorem RT.secE (h : RT w wr H M E B t a vt vi vf vg vx ve vd m) (ht : Touch (FS M H) wr w') : Blk w' E 31 [.int .i64 0] ∧ Below w.heap.size w w' :=
  ⟨h.e.touch ht (fun e => by rcases e with e | e; exact h.ne e.symm; have := h.eH; omega), h.bl.trans (ht.below h.bl.size (fun k hk => by rcases hk with rfl | hk; exact h.hM; have := h.hM; have := h.mH; omega))⟩
theorem RT.sec_bad (h : RT w wr H M E B t a vt vi vf vg vx ve vd m) (ht : Touch (FS M H) wr w') (hm : M11 w' M) : RB w w' M E := ⟨hm, (h.secE ht).1, (h.secE ht).2, h.hM, h.hE, h.ne⟩
theorem RT.sec {vt' vi' vf' vg' vx' ve' vd' : Value} {m' : Mdl} (h : RT w wr H M E B t a vt vi vf vg vx ve vd m) (ht : Touch (FS M H) wr w') (hm : MO w' H M vt' vi' vf' vg' vx' ve' vd' m') : RT w w' H M E B t a vt' vi' vf' vg' vx' ve' vd' m' :=
  ⟨h.rd.touch ht (fun e => by rcases e with e | e; exact h.nb e.symm; have := h.bH; omega), hm, (h.secE ht).1, (h.secE ht).2, h.hM, h.hE, h.hB, h.mH, h.eH, h.bH, h.ne, h.nb, h.nbe, Nat.le_trans h.hH ht.size⟩
end
theorem RT.fin {w wr : World} {H M E B : Nat} {t : ByteArray} {a : Nat} {vt vi vf vg vx ve vd : Value} {m : Mdl} (h : RT w wr H M E B t a vt vi vf vg vx ve vd m) :
    Blk (World.setCell (World.setCell (World.setCell (World.setCell (World.setCell (World.setCell (World.setCell (World.setCell (World.setCell (World.setCell (World.setCell (World.setCell wr ⟨M, 0, none⟩ vt) ⟨M, 1, none⟩ vi) ⟨M, 2, none⟩ vf) ⟨M, 3, none⟩ (.int .i64 m.table)) ⟨M, 4, none⟩ (.int .i64 m.pages)) ⟨M, 5, none⟩ (.int .i64 m.most)) ⟨M, 6, none⟩ vg) ⟨M, 7, none⟩ vx) ⟨M, 8, none⟩ (.int .i64 m.start)) ⟨M, 9, none⟩ ve) ⟨M, 10, none⟩ vd) ⟨E, 0, none⟩ (.int .i64 0)) M 30 [vt, vi, vf, .int .i64 m.table, .int .i64 m.pages, .int .i64 m.most, vg, vx, .int .i64 m.start, ve, vd] ∧ Blk (World.setCell (World.setCell (World.setCell (World.setCell (World.setCell (World.setCell (World.setCell (World.setCell (World.setCell (World.setCell (World.setCell (World.setCell wr ⟨M, 0, none⟩ vt) ⟨M, 1, none⟩ vi) ⟨M, 2, none⟩ vf) ⟨M, 3, none⟩ (.int .i64 m.table)) ⟨M, 4, none⟩ (.int .i64 m.pages)) ⟨M, 5, none⟩ (.int .i64 m.most)) ⟨M, 6, none⟩ vg) ⟨M, 7, none⟩ vx) ⟨M, 8, none⟩ (.int .i64 m.start)) ⟨M, 9, none⟩ ve) ⟨M, 10, none⟩ vd) ⟨E, 0, none⟩ (.int .i64 0)) E 31 [.int .i64 0] ∧ MV (World.setCell (World.setCell (World.setCell (World.setCell (World.setCell (World.setCell (World.setCell (World.setCell (World.setCell (World.setCell (World.setCell (World.setCell wr ⟨M, 0, none⟩ vt) ⟨M, 1, none⟩ vi) ⟨M, 2, none⟩ vf) ⟨M, 3, none⟩ (.int .i64 m.table)) ⟨M, 4, none⟩ (.int .i64 m.pages)) ⟨M, 5, none⟩ (.int .i64 m.most)) ⟨M, 6, none⟩ vg) ⟨M, 7, none⟩ vx) ⟨M, 8, none⟩ (.int .i64 m.start)) ⟨M, 9, none⟩ ve) ⟨M, 10, none⟩ vd) ⟨E, 0, none⟩ (.int .i64 0)) H vt vi vf vg vx ve vd m ∧ Below w.heap.size w (World.setCell (World.setCell (World.setCell (World.setCell (World.setCell (World.setCell (World.setCell (World.setCell (World.setCell (World.setCell (World.setCell (World.setCell wr ⟨M, 0, none⟩ vt) ⟨M, 1, none⟩ vi) ⟨M, 2, none⟩ vf) ⟨M, 3, none⟩ (.int .i64 m.table)) ⟨M, 4, none⟩ (.int .i64 m.pages)) ⟨M, 5, none⟩ (.int .i64 m.most)) ⟨M, 6, none⟩ vg) ⟨M, 7, none⟩ vx) ⟨M, 8, none⟩ (.int .i64 m.start)) ⟨M, 9, none⟩ ve) ⟨M, 10, none⟩ vd) ⟨E, 0, none⟩ (.int .i64 0)) := by
  obtain ⟨h1, h2, h3⟩ := put11 wr M vt vi vf (.int .i64 m.table) (.int .i64 m.pages) (.int .i64 m.most) vg vx (.int .i64 m.start) ve vd vt vi vf (.int .i64 m.table) (.int .i64 m.pages) (.int .i64 m.most) vg vx (.int .i64 m.start) ve vd h.mo.blk
  have h4 : Blk (World.setCell (World.setCell (World.setCell (World.setCell (World.setCell (World.setCell (World.setCell (World.setCell (World.setCell (World.setCell (World.setCell wr ⟨M, 0, none⟩ vt) ⟨M, 1, none⟩ vi) ⟨M, 2, none⟩ vf) ⟨M, 3, none⟩ (.int .i64 m.table)) ⟨M, 4, none⟩ (.int .i64 m.pages)) ⟨M, 5, none⟩ (.int .i64 m.most)) ⟨M, 6, none⟩ vg) ⟨M, 7, none⟩ vx) ⟨M, 8, none⟩ (.int .i64 m.start)) ⟨M, 9, none⟩ ve) ⟨M, 10, none⟩ vd) E 31 [.int .i64 0] := h.e.touch h3 (fun e => h.ne e.symm)
  have k := KT.set (i := 0) h4 (.int .i64 0)
  exact ⟨h1.other (a := ⟨E, 0, none⟩) (fun e => h.ne e.symm) _, h4.set 0 _, (h.mo.mv.kt h2 noR_m).kt k noR_e, (h.bl.trans (h3.below h.bl.size (fun j hj => hj ▸ h.hM))).trans ((Touch.setCell (F := fun j => j = E) (a := ⟨E, 0, none⟩) rfl _).below (Nat.le_trans h.bl.size h3.size) (fun j hj => hj ▸ h.hE))⟩
/-- plain: sections that are behind -/
def TG (f id : Nat) (q : MC × SB) : MC × SB := topM f id q.1 q.2
theorem allB_st {x : MC} {s : SB} (h : s.2 ≠ 0) : allB (x, s) = (Mdl.zero, s.2) := by
  unfold allB finM
  simp only
  rw [say_on h, if_pos h]
theorem TG_st {f id : Nat} {q : MC × SB} (h : q.2.2 ≠ 0) : allB (TG f id q) = (Mdl.zero, q.2.2) := by
  unfold TG
  rw [top_stop (.inl h)]
  exact allB_st h
theorem allA_st {s : SB} (h : s.2 ≠ 0) : allA s = (Mdl.zero, s.2) := TG_st (f := 12) (id := 0) (q := ((Mdl.zero, []), s)) h
def mgL : List Int := [0, 97, 115, 109, 1, 0, 0, 0]
def mgcL (l : List Int) (s : SB) : SB := l.foldl (fun s b => mustM b 4 s) s
theorem mgcL_st (l : List Int) : ∀ {s : SB}, s.2 ≠ 0 → mgcL l s = s := by
  induction l with
  | nil => intro s _; rfl
  | cons b l ih => intro s h; show mgcL l (mustM b 4 s) = s; rw [mst_st h]; exact ih h
theorem mgcL_go {k : Nat} (h : k < mgL.length) (s : SB) : mgcL (mgL.drop k) s = mgcL (mgL.drop (k + 1)) (mustM mgL[k] 4 s) := by
  unfold mgcL
  rw [List.drop_eq_getElem_cons h]
  rfl
theorem one_cl {id : Nat} (x : MC) (s : SB) : (oneM id x s).1.2.length ≤ x.2.length + 1 := by
  unfold oneM
  split <;> simp
theorem loop_cl {id : Nat} (n : Nat) : ∀ (x : MC) (s : SB), (loopM id n x s).1.2.length ≤ x.2.length + n := by
  induction n with
  | zero => intro x s; exact Nat.le_refl _
  | succ n ih =>
    intro x s
    rw [loopM]
    split
    · simp only; omega
    · have h1 := ih (oneM id x s).1 (oneM id x s).2
      have h2 := one_cl (id := id) x s
      omega
theorem sec_cl {id : Nat} (x : MC) (s : SB) : (secM id x s).1.2.length ≤ x.2.length + 16 := by
  have hl := lim_le id
  have hc := cntM_facts (limM id) hl.1 s
  unfold secM
  split
  · simp only; omega
  · have := loop_cl (id := id) (cntM (limM id) s).1.toNat x (cntM (limM id) s).2
    omega
end Go.Proofs.YtakfineljffoaaaGreatDoor
namespace Go.Proofs.YtakfineljffoaaaGreatDoor
open Go.RowKit Go.Lib

set_option maxRecDepth 100000 in
set_option maxHeartbeats 8000000 in
theorem csec10_any (w : World) (H M K B : Nat) (all : Int) (s : SB) (vt vi vf vg vx ve vd kv : Value) (m : Mdl) (cs : List Cd) (h : RS w w H M K B all s vt vi vf vg vx ve vd kv m cs) (hs : okSc s) (WW : World) (hM : MaxL WW) (hW : Below WW.heap.size WW w) (hWM : WW.heap.size ≤ M) (hWK : WW.heap.size ≤ K) (hl : cs.length ≤ 1000) :
    Calls Tryz.prog 24 #[.pointer (some ⟨B, 0, none⟩), .int .i64 10, .pointer (some ⟨M, 0, none⟩), .pointer (some ⟨K, 0, none⟩)] w fun e w' => e = .returned (.tuple #[]) ∧ ∃ vt vi vf vg vx ve vd kv, RS w w' H M K B all (secM 10 (m, cs) s).2 vt vi vf vg vx ve vd kv (secM 10 (m, cs) s).1.1 (secM 10 (m, cs) s).1.2 := by
  have A0 := hid h
  have S0 := hid hs
  have HTB := hid (fun (wx : World) (hx : Touch (FK M K H) w wx) => hW.trans (hx.below hW.size (fun j hj => by rcases hj with rfl | rfl | hj; exact hWM; exact hWK; exact Nat.le_trans (Nat.le_trans hWM (Nat.le_of_lt A0.out.hM)) hj)))
  have HML := hid hM
  have HWB := hid (show WW.heap.size ≤ B from Nat.le_trans (Nat.le_trans hWM (Nat.le_of_lt A0.out.hM)) A0.out.hB)
  have HCL := hid (show cs.length ≤ 1000 + 0 from hl)
  have HB0 := HCL
  clear h hs hM hW hWM hWK hl
  obtain ⟨P, hP⟩ : ∃ P, secM 10 (m, cs) s = P := ⟨_, rfl⟩
  have HM0 := hid hP.symm
  rw [hP]
  clear hP
  have LB0 := hid (show Below w.heap.size w (w.alloc (.cells #[.int .i64 0, .int .i64 16, .int .i64 16, .int .i64 16, .int .i64 1, .int .i64 1, .int .i64 8, .int .i64 8, .int .i64 0, .int .i64 4, .int .i64 16, .int .i64 4] 114)) from (Below.refl _ _).alloc (Nat.le_refl _) _)
  have A0 := hid (A0.out.below LB0.out)
  clear LB0
  go_enter Tryz.func24, Tryz.ntmps24
  go_wp2_with fail
  have hcf := cntM_facts 16 (by decide) s
  refine (ccount_any _ B all s 16 A0.out.cu S0.out).mono ?_
  rintro r w1 ⟨hr, h1, t1⟩
  have hle := cnt_le 16 (by decide) s
  obtain ⟨v1, s1, hv1⟩ : ∃ vz sz, cntM 16 s = (vz, sz) := ⟨_, _, rfl⟩
  have HM1 := hid (show P = loopM 10 v1.toNat (m, cs) s1 from HM0.out.trans (by rw [secM, if_neg (by decide), show limM 10 = 16 from rfl, hv1]))
  rw [hv1] at hr h1 hle
  rw [hv1] at hcf
  subst hr
  have A1 := hid (A0.out.read t1 h1)
  have S1 := hid (S0.out.le hle)
  clear h1 t1 hle hv1
  obtain ⟨N, rfl⟩ := Int.eq_ofNat_of_zero_le hcf.1
  have hN : N ≤ 16 := by have := hcf.2.1; omega
  have HM1 := hid (show P = loopM 10 N (m, cs) s1 from HM1.out)
  clear hcf
  go_wp2_with fail
  obtain ⟨m0, hm0⟩ : ∃ m0 : Mdl, m0 = m := ⟨_, rfl⟩
  go_loopw [36] (fun i wr => ∃ (k : Nat) (vt vi vf vg vx ve vd kv : Value) (mm : Mdl) (cc : List Cd) (sz : SB), k ≤ N ∧ i = .int .i64 k ∧ Hid (cc.length ≤ 1000 + k) ∧ Hid (okSc sz) ∧ Hid (P = loopM 10 (N - k) (mm, cc) sz) ∧ Hid (RS w wr H M K B all sz vt vi vf vg vx ve vd kv mm cc)) (fun i _ => N - (RowKit.intOf i).toNat)
  case atStart => exact ⟨0, _, _, _, _, _, _, _, _, m, cs, s1, Nat.zero_le _, rfl, HB0, S1, HM1, A1⟩
  case round =>
    clear A0 A1 S1 S0 HM0 HM1
    obtain ⟨k, vt, vi, vf, vg, vx, ve, vd, kv, mm, cc, s2, hk, rfl, HBN, S2, HM2, A2⟩ := hrel
    have y2 := A2.out.cu.cell (i := 2) rfl
    by_cases hlt : k < N
    · by_cases hz : s2.2 ≠ 0
      · have hz2 : (s2.2 != 0) = true := by simpa using hz
        have HM3 := hid (show P = ((mm, cc), s2) from HM2.out.trans (loop_st hz))
        clear hz
        go_wp2_with fail
        first | go_end0 | refine bodyPost_ret (results_none rfl _ _ _) rfl ?_
        exact ⟨rfl, vt, vi, vf, vg, vx, ve, vd, kv, by rw [HM3.out]; exact A2.out⟩
      have hz2 : (s2.2 != 0) = false := by simpa using hz
      have HM2 := hid (show P = LG 10 up10 (N - (k + 1)) (mm, cc) (codeM s2) from HM2.out.trans (by rw [show N - k = N - (k + 1) + 1 by omega]; exact loop_go (Classical.byContradiction hz) rfl))
      clear hz
      have hn0 : (fnC cc).length = cc.length := by unfold fnC; rw [List.length_map]
      obtain ⟨css0, -, hrow⟩ := A2.out.kr
      obtain ⟨ao, cap, rfl, _⟩ := own_sl hrow
      have A2 := A2.out
      rw [hn0] at A2
      have A2 := hid A2
      have HN0 := hid hn0
      clear hrow hn0
      have A3 := hid A2.out.drew
      have HM3 := HM2
      have S3 := S2
      go_wp2_with fail
      refine wp_region_tail (S := (fun w' => w'.cell? ⟨K, 0, none⟩ = some (.slice ao cc.length cap))) 9 (by kernel_rfl) (by kernel_rfl) ?_ (fun hHeld => ?_)
      · exact A3.out.kb.cell (i := 0) rfl
      repeat ((first | refine tk 0 ?_ rfl ?_ ?_ | refine tk 1 ?_ rfl ?_ ?_ | refine tk 2 ?_ rfl ?_ ?_ | refine tk 3 ?_ rfl ?_ ?_ | refine tk 4 ?_ rfl ?_ ?_ | refine tk 8 ?_ rfl ?_ ?_); rotate_left; (intro wy hSw; (try dsimp only at hSw); (go_simp <;> with_reducible rfl)); (try simp only [List.getElem_toArray, List.getElem_cons_zero, List.getElem_cons_succ, Act.put, List.setIfInBounds_toArray, List.set_cons_zero, List.set_cons_succ]))
      refine wpT_one (k := 5) rfl (by kernel_rfl) (fun K hK => ?_)
      go_simp
      refine (ccode_any WW _ B all s2 HML.out (HTB.out _ A3.out.tt) HWB.out A3.out.cu S3.out).mono ?_
      rintro r w4 ⟨u, v, hr, h4, hu, hv, t4⟩
      have hle := with_le codA ([], []) s2
      have hcd : withM codA ([], []) s2 = codeM s2 := rfl
      rw [hcd] at hle
      obtain ⟨v4, s4, hv4⟩ : ∃ vz sz, codeM s2 = (vz, sz) := ⟨_, _, rfl⟩
      have HM4 := hid (show P = LG 10 up10 (N - (k + 1)) (mm, cc) (v4, s4) from HM3.out.trans (by rw [hv4]))
      rw [hv4] at h4 hle hu hv
      subst hr
      have A4 := hid (A3.out.read t4 h4)
      have S4 := hid (S3.out.le hle)
      have U4 := hid (own_mono' hu A3.out.size)
      have V4 := hid (hv.mono A3.out.size)
      clear h4 t4 hle hv4 hu hv hcd
      obtain ⟨au, cu, rfl, _⟩ := own_sl U4.out
      obtain ⟨cssv, -, hv2⟩ := id V4.out
      obtain ⟨av, cv, rfl, _⟩ := own_sl hv2
      clear hv2
      have HX4 := hid (show EFn w4 H [.int .i64 0, .slice au v4.1.length cu, .slice av v4.2.length cv] (0, v4.1, v4.2) from ⟨_, _, rfl, U4.out, V4.out⟩)
      refine hK.out _ _ ?_ (fun hHeld => ?_)
      · exact A4.out.kb.cell (i := 0) rfl
      clear hK K
      (try simp only [Act.put, List.setIfInBounds_toArray, List.set_cons_zero, List.set_cons_succ])
      refine wpT_one (k := 6) rfl (by kernel_rfl) (fun K hK => ?_)
      go_simp
      refine hK.out _ _ ?_ (fun hHeld => ?_)
      · exact cell_alloc _ (A4.out.kb.cell (i := 0) rfl)
      clear hK K
      (try simp only [Act.put, List.setIfInBounds_toArray, List.set_cons_zero, List.set_cons_succ])
      obtain ⟨css, HC, hrow⟩ := A4.out.kr
      have HBN2 := HBN.out
      have HN02 := HN0.out
      rw [HN02] at hrow
      refine wpT_one (k := 7) rfl (by kernel_rfl) (fun K hK => ?_)
      refine step_one1 elem_funcv (cs := [.int .i64 0, .slice au v4.1.length cu, .slice av v4.2.length cv]) (by rfl) _ _ (by rfl) (by rfl) (by rfl) rfl hrow rfl (by intro c hc; simp at hc; rcases hc with rfl | rfl | rfl <;> rfl) (by omega) (by omega) A4.out.size ?_
      intro v' w6 ho6 hb6 hg6
      obtain ⟨az, cz, rfl, _⟩ := own_sl ho6
      have C4 := hid (A4.out.pushC rfl HC hrow HX4.out hg6 ho6)
      have y0 := C4.out.1.1
      have yf := C4.out.1.2
      refine hK.out _ _ ?_ (fun hHeld => ?_)
      · exact y0
      clear hK K
      (try simp only [Act.put, List.setIfInBounds_toArray, List.set_cons_zero, List.set_cons_succ])
      repeat ((first | refine tk 8 ?_ rfl ?_ ?_); rotate_left; (intro wy hSw; (try dsimp only at hSw); (go_simp <;> with_reducible rfl)); (try simp only [List.getElem_toArray, List.getElem_cons_zero, List.getElem_cons_succ, Act.put, List.setIfInBounds_toArray, List.set_cons_zero, List.set_cons_succ]))
      refine wpT_done (by kernel_rfl) ?_
      go_wp2_with fail
      go_roundw
      case rel => exact ⟨k + 1, _, _, _, _, _, _, _, _, _, _, s4, hlt, by go_num, hid (by have := HBN.out; simp; omega), S4, hid HM4.out, hid C4.out.2⟩
      case measure => simp [RowKit.intOf]; omega
    have HM3 := hid (show P = ((mm, cc), s2) from HM2.out.trans (by rw [show N - k = 0 by omega]; rfl))
    go_wp2_with fail
    first | go_end0 | refine bodyPost_ret (results_none rfl _ _ _) rfl ?_
    exact ⟨rfl, vt, vi, vf, vg, vx, ve, vd, kv, by rw [HM3.out]; exact A2.out⟩
end Go.Proofs.YtakfineljffoaaaGreatDoor
namespace Go.Proofs.YtakfineljffoaaaGreatDoor
open Go.RowKit Go.Lib

theorem csection_any (WW w : World) (hM : MaxL WW) (hW : Below WW.heap.size WW w) (H M K B : Nat) (hWM : WW.heap.size ≤ M) (hWK : WW.heap.size ≤ K) (all : Int) (s : SB) (vt vi vf vg vx ve vd kv : Value) (m : Mdl) (cs : List Cd) (h : RS w w H M K B all s vt vi vf vg vx ve vd kv m cs) (hs : okSc s) (hsm : Small m 1000) (hcl : cs.length ≤ 1000) (id : Nat) (h1 : 1 ≤ id) (h2 : id ≤ 11) :
    Calls Tryz.prog 24 #[.pointer (some ⟨B, 0, none⟩), .int .i64 (id : Int), .pointer (some ⟨M, 0, none⟩), .pointer (some ⟨K, 0, none⟩)] w (fun e w' => e = .returned (.tuple #[]) ∧ ∃ vt vi vf vg vx ve vd kv, RS w w' H M K B all (secM id (m, cs) s).2 vt vi vf vg vx ve vd kv (secM id (m, cs) s).1.1 (secM id (m, cs) s).1.2) := by
  have hid : id = 1 ∨ id = 2 ∨ id = 3 ∨ id = 4 ∨ id = 5 ∨ id = 6 ∨ id = 7 ∨ id = 8 ∨ id = 9 ∨ id = 10 ∨ id = 11 := by omega
  rcases hid with rfl | rfl | rfl | rfl | rfl | rfl | rfl | rfl | rfl | rfl | rfl
  · exact csec1_any w H M K B all s vt vi vf vg vx ve vd kv m cs h hs hsm.t
  · exact csec2_any w H M K B all s vt vi vf vg vx ve vd kv m cs h hs hsm.i
  · exact csec3_any w H M K B all s vt vi vf vg vx ve vd kv m cs h hs hsm.f
  · exact csec4_any w H M K B all s vt vi vf vg vx ve vd kv m cs h hs
  · exact csec5_any w H M K B all s vt vi vf vg vx ve vd kv m cs h hs
  · exact csec6_any w H M K B all s vt vi vf vg vx ve vd kv m cs h hs hsm.g
  · exact csec7_any w H M K B all s vt vi vf vg vx ve vd kv m cs h hs hsm.x
  · exact csec8_any w H M K B all s vt vi vf vg vx ve vd kv m cs h hs
  · exact csec9_any w H M K B all s vt vi vf vg vx ve vd kv m cs h hs hsm.e
  · exact csec10_any w H M K B all s vt vi vf vg vx ve vd kv m cs h hs WW hM hW hWM hWK hcl
  · exact csec11_any w H M K B all s vt vi vf vg vx ve vd kv m cs h hs hsm.d
set_option maxRecDepth 100000 in
set_option maxHeartbeats 2000000 in
theorem cread1_any (WW w : World) (hM : MaxL WW) (hW : Below WW.heap.size WW w) (H M K B : Nat) (hWM : WW.heap.size ≤ M) (hWK : WW.heap.size ≤ K) (all : Int) (s : SB) (vt vi vf vg vx ve vd kv : Value) (m : Mdl) (cs : List Cd) (h : RS w w H M K B all s vt vi vf vg vx ve vd kv m cs) (hs : okSc s) (hsm : Small m 1000) (hcl : cs.length ≤ 1000) (id : Nat) (h1 : 1 ≤ id) (h2 : id ≤ 11) (I : Nat) (hI : w.cell? ⟨I, 0, none⟩ = some (.int .i64 (id : Int))) :
    Calls Tryz.prog 23 #[.pointer (some ⟨B, 0, none⟩), .pointer (some ⟨I, 0, none⟩), .pointer (some ⟨M, 0, none⟩), .pointer (some ⟨K, 0, none⟩)] w (fun e w' => e = .returned (.tuple #[]) ∧ ∃ vt vi vf vg vx ve vd kv, RS w w' H M K B all (secM id (m, cs) s).2 vt vi vf vg vx ve vd kv (secM id (m, cs) s).1.1 (secM id (m, cs) s).1.2) := by
  have HC := hid (csection_any WW w hM hW H M K B hWM hWK all s vt vi vf vg vx ve vd kv m cs h hs hsm hcl id h1 h2)
  clear hM hW hWM hWK h hs hsm hcl h1 h2
  generalize secM id (m, cs) s = P at *
  go_enter Tryz.func23, Tryz.ntmps23
  go_wp2_with fail
  refine HC.out.mono ?_
  rintro r w' ⟨rfl, hq⟩
  have HQ := hid hq
  clear hq hI
  go_wp2_with fail
  first | go_end0 | refine bodyPost_ret (results_none rfl _ _ _) rfl ?_
  exact ⟨rfl, HQ.out⟩
/-- the module and the codes between two sections; R: what will be handed back -/
structure RQ (w : World) (H M K R : Nat) (vt vi vf vg vx ve vd kv : Value) (m : Mdl) (cs : List Cd) : Prop where
  mo : MO w H M vt vi vf vg vx ve vd m
  kb : Blk w K 24 [kv]
  kr : OwR EFn 66 3 w H kv (fnC cs)
  sp : Sep kv vf
  r0 : Blk w R 30 zeroC
  hH : H ≤ w.heap.size
theorem RQ.kt {bad : TypeId} {w w' : World} {H M K R : Nat} {vt vi vf vg vx ve vd kv : Value} {m : Mdl} {cs : List Cd} (h : RQ w H M K R vt vi vf vg vx ve vd kv m cs) (k : KT bad w w') (hb : NoM bad) (hb2 : (24 == bad) = false) : RQ w' H M K R vt vi vf vg vx ve vd kv m cs :=
  ⟨h.mo.kt k hb, k.blk h.kb hb2, h.kr.keep k hb.rf (EFn.kt k hb.toInn), h.sp, k.blk h.r0 hb.m, Nat.le_trans h.hH k.1⟩
theorem noM_int : NoM 114 := by constructor <;> first | rfl | (constructor <;> rfl)
theorem RQ.below {w w' : World} {H M K R : Nat} {vt vi vf vg vx ve vd kv : Value} {m : Mdl} {cs : List Cd} (h : RQ w H M K R vt vi vf vg vx ve vd kv m cs) (hb : Below w.heap.size w w') : RQ w' H M K R vt vi vf vg vx ve vd kv m cs := h.kt (KT.below (bad := 58) hb) noM_cu rfl
theorem RQ.rs {w : World} {H M K R D : Nat} {all : Int} {s : SB} {vt vi vf vg vx ve vd kv : Value} {m : Mdl} {cs : List Cd} (h : RQ w H M K R vt vi vf vg vx ve vd kv m cs) (g : CuB w D all s) (hM : M < H) (hK : K < H) (hn : M ≠ K) (hD : H ≤ D) : RS w w H M K D all s vt vi vf vg vx ve vd kv m cs :=
  ⟨g, h.mo, h.kb, h.kr, h.sp, Touch.refl _ _, hM, hK, hn, hD, h.hH⟩
theorem RS.rq {w w' : World} {H M K R D : Nat} {all : Int} {s : SB} {vt vi vf vg vx ve vd kv : Value} {m : Mdl} {cs : List Cd} (h : RS w w' H M K D all s vt vi vf vg vx ve vd kv m cs) (g : Blk w R 30 zeroC) (h1 : R ≠ M) (h2 : R ≠ K) (h3 : R < H) : RQ w' H M K R vt vi vf vg vx ve vd kv m cs :=
  ⟨h.mo, h.kb, h.kr, h.sp, g.touch h.tt (fun e => by rcases e with e | e | e; exact h1 e; exact h2 e; omega), h.size⟩
def lenAt (w : World) (C : Nat) : Nat := match w.cell? ⟨C, 0, none⟩ with
  | some (.string t) => t.size
  | _ => 0
theorem lenAt_cu {w : World} {C : Nat} {all : Int} {s : SB} (h : CuB w C all s) : lenAt w C = s.1.size := by
  unfold lenAt
  rw [h.cell (i := 0) rfl]
theorem datC_le (p n : Int) (s : SB) : (datC p n s).2.1.size ≤ s.1.size := by
  unfold datC
  split
  · simp only [ByteArray.size_extract]; omega
  · exact Nat.le_refl _
theorem sec_le (id : Nat) (x : MC) (s : SB) : (secM id x s).2.1.size ≤ s.1.size := by
  have hone : ∀ (x : MC) (s : SB), (oneM id x s).2.1.size ≤ s.1.size := by
    intro x s
    unfold oneM
    have hk : ∀ (n : Nat) (xs : List Int) (s : SB), (kndsA n xs s).2.1.size ≤ s.1.size := by
      intro n
      induction n with
      | zero => intro xs s; exact Nat.le_refl _
      | succ n ih => intro xs s; exact Nat.le_trans (ih _ _) (knd_le s)
    have hn : ∀ (n : Nat) (xs : List Int) (s : SB), (numsA n xs s).2.1.size ≤ s.1.size := by
      intro n
      induction n with
      | zero => intro xs s; exact Nat.le_refl _
      | succ n ih => intro xs s; exact Nat.le_trans (ih _ _) (num_le s)
    have he : ∀ s : SB, (expM s).2.1.size ≤ s.1.size := fun s => Nat.le_trans (num_le _) (Nat.le_trans (mst_le _ _ _) (nam_le s))
    split
    · exact Nat.le_trans (hk _ _ _) (Nat.le_trans (cnt_le 1 (by decide) _) (Nat.le_trans (hk _ _ _) (Nat.le_trans (cnt_le 4 (by decide) _) (mst_le _ _ _))))
    · exact Nat.le_trans (he _) (Nat.le_trans (say_le _ _ _) (nam_le s))
    · exact num_le s
    · exact Nat.le_trans (cnt_le 16 (by decide) _) (Nat.le_trans (mst_le _ _ _) (mst_le _ _ _))
    · exact Nat.le_trans (say_le _ _ _) (Nat.le_trans (say_le _ _ _) (Nat.le_trans (num_le _) (Nat.le_trans (num_le _) (mst_le _ _ _))))
    · exact glb_le s
    · exact he s
    · exact Nat.le_trans (hn _ _ _) (Nat.le_trans (cnt_le 16 (by decide) _) (plc_le s))
    · exact with_le codA ([], []) s
    · exact Nat.le_trans (datC_le _ _ _) (Nat.le_trans (say_le _ _ _) (Nat.le_trans (cnt_le 64 (by decide) _) (plc_le s)))
    · exact Nat.le_refl _
  have hloop : ∀ (n : Nat) (x : MC) (s : SB), (loopM id n x s).2.1.size ≤ s.1.size := by
    intro n
    induction n with
    | zero => intro x s; exact Nat.le_refl _
    | succ n ih =>
      intro x s
      rw [loopM]
      split
      · exact Nat.le_refl _
      · exact Nat.le_trans (ih _ _) (hone x s)
  unfold secM
  split
  · exact Nat.le_trans (say_le _ _ _) (num_le s)
  · exact Nat.le_trans (hloop _ _ _) (cnt_le _ (lim_le id).1 s)
end Go.Proofs.YtakfineljffoaaaGreatDoor
