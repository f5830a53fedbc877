/-
  MODULES READ, the program's reader: section, at every number. Conditions: a text in the form's reach; short rows. Printed by a program of mine.
-/
import Derived.Test.YtakfineljffoaaaGreatDoorGBinReads28
import Derived.Test.YtakfineljffoaaaGreatDoorGBinReads31
import Derived.Test.YtakfineljffoaaaGreatDoorGBinReads32
import Derived.Test.YtakfineljffoaaaGreatDoorGBinReads34
import Derived.Test.YtakfineljffoaaaGreatDoorGBinReads35
import Derived.Test.YtakfineljffoaaaGreatDoorGBinReads36
import Derived.Test.YtakfineljffoaaaGreatDoorGBinReads37
import Derived.Test.YtakfineljffoaaaGreatDoorGBinReads38
import Derived.Test.YtakfineljffoaaaGreatDoorGBinReads40
import Derived.Test.YtakfineljffoaaaGreatDoorGBinReads41
import Derived.Recover
namespace Go.Proofs.YtakfineljffoaaaGreatDoor
open Go.RowKit Go.Lib

set_option maxRecDepth 100000 in
set_option maxHeartbeats 4000000 in
theorem bsec7_any (w : World) (H M B : Nat) (t : ByteArray) (a : Nat) (vt vi vf vg vx ve vd : Value) (m : Mdl) (cs : List Cd) (h : MS w w H M B t a vt vi vf vg vx ve vd m) (ha : a ≤ t.size) (hs : t.size ≤ 1000000000) (WW : World) (hT : UTabs WW) (hW : Below WW.heap.size WW w) (hWM : WW.heap.size ≤ M) (hl : m.exports.length ≤ 1000) :
    Calls Tryz.prog 16 #[.pointer (some ⟨B, 0, none⟩), .int .u8 7, .pointer (some ⟨M, 0, none⟩)] w (PSec H M B t (.int .i64 0) (secM 7 (m, cs) (left t a, 0)).1.1 (secM 7 (m, cs) (left t a, 0)).2 w) := by
  have HC := hid (blat7_any w H M B t a vt vi vf vg vx ve vd m cs h ha hs WW hT hW hWM hl)
  clear h hT hW hWM hl
  generalize (secM 7 (m, cs) (left t a, 0)) = P at *
  go_enter Tryz.func16, Tryz.ntmps16
  go_wp2_with fail
  refine HC.out.mono ?_
  rintro r w' ⟨ht, hor⟩
  have HT := hid ht
  clear ht
  rcases hor with ⟨hz, rfl, hq⟩ | ⟨hn, rfl, hm⟩
  · have HZ := hid hz
    have HQ := hid hq
    clear hz hq
    go_wp2_with fail
    go_ret
    exact ⟨HT.out, .inl ⟨HZ.out, rfl, HQ.out⟩⟩
  · have HZ := hid hn
    have HQ := hid hm
    clear hn hm
    go_wp2_with fail
    exact ⟨rfl, HT.out, .inr ⟨HZ.out, rfl, HQ.out⟩⟩
set_option maxRecDepth 100000 in
set_option maxHeartbeats 4000000 in
theorem bsec8_any (w : World) (H M B : Nat) (t : ByteArray) (a : Nat) (vt vi vf vg vx ve vd : Value) (m : Mdl) (cs : List Cd) (h : MS w w H M B t a vt vi vf vg vx ve vd m) (ha : a ≤ t.size) (hs : t.size ≤ 1000000000) :
    Calls Tryz.prog 16 #[.pointer (some ⟨B, 0, none⟩), .int .u8 8, .pointer (some ⟨M, 0, none⟩)] w (PSec H M B t (.int .i64 0) (secM 8 (m, cs) (left t a, 0)).1.1 (secM 8 (m, cs) (left t a, 0)).2 w) := by
  have HC := hid (blat8_any w H M B t a vt vi vf vg vx ve vd m cs h ha hs)
  clear h
  generalize (secM 8 (m, cs) (left t a, 0)) = P at *
  go_enter Tryz.func16, Tryz.ntmps16
  go_wp2_with fail
  refine HC.out.mono ?_
  rintro r w' ⟨ht, hor⟩
  have HT := hid ht
  clear ht
  rcases hor with ⟨hz, rfl, hq⟩ | ⟨hn, rfl, hm⟩
  · have HZ := hid hz
    have HQ := hid hq
    clear hz hq
    go_wp2_with fail
    go_ret
    exact ⟨HT.out, .inl ⟨HZ.out, rfl, HQ.out⟩⟩
  · have HZ := hid hn
    have HQ := hid hm
    clear hn hm
    go_wp2_with fail
    exact ⟨rfl, HT.out, .inr ⟨HZ.out, rfl, HQ.out⟩⟩
set_option maxRecDepth 100000 in
set_option maxHeartbeats 4000000 in
theorem bsec9_any (w : World) (H M B : Nat) (t : ByteArray) (a : Nat) (vt vi vf vg vx ve vd : Value) (m : Mdl) (cs : List Cd) (h : MS w w H M B t a vt vi vf vg vx ve vd m) (ha : a ≤ t.size) (hs : t.size ≤ 1000000000) (hl : m.elems.length ≤ 1000) :
    Calls Tryz.prog 16 #[.pointer (some ⟨B, 0, none⟩), .int .u8 9, .pointer (some ⟨M, 0, none⟩)] w (PSec H M B t (.int .i64 0) (secM 9 (m, cs) (left t a, 0)).1.1 (secM 9 (m, cs) (left t a, 0)).2 w) := by
  have HC := hid (blat9_any w H M B t a vt vi vf vg vx ve vd m cs h ha hs hl)
  clear h hl
  generalize (secM 9 (m, cs) (left t a, 0)) = P at *
  go_enter Tryz.func16, Tryz.ntmps16
  go_wp2_with fail
  refine HC.out.mono ?_
  rintro r w' ⟨ht, hor⟩
  have HT := hid ht
  clear ht
  rcases hor with ⟨hz, rfl, hq⟩ | ⟨hn, rfl, hm⟩
  · have HZ := hid hz
    have HQ := hid hq
    clear hz hq
    go_wp2_with fail
    go_ret
    exact ⟨HT.out, .inl ⟨HZ.out, rfl, HQ.out⟩⟩
  · have HZ := hid hn
    have HQ := hid hm
    clear hn hm
    go_wp2_with fail
    exact ⟨rfl, HT.out, .inr ⟨HZ.out, rfl, HQ.out⟩⟩
set_option maxRecDepth 100000 in
set_option maxHeartbeats 4000000 in
theorem bsec11_any (w : World) (H M B : Nat) (t : ByteArray) (a : Nat) (vt vi vf vg vx ve vd : Value) (m : Mdl) (cs : List Cd) (h : MS w w H M B t a vt vi vf vg vx ve vd m) (ha : a ≤ t.size) (hs : t.size ≤ 1000000000) (hl : m.data.length ≤ 1000) :
    Calls Tryz.prog 16 #[.pointer (some ⟨B, 0, none⟩), .int .u8 11, .pointer (some ⟨M, 0, none⟩)] w (PSec H M B t (.int .i64 0) (secM 11 (m, cs) (left t a, 0)).1.1 (secM 11 (m, cs) (left t a, 0)).2 w) := by
  have HC := hid (blat11_any w H M B t a vt vi vf vg vx ve vd m cs h ha hs hl)
  clear h hl
  generalize (secM 11 (m, cs) (left t a, 0)) = P at *
  go_enter Tryz.func16, Tryz.ntmps16
  go_wp2_with fail
  refine HC.out.mono ?_
  rintro r w' ⟨ht, hor⟩
  have HT := hid ht
  clear ht
  rcases hor with ⟨hz, rfl, hq⟩ | ⟨hn, rfl, hm⟩
  · have HZ := hid hz
    have HQ := hid hq
    clear hz hq
    go_wp2_with fail
    go_ret
    exact ⟨HT.out, .inl ⟨HZ.out, rfl, HQ.out⟩⟩
  · have HZ := hid hn
    have HQ := hid hm
    clear hn hm
    go_wp2_with fail
    exact ⟨rfl, HT.out, .inr ⟨HZ.out, rfl, HQ.out⟩⟩
set_option maxRecDepth 100000 in
set_option maxHeartbeats 4000000 in
theorem bsec10_any (w : World) (H M B : Nat) (t : ByteArray) (a : Nat) (vt vi vf vg vx ve vd : Value) (m : Mdl) (h : MS w w H M B t a vt vi vf vg vx ve vd m) (ha : a ≤ t.size) (hs : t.size ≤ 1000000000) (hl : m.funcs.length ≤ 1000) :
    Calls Tryz.prog 16 #[.pointer (some ⟨B, 0, none⟩), .int .u8 10, .pointer (some ⟨M, 0, none⟩)] w (PSec H M B t (.int .i64 ((secM 10 (m, []) (left t a, 0)).1.2.length : Int)) { m with funcs := updF m.funcs (secM 10 (m, []) (left t a, 0)).1.2 } (secM 10 (m, []) (left t a, 0)).2 w) := by
  have HC := hid (bcodes_any w H M B t a vt vi vf vg vx ve vd m h ha hs hl)
  clear h hl
  generalize (secM 10 (m, []) (left t a, 0)) = P at *
  go_enter Tryz.func16, Tryz.ntmps16
  go_wp2_with fail
  refine HC.out.mono ?_
  rintro r w' ⟨ht, hor⟩
  have HT := hid ht
  clear ht
  rcases hor with ⟨hz, rfl, hq⟩ | ⟨hn, rfl, hm⟩
  · have HZ := hid hz
    have HQ := hid hq
    clear hz hq
    go_wp2_with fail
    go_ret
    exact ⟨HT.out, .inl ⟨HZ.out, rfl, HQ.out⟩⟩
  · have HZ := hid hn
    have HQ := hid hm
    clear hn hm
    go_wp2_with fail
    exact ⟨rfl, HT.out, .inr ⟨HZ.out, rfl, HQ.out⟩⟩
theorem PSec.of {H M B : Nat} {t : ByteArray} {v v' : Value} {fin fin' : Mdl} {s s' : SB} {w w' : World} {e : Ending} (h : PSec H M B t v fin s w e w') (hv : v = v') (hf : fin = fin') (hs : s = s') : PSec H M B t v' fin' s' w e w' := by subst hv hf hs; exact h
/-- section, at every number -/
theorem bsection_any (WW w : World) (hT : UTabs WW) (hW : Below WW.heap.size WW w) (H M B : Nat) (hWM : WW.heap.size ≤ M) (t : ByteArray) (a : Nat) (vt vi vf vg vx ve vd : Value) (m : Mdl) (cs : List Cd) (h : MS w w H M B t a vt vi vf vg vx ve vd { m with funcs := updF m.funcs cs }) (ha : a ≤ t.size) (hs : t.size ≤ 1000000000) (hsm : Small m 1000) (id : Nat) (h1 : 1 ≤ id) (h2 : id ≤ 11) (hcs : id ≤ 10 → cs = []) :
    Calls Tryz.prog 16 #[.pointer (some ⟨B, 0, none⟩), .int .u8 (id : Int), .pointer (some ⟨M, 0, none⟩)] w (PSec H M B t (.int .i64 (((secM id (m, cs) (left t a, 0)).1.2.length : Int) - (cs.length : Int))) { (secM id (m, cs) (left t a, 0)).1.1 with funcs := updF (secM id (m, cs) (left t a, 0)).1.1.funcs (secM id (m, cs) (left t a, 0)).1.2 } (secM id (m, cs) (left t a, 0)).2 w) := by
  by_cases h11 : id = 11
  · subst h11
    have e := sec_wf (m, cs) (updF m.funcs cs) (left t a, 0)
    have e2 := sec_cs (id := 11) (by decide) (m, cs) (left t a, 0)
    have e3 := sec_fn (m, cs) (left t a, 0)
    refine (bsec11_any w H M B t a vt vi vf vg vx ve vd { m with funcs := updF m.funcs cs } cs h ha hs (by exact hsm.d)).mono (fun e' w' hp => hp.of ?_ ?_ ?_)
    · rw [e2]; simp
    · show (secM 11 (wf (m, cs) (updF m.funcs cs)) (left t a, 0)).1.1 = _
      rw [e, e2, e3]
      rfl
    · show (secM 11 (wf (m, cs) (updF m.funcs cs)) (left t a, 0)).2 = _
      rw [e]
  · obtain rfl := hcs (by omega)
    rw [updF_nil] at h
    by_cases h10 : id = 10
    · subst h10
      refine (bsec10_any w H M B t a vt vi vf vg vx ve vd m h ha hs hsm.f).mono (fun e' w' hp => hp.of ?_ ?_ rfl)
      · simp
      · rw [sec_ten]
    · have e2 := sec_cs (id := id) h10 (m, []) (left t a, 0)
      have hid : id = 1 ∨ id = 2 ∨ id = 3 ∨ id = 4 ∨ id = 5 ∨ id = 6 ∨ id = 7 ∨ id = 8 ∨ id = 9 := by omega
      have fin : ∀ e' w', PSec H M B t (.int .i64 0) (secM id (m, []) (left t a, 0)).1.1 (secM id (m, []) (left t a, 0)).2 w e' w' → PSec H M B t (.int .i64 (((secM id (m, []) (left t a, 0)).1.2.length : Int) - (([] : List Cd).length : Int))) { (secM id (m, []) (left t a, 0)).1.1 with funcs := updF (secM id (m, []) (left t a, 0)).1.1.funcs (secM id (m, []) (left t a, 0)).1.2 } (secM id (m, []) (left t a, 0)).2 w e' w' := by
        intro e' w' hp
        refine hp.of ?_ ?_ rfl
        · rw [e2]; simp
        · rw [e2, updF_nil]
      rcases hid with rfl | rfl | rfl | rfl | rfl | rfl | rfl | rfl | rfl
      · exact (bsec1_any w H M B t a vt vi vf vg vx ve vd m [] h ha hs hsm.t).mono fin
      · exact (bsec2_any w H M B t a vt vi vf vg vx ve vd m [] h ha hs WW hT hW hWM hsm.i).mono fin
      · exact (bsec3_any w H M B t a vt vi vf vg vx ve vd m [] h ha hs hsm.f).mono fin
      · exact (bsec4_any w H M B t a vt vi vf vg vx ve vd m [] h ha hs).mono fin
      · exact (bsec5_any w H M B t a vt vi vf vg vx ve vd m [] h ha hs).mono fin
      · exact (bsec6_any w H M B t a vt vi vf vg vx ve vd m [] h ha hs hsm.g).mono fin
      · exact (bsec7_any w H M B t a vt vi vf vg vx ve vd m [] h ha hs WW hT hW hWM hsm.x).mono fin
      · exact (bsec8_any w H M B t a vt vi vf vg vx ve vd m [] h ha hs).mono fin
      · exact (bsec9_any w H M B t a vt vi vf vg vx ve vd m [] h ha hs hsm.e).mono fin
end Go.Proofs.YtakfineljffoaaaGreatDoor
namespace Go.Proofs.YtakfineljffoaaaGreatDoor
open Go.RowKit Go.Lib

/-- the cells of a module without anything -/
def zeroC : List Value := [.slice none 0 0, .slice none 0 0, .slice none 0 0, .int .i64 0, .int .i64 0, .int .i64 0, .slice none 0 0, .slice none 0 0, .int .i64 0, .slice none 0 0, .slice none 0 0]
theorem eleven {cc : List Value} (h : cc.length = 11) : ∃ c0 c1 c2 c3 c4 c5 c6 c7 c8 c9 c10, cc = [c0, c1, c2, c3, c4, c5, c6, c7, c8, c9, c10] := by
  match cc, h with
  | [c0, c1, c2, c3, c4, c5, c6, c7, c8, c9, c10], _ => exact ⟨c0, c1, c2, c3, c4, c5, c6, c7, c8, c9, c10, rfl⟩
theorem catch_cells (w : World) (M E : Nat) (x : Int) (c0 c1 c2 c3 c4 c5 c6 c7 c8 c9 c10 : Value) (hne : ¬ M = E) (HM : Blk w M 30 [c0, c1, c2, c3, c4, c5, c6, c7, c8, c9, c10]) (HE : Blk w E 31 [.int .i64 0]) (w0 : World) (HT : Touch (fun k => k = M ∨ k = E) w0 w) :
    Touch (fun k => k = M ∨ k = E) w0 (World.setCell (World.setCell (World.setCell (World.setCell (World.setCell (World.setCell (World.setCell (World.setCell (World.setCell (World.setCell (World.setCell (World.setCell w ⟨M, 0, none⟩ (.slice none 0 0)) ⟨M, 1, none⟩ (.slice none 0 0)) ⟨M, 2, none⟩ (.slice none 0 0)) ⟨M, 3, none⟩ (.int .i64 0)) ⟨M, 4, none⟩ (.int .i64 0)) ⟨M, 5, none⟩ (.int .i64 0)) ⟨M, 6, none⟩ (.slice none 0 0)) ⟨M, 7, none⟩ (.slice none 0 0)) ⟨M, 8, none⟩ (.int .i64 0)) ⟨M, 9, none⟩ (.slice none 0 0)) ⟨M, 10, none⟩ (.slice none 0 0)) ⟨E, 0, none⟩ (.int .i64 x)) ∧ Blk (World.setCell (World.setCell (World.setCell (World.setCell (World.setCell (World.setCell (World.setCell (World.setCell (World.setCell (World.setCell (World.setCell (World.setCell w ⟨M, 0, none⟩ (.slice none 0 0)) ⟨M, 1, none⟩ (.slice none 0 0)) ⟨M, 2, none⟩ (.slice none 0 0)) ⟨M, 3, none⟩ (.int .i64 0)) ⟨M, 4, none⟩ (.int .i64 0)) ⟨M, 5, none⟩ (.int .i64 0)) ⟨M, 6, none⟩ (.slice none 0 0)) ⟨M, 7, none⟩ (.slice none 0 0)) ⟨M, 8, none⟩ (.int .i64 0)) ⟨M, 9, none⟩ (.slice none 0 0)) ⟨M, 10, none⟩ (.slice none 0 0)) ⟨E, 0, none⟩ (.int .i64 x)) M 30 zeroC ∧ Blk (World.setCell (World.setCell (World.setCell (World.setCell (World.setCell (World.setCell (World.setCell (World.setCell (World.setCell (World.setCell (World.setCell (World.setCell w ⟨M, 0, none⟩ (.slice none 0 0)) ⟨M, 1, none⟩ (.slice none 0 0)) ⟨M, 2, none⟩ (.slice none 0 0)) ⟨M, 3, none⟩ (.int .i64 0)) ⟨M, 4, none⟩ (.int .i64 0)) ⟨M, 5, none⟩ (.int .i64 0)) ⟨M, 6, none⟩ (.slice none 0 0)) ⟨M, 7, none⟩ (.slice none 0 0)) ⟨M, 8, none⟩ (.int .i64 0)) ⟨M, 9, none⟩ (.slice none 0 0)) ⟨M, 10, none⟩ (.slice none 0 0)) ⟨E, 0, none⟩ (.int .i64 x)) E 31 [.int .i64 x] := by
  exact ⟨(((((((((((HT.trans (Touch.setCell (F := fun k => k = M ∨ k = E) (a := ⟨M, 0, none⟩) (.inl rfl) (.slice none 0 0))).trans (Touch.setCell (F := fun k => k = M ∨ k = E) (a := ⟨M, 1, none⟩) (.inl rfl) (.slice none 0 0))).trans (Touch.setCell (F := fun k => k = M ∨ k = E) (a := ⟨M, 2, none⟩) (.inl rfl) (.slice none 0 0))).trans (Touch.setCell (F := fun k => k = M ∨ k = E) (a := ⟨M, 3, none⟩) (.inl rfl) (.int .i64 0))).trans (Touch.setCell (F := fun k => k = M ∨ k = E) (a := ⟨M, 4, none⟩) (.inl rfl) (.int .i64 0))).trans (Touch.setCell (F := fun k => k = M ∨ k = E) (a := ⟨M, 5, none⟩) (.inl rfl) (.int .i64 0))).trans (Touch.setCell (F := fun k => k = M ∨ k = E) (a := ⟨M, 6, none⟩) (.inl rfl) (.slice none 0 0))).trans (Touch.setCell (F := fun k => k = M ∨ k = E) (a := ⟨M, 7, none⟩) (.inl rfl) (.slice none 0 0))).trans (Touch.setCell (F := fun k => k = M ∨ k = E) (a := ⟨M, 8, none⟩) (.inl rfl) (.int .i64 0))).trans (Touch.setCell (F := fun k => k = M ∨ k = E) (a := ⟨M, 9, none⟩) (.inl rfl) (.slice none 0 0))).trans (Touch.setCell (F := fun k => k = M ∨ k = E) (a := ⟨M, 10, none⟩) (.inl rfl) (.slice none 0 0))).trans (Touch.setCell (F := fun k => k = M ∨ k = E) (a := ⟨E, 0, none⟩) (.inr rfl) (.int .i64 x)), (((((((((((HM.set 0 (.slice none 0 0)).set 1 (.slice none 0 0)).set 2 (.slice none 0 0)).set 3 (.int .i64 0)).set 4 (.int .i64 0)).set 5 (.int .i64 0)).set 6 (.slice none 0 0)).set 7 (.slice none 0 0)).set 8 (.int .i64 0)).set 9 (.slice none 0 0)).set 10 (.slice none 0 0)).other (a := ⟨E, 0, none⟩) (fun e => hne e.symm) (.int .i64 x), (((((((((((HE.other (a := ⟨M, 0, none⟩) hne (.slice none 0 0)).other (a := ⟨M, 1, none⟩) hne (.slice none 0 0)).other (a := ⟨M, 2, none⟩) hne (.slice none 0 0)).other (a := ⟨M, 3, none⟩) hne (.int .i64 0)).other (a := ⟨M, 4, none⟩) hne (.int .i64 0)).other (a := ⟨M, 5, none⟩) hne (.int .i64 0)).other (a := ⟨M, 6, none⟩) hne (.slice none 0 0)).other (a := ⟨M, 7, none⟩) hne (.slice none 0 0)).other (a := ⟨M, 8, none⟩) hne (.int .i64 0)).other (a := ⟨M, 9, none⟩) hne (.slice none 0 0)).other (a := ⟨M, 10, none⟩) hne (.slice none 0 0)).set 0 (.int .i64 x)⟩
theorem catch_drew {w0 W : World} {M E : Nat} {x : Int} (h : Touch (fun k => k = M ∨ k = E) w0 W ∧ Blk W M 30 zeroC ∧ Blk W E 31 [.int .i64 x]) : Touch (fun k => k = M ∨ k = E) w0 W.drew ∧ Blk W.drew M 30 zeroC ∧ Blk W.drew E 31 [.int .i64 x] := ⟨h.1.drew 1, h.2.1.drew 1, h.2.2.drew 1⟩
set_option maxRecDepth 100000 in
theorem catch_tmps (a b v : Value) : (#[a, b] ++ ((Array.replicate 17 undef).setIfInBounds 3 v).setIfInBounds 0 v : Array Value) = #[a, b, v, undef, undef, v, undef, undef, undef, undef, undef, undef, undef, undef, undef, undef, undef, undef, undef] := by rfl
set_option maxRecDepth 100000 in
theorem catch_tmpn (a b : Value) : (#[a, b] ++ ((Array.replicate 17 undef).setIfInBounds 3 .nilIface).setIfInBounds 0 .nilIface : Array Value) = #[a, b, .nilIface, undef, undef, .nilIface, undef, undef, undef, undef, undef, undef, undef, undef, undef, undef, undef, undef, undef] := by rfl
set_option maxRecDepth 100000 in
theorem ta_wrong (x : Int) (w : World) : (Instr.typeAssert (.iface 42 (.agg #[.int .i64 x])) 20 42 true).run Tryz.prog w = .ok (.tuple #[.agg #[.int .i64 x], .bool true]) w := by kernel_rfl
set_option maxRecDepth 100000 in
set_option maxHeartbeats 4000000 in
theorem catch_idle (w : World) (M E : Nat) :
    CallsD Tryz.prog 11 #[.pointer (some ⟨M, 0, none⟩), .pointer (some ⟨E, 0, none⟩)] .returning w fun e u' w' => e = .returned (.tuple #[]) ∧ u' = .returning ∧ w' = w := by
  refine callsD_of_wpS Tryz.func11 rfl fun c₀ cs hu => ?_
  apply wpS_seq
  apply wpS_region
  simp [wpOpsS, go_sem, recoverD, hu, Tryz.ntmps11, Exit.thenS]
  rw [catch_tmpn]
  refine wpS_of_wp ?_
  go_wp2_with fail
  exact ⟨rfl, _, by rw [← hu], _, results_none rfl _ _ _, rfl, rfl, rfl⟩
set_option maxRecDepth 100000 in
set_option maxHeartbeats 4000000 in
theorem catch_thrown (w : World) (M E : Nat) (x : Int) (cc : List Value) (hl : cc.length = 11) (hM : Blk w M 30 cc) (hE : Blk w E 31 [.int .i64 0]) (hne : M ≠ E) :
    CallsD Tryz.prog 11 #[.pointer (some ⟨M, 0, none⟩), .pointer (some ⟨E, 0, none⟩)] (.panicking [{ v := wrongV x, recovered := false }]) w fun e u' w' => e = .returned (.tuple #[]) ∧ u' = .panicking [{ v := wrongV x, recovered := true }] ∧
      Touch (fun k => k = M ∨ k = E) w w' ∧ Blk w' M 30 zeroC ∧ Blk w' E 31 [.int .i64 x] := by
  refine callsD_of_wpS Tryz.func11 rfl fun c₀ cs hu => ?_
  apply wpS_seq
  apply wpS_region
  unfold wrongV at hu
  simp [wpOpsS, go_sem, recoverD, hu, Tryz.ntmps11, Exit.thenS]
  have hta := ta_wrong x
  clear hu
  rw [catch_tmps]
  obtain ⟨c0, c1, c2, c3, c4, c5, c6, c7, c8, c9, c10, rfl⟩ := eleven hl
  have HM := hid (hM.alloc (.cells #[.int .i64 x] 42))
  have HE := hid (hE.alloc (.cells #[.int .i64 x] 42))
  have zf := HM.out.free
  have y0 := HM.out.cell (i := 0) rfl
  have y1 := HM.out.cell (i := 1) rfl
  have y2 := HM.out.cell (i := 2) rfl
  have y3 := HM.out.cell (i := 3) rfl
  have y4 := HM.out.cell (i := 4) rfl
  have y5 := HM.out.cell (i := 5) rfl
  have y6 := HM.out.cell (i := 6) rfl
  have y7 := HM.out.cell (i := 7) rfl
  have y8 := HM.out.cell (i := 8) rfl
  have y9 := HM.out.cell (i := 9) rfl
  have y10 := HM.out.cell (i := 10) rfl
  have ef := HE.out.free
  have ey := HE.out.cell (i := 0) rfl
  have hne2 : ¬ E = M := fun e => hne e.symm
  have hne1 : ¬ M = E := hne
  have HT := hid ((Touch.refl (fun k => k = M ∨ k = E) w).alloc (.cells #[.int .i64 x] 42))
  have hn1 : ¬ w.heap.size = M := fun e => by have := hM.lt; omega
  have hn2 : ¬ M = w.heap.size := fun e => hn1 e.symm
  have hn3 : ¬ w.heap.size = E := fun e => by have := hE.lt; omega
  have hn4 : ¬ E = w.heap.size := fun e => hn3 e.symm
  have nx := (Blk.new w #[.int .i64 x] 42 _ rfl).cell (i := 0) rfl
  clear hl hM hE hne
  refine wpS_of_wp ?_
  go_wp2_with fail
  go_region
  have hx := hid (catch_cells _ M E x c0 c1 c2 c3 c4 c5 c6 c7 c8 c9 c10 hne1 HM.out HE.out w HT.out)
  clear y0 y1 y2 y3 y4 y5 y6 y7 y8 y9 y10 zf ef ey nx hn1 hn2 hn3 hn4 hne1 hne2 hta HM HE HT
  go_wp2_with fail
  exact ⟨rfl, _, rfl, _, results_none rfl _ _ _, rfl, rfl, catch_drew hx.out⟩
end Go.Proofs.YtakfineljffoaaaGreatDoor
namespace Go.Proofs.YtakfineljffoaaaGreatDoor
open Go.RowKit Go.Lib

set_option maxRecDepth 100000 in
set_option maxHeartbeats 8000000 in
theorem csec1_any (w : World) (H M K B : Nat) (all : Int) (s : SB) (vt vi vf vg vx ve vd kv : Value) (m : Mdl) (cs : List Cd) (h : RS w w H M K B all s vt vi vf vg vx ve vd kv m cs) (hs : okSc s) (hl : m.types.length ≤ 1000) :
    Calls Tryz.prog 24 #[.pointer (some ⟨B, 0, none⟩), .int .i64 1, .pointer (some ⟨M, 0, none⟩), .pointer (some ⟨K, 0, none⟩)] w fun e w' => e = .returned (.tuple #[]) ∧ ∃ vt vi vf vg vx ve vd kv, RS w w' H M K B all (secM 1 (m, cs) s).2 vt vi vf vg vx ve vd kv (secM 1 (m, cs) s).1.1 (secM 1 (m, cs) s).1.2 := by
  have A0 := hid h
  have S0 := hid hs
  have HB0 := hid (show m.types.length ≤ 1000 + 0 from hl)
  clear h hs hl
  obtain ⟨P, hP⟩ : ∃ P, secM 1 (m, cs) s = P := ⟨_, rfl⟩
  have HM0 := hid hP.symm
  rw [hP]
  clear hP
  have LB0 := hid (show Below w.heap.size w (w.alloc (.cells #[.int .i64 0, .int .i64 16, .int .i64 16, .int .i64 16, .int .i64 1, .int .i64 1, .int .i64 8, .int .i64 8, .int .i64 0, .int .i64 4, .int .i64 16, .int .i64 4] 114)) from (Below.refl _ _).alloc (Nat.le_refl _) _)
  have A0 := hid (A0.out.below LB0.out)
  clear LB0
  go_enter Tryz.func24, Tryz.ntmps24
  go_wp2_with fail
  have hcf := cntM_facts 16 (by decide) s
  refine (ccount_any _ B all s 16 A0.out.cu S0.out).mono ?_
  rintro r w1 ⟨hr, h1, t1⟩
  have hle := cnt_le 16 (by decide) s
  obtain ⟨v1, s1, hv1⟩ : ∃ vz sz, cntM 16 s = (vz, sz) := ⟨_, _, rfl⟩
  have HM1 := hid (show P = loopM 1 v1.toNat (m, cs) s1 from HM0.out.trans (by rw [secM, if_neg (by decide), show limM 1 = 16 from rfl, hv1]))
  rw [hv1] at hr h1 hle
  rw [hv1] at hcf
  subst hr
  have A1 := hid (A0.out.read t1 h1)
  have S1 := hid (S0.out.le hle)
  clear h1 t1 hle hv1
  obtain ⟨N, rfl⟩ := Int.eq_ofNat_of_zero_le hcf.1
  have hN : N ≤ 16 := by have := hcf.2.1; omega
  have HM1 := hid (show P = loopM 1 N (m, cs) s1 from HM1.out)
  clear hcf
  go_wp2_with fail
  obtain ⟨m0, hm0⟩ : ∃ m0 : Mdl, m0 = m := ⟨_, rfl⟩
  go_loopw [36] (fun i wr => ∃ (k : Nat) (vt vi vf vg vx ve vd kv : Value) (mm : Mdl) (cc : List Cd) (sz : SB), k ≤ N ∧ i = .int .i64 k ∧ Hid (mm.types.length ≤ 1000 + k) ∧ Hid (okSc sz) ∧ Hid (P = loopM 1 (N - k) (mm, cc) sz) ∧ Hid (RS w wr H M K B all sz vt vi vf vg vx ve vd kv mm cc)) (fun i _ => N - (RowKit.intOf i).toNat)
  case atStart => exact ⟨0, _, _, _, _, _, _, _, _, m, cs, s1, Nat.zero_le _, rfl, HB0, S1, HM1, A1⟩
  case round =>
    clear A0 A1 S1 S0 HM0 HM1
    obtain ⟨k, vt, vi, vf, vg, vx, ve, vd, kv, mm, cc, s2, hk, rfl, HBN, S2, HM2, A2⟩ := hrel
    have y2 := A2.out.cu.cell (i := 2) rfl
    by_cases hlt : k < N
    · by_cases hz : s2.2 ≠ 0
      · have hz2 : (s2.2 != 0) = true := by simpa using hz
        have HM3 := hid (show P = ((mm, cc), s2) from HM2.out.trans (loop_st hz))
        clear hz
        go_wp2_with fail
        first | go_end0 | refine bodyPost_ret (results_none rfl _ _ _) rfl ?_
        exact ⟨rfl, vt, vi, vf, vg, vx, ve, vd, kv, by rw [HM3.out]; exact A2.out⟩
      have hz2 : (s2.2 != 0) = false := by simpa using hz
      have HM2 := hid (show P = LG 1 up1 (N - (k + 1)) (mm, cc) (sigM s2) from HM2.out.trans (by rw [show N - k = N - (k + 1) + 1 by omega]; exact loop_go (Classical.byContradiction hz) rfl))
      clear hz
      obtain ⟨n0, hn0⟩ : ∃ n, mm.types.length = n := ⟨_, rfl⟩
      obtain ⟨css0, -, hrow⟩ := A2.out.mo.t
      rw [hn0] at hrow
      obtain ⟨ao, cap, rfl, _⟩ := own_sl hrow
      have HN0 := hid hn0
      clear hrow hn0
      go_wp2_with fail
      refine (cmust_any _ B all s2 96 4 A2.out.cu S2.out).mono ?_
      rintro r w3 ⟨hr, h3, t3⟩
      have hle := mst_le 96 4 s2
      obtain ⟨s3, hv3⟩ : ∃ sz, mustM 96 4 s2 = sz := ⟨_, rfl⟩
      have HM3 := hid (show P = LG 1 up1 (N - (k + 1)) (mm, cc) (sigA s3) from HM2.out.trans (by unfold sigM; rw [hv3]))
      rw [hv3] at h3 hle
      subst hr
      have A3 := hid (A2.out.read t3 h3)
      have S3 := hid (S2.out.le hle)
      clear h3 t3 hle hv3
      have HS3 := A3
      have A3 := hid (RX.new A3.out #[.slice none 0 0, .slice none 0 0] 77)
      go_wp2_with fail
      generalize w3.heap.size = X at *
      have HRL := hid (show ∀ j, (Value.slice ao n0 cap).ownBlock = some j → j < w3.heap.size from fun j hj => by obtain ⟨css1, -, hr1⟩ := HS3.out.mo.t; exact (World.ownsRow.lt hr1 j hj).2)
      clear HS3
      have hcf := cntM_facts 4 (by decide) s3
      refine (ccount_any _ B all s3 4 A3.out.cu S3.out).mono ?_
      rintro r w4 ⟨hr, h4, t4⟩
      have hle := cnt_le 4 (by decide) s3
      obtain ⟨v4, s4, hv4⟩ : ∃ vz sz, cntM 4 s3 = (vz, sz) := ⟨_, _, rfl⟩
      have HM4 := hid (show P = LG 1 up1 (N - (k + 1)) (mm, cc) (sigB v4.toNat [] s4) from HM3.out.trans (by unfold sigA; rw [hv4]))
      rw [hv4] at hr h4 hle
      rw [hv4] at hcf
      subst hr
      have A4 := hid (A3.out.read t4 h4)
      have S4 := hid (S3.out.le hle)
      clear h4 t4 hle hv4
      obtain ⟨N4, rfl⟩ := Int.eq_ofNat_of_zero_le hcf.1
      have hN4 : N4 ≤ 4 := by have := hcf.2.1; omega
      have HM4 := hid (show P = LG 1 up1 (N - (k + 1)) (mm, cc) (sigB N4 [] s4) from HM4.out)
      clear hcf
      have O4 := hid (OwnI.nil w4 w3.heap.size .u8 68)
      go_wp2_with fail
      go_loopw [50] (fun i wr => ∃ (j : Nat) (u : Value) (xs : List Int) (sz : SB), j ≤ N4 ∧ i = .int .i64 j ∧ xs.length = j ∧ Hid (okSc sz) ∧ Hid (P = LG 1 up1 (N - (k + 1)) (mm, cc) (sigB (N4 - j) xs sz)) ∧ Hid (RX w w3 wr H M K B all sz (.slice ao n0 cap) vi vf vg vx ve vd kv mm cc X 77 [u, .slice none 0 0]) ∧ Hid (OwnI wr w3.heap.size .u8 68 u xs)) (fun i _ => N4 - (RowKit.intOf i).toNat)
      case atStart => exact ⟨0, _, [], s4, Nat.zero_le _, rfl, rfl, S4, HM4, A4, O4⟩
      case round =>
        clear A4 O4 A3 S4 HM4
        obtain ⟨j, u, xs, s5, hj, rfl, hxl, S5, HM5, A5, O5⟩ := hrel
        by_cases hlt2 : j < N4
        · have HM5 := hid (show P = LG 1 up1 (N - (k + 1)) (mm, cc) (sigB (N4 - (j + 1) + 1) xs s5) from HM5.out.trans (by rw [show N4 - (j + 1) + 1 = N4 - j by omega]))
          obtain ⟨bo, cbp, rfl, _⟩ := own_sl O5.out
          have A6 := hid A5.out.drew
          have O6 := hid (show OwnI (World.drew _) w3.heap.size .u8 68 _ xs from O5.out)
          have HM6 := HM5
          have S6 := S5
          have HXL := hid hxl
          clear hxl
          go_wp2_with fail
          refine wp_region_tail (S := (fun w' => w'.cell? ⟨X, 0, none⟩ = some (.slice bo xs.length cbp))) 7 (by kernel_rfl) (by kernel_rfl) ?_ (fun hHeld => ?_)
          · exact A6.out.x.cell (i := 0) rfl
          repeat ((first | refine tk 0 ?_ rfl ?_ ?_ | refine tk 1 ?_ rfl ?_ ?_ | refine tk 2 ?_ rfl ?_ ?_ | refine tk 6 ?_ rfl ?_ ?_); rotate_left; (intro wy hSw; (try dsimp only at hSw); (go_simp <;> with_reducible rfl)); (try simp only [List.getElem_toArray, List.getElem_cons_zero, List.getElem_cons_succ, Act.put, List.setIfInBounds_toArray, List.set_cons_zero, List.set_cons_succ]))
          refine wpT_one (k := 3) rfl (by kernel_rfl) (fun K hK => ?_)
          go_simp
          refine (ckind_any _ B all s5 A6.out.cu S6.out).mono ?_
          rintro r w7 ⟨hr, h7, t7⟩
          have hle := knd_le s5
          obtain ⟨v7, s7, hv7⟩ : ∃ vz sz, kndM s5 = (vz, sz) := ⟨_, _, rfl⟩
          have HM7 := hid (show P = LG 1 up1 (N - (k + 1)) (mm, cc) (sigB (N4 - (j + 1)) (xs ++ [v7]) s7) from HM6.out.trans (by rw [sigB_succ, hv7]))
          rw [hv7] at hr h7 hle
          subst hr
          have A7 := hid (A6.out.read t7 h7)
          have S7 := hid (S6.out.le hle)
          have O7 := hid ((KT.touch A6.out.cu t7).own O6.out rfl)
          clear h7 t7 hle hv7
          refine hK.out _ _ ?_ (fun hHeld => ?_)
          · exact A7.out.x.cell (i := 0) rfl
          clear hK K
          (try simp only [Act.put, List.setIfInBounds_toArray, List.set_cons_zero, List.set_cons_succ])
          refine wpT_one (k := 4) rfl (by kernel_rfl) (fun K hK => ?_)
          go_simp
          refine hK.out _ _ ?_ (fun hHeld => ?_)
          · exact cell_alloc _ (A7.out.x.cell (i := 0) rfl)
          clear hK K
          (try simp only [Act.put, List.setIfInBounds_toArray, List.set_cons_zero, List.set_cons_succ])
          have hlx : xs.length ≤ 4 := by have := HXL.out; omega
          refine wpT_one (k := 5) rfl (by kernel_rfl) (fun K hK => ?_)
          refine step_one1 elem_kindv (cs := [.int .u8 v7]) (by rfl) _ _ (by rfl) (by rfl) (by rfl) rfl O7.out rfl (by intro c hc; simp at hc; subst hc; rfl) (by first | omega | (simp; omega)) (by first | omega | (simp; omega)) (by have := A7.out.tx.size; omega) ?_
          intro v' w8 ho8 hb8 hg8
          obtain ⟨a8, c8, rfl, _⟩ := own_sl ho8
          have C7 := hid (A7.out.pushA rfl O7.out hg8.1 (OwnI.of_app ho8))
          have y0 := C7.out.1.1
          have yf := C7.out.1.2
          refine hK.out _ _ ?_ (fun hHeld => ?_)
          · exact y0
          clear hK K
          (try simp only [Act.put, List.setIfInBounds_toArray, List.set_cons_zero, List.set_cons_succ])
          repeat ((first | refine tk 6 ?_ rfl ?_ ?_); rotate_left; (intro wy hSw; (try dsimp only at hSw); (go_simp <;> with_reducible rfl)); (try simp only [List.getElem_toArray, List.getElem_cons_zero, List.getElem_cons_succ, Act.put, List.setIfInBounds_toArray, List.set_cons_zero, List.set_cons_succ]))
          refine wpT_done (by kernel_rfl) ?_
          go_wp2_with fail
          go_roundw
          case rel => exact ⟨j + 1, _, xs ++ [v7], s7, hlt2, by go_num, by have := HXL.out; simp; omega, S7, HM7, hid C7.out.2.1, hid C7.out.2.2.1⟩
          case measure => simp [RowKit.intOf]; omega
        obtain rfl : j = N4 := by omega
        have HM5 := hid (show P = LG 1 up1 (N - (k + 1)) (mm, cc) (sigC xs s5) from HM5.out.trans (by rw [Nat.sub_self]; rfl))
        obtain ⟨bo, cbp, rfl, _⟩ := own_sl O5.out
        clear hxl hlt2
        have hcf := cntM_facts 1 (by decide) s5
        go_wp2_with fail
        refine (ccount_any _ B all s5 1 A5.out.cu S5.out).mono ?_
        rintro r w9 ⟨hr, h9, t9⟩
        have hle := cnt_le 1 (by decide) s5
        obtain ⟨v9, s9, hv9⟩ : ∃ vz sz, cntM 1 s5 = (vz, sz) := ⟨_, _, rfl⟩
        have HM9 := hid (show P = LG 1 up1 (N - (k + 1)) (mm, cc) (sigD xs v9.toNat [] s9) from HM5.out.trans (by unfold sigC; rw [hv9]))
        rw [hv9] at hr h9 hle
        rw [hv9] at hcf
        subst hr
        have A9 := hid (A5.out.read t9 h9)
        have S9 := hid (S5.out.le hle)
        have O9 := hid ((KT.touch A5.out.cu t9).own O5.out rfl)
        clear h9 t9 hle hv9
        obtain ⟨N9, rfl⟩ := Int.eq_ofNat_of_zero_le hcf.1
        have hN9 : N9 ≤ 1 := by have := hcf.2.1; omega
        have HM9 := hid (show P = LG 1 up1 (N - (k + 1)) (mm, cc) (sigD xs N9 [] s9) from HM9.out)
        clear hcf
        have Q9 := hid (OwnI.nil w9 w3.heap.size .u8 68)
        have P9 := hid (Sep.nil_right (.slice bo xs.length cbp))
        go_wp2_with fail
        go_loopw [62] (fun i wr => ∃ (j2 : Nat) (u2 : Value) (ys : List Int) (sz : SB), j2 ≤ N9 ∧ i = .int .i64 j2 ∧ ys.length = j2 ∧ Hid (okSc sz) ∧ Hid (P = LG 1 up1 (N - (k + 1)) (mm, cc) (sigD xs (N9 - j2) ys sz)) ∧ Hid (RX w w3 wr H M K B all sz (.slice ao n0 cap) vi vf vg vx ve vd kv mm cc X 77 [.slice bo xs.length cbp, u2]) ∧ Hid (OwnI wr w3.heap.size .u8 68 (.slice bo xs.length cbp) xs) ∧ Hid (OwnI wr w3.heap.size .u8 68 u2 ys) ∧ Hid (Sep (.slice bo xs.length cbp) u2)) (fun i _ => N9 - (RowKit.intOf i).toNat)
        case atStart => exact ⟨0, _, [], s9, Nat.zero_le _, rfl, rfl, S9, HM9, A9, O9, Q9, P9⟩
        case round =>
          clear A9 O9 Q9 P9 A5 S9 HM9 O5 HM5
          obtain ⟨j2, u2, ys, s10, hj2, rfl, hyl, S10, HM10, A10, O10, Q10, P10⟩ := hrel
          by_cases hlt2 : j2 < N9
          · have HM10 := hid (show P = LG 1 up1 (N - (k + 1)) (mm, cc) (sigD xs (N9 - (j2 + 1) + 1) ys s10) from HM10.out.trans (by rw [show N9 - (j2 + 1) + 1 = N9 - j2 by omega]))
            obtain ⟨dd, dcp, rfl, _⟩ := own_sl Q10.out
            have A11 := hid A10.out.drew
            have O11 := hid (show OwnI (World.drew _) w3.heap.size .u8 68 _ xs from O10.out)
            have Q11 := hid (show OwnI (World.drew _) w3.heap.size .u8 68 _ ys from Q10.out)
            have HM11 := HM10
            have S11 := S10
            have HYL := hid hyl
            clear hyl
            go_wp2_with fail
            refine wp_region_tail (S := (fun w' => w'.cell? ⟨X, 1, none⟩ = some (.slice dd ys.length dcp))) 7 (by kernel_rfl) (by kernel_rfl) ?_ (fun hHeld => ?_)
            · exact A11.out.x.cell (i := 1) rfl
            repeat ((first | refine tk 0 ?_ rfl ?_ ?_ | refine tk 1 ?_ rfl ?_ ?_ | refine tk 2 ?_ rfl ?_ ?_ | refine tk 6 ?_ rfl ?_ ?_); rotate_left; (intro wy hSw; (try dsimp only at hSw); (go_simp <;> with_reducible rfl)); (try simp only [List.getElem_toArray, List.getElem_cons_zero, List.getElem_cons_succ, Act.put, List.setIfInBounds_toArray, List.set_cons_zero, List.set_cons_succ]))
            refine wpT_one (k := 3) rfl (by kernel_rfl) (fun K hK => ?_)
            go_simp
            refine (ckind_any _ B all s10 A11.out.cu S11.out).mono ?_
            rintro r w12 ⟨hr, h12, t12⟩
            have hle := knd_le s10
            obtain ⟨v12, s12, hv12⟩ : ∃ vz sz, kndM s10 = (vz, sz) := ⟨_, _, rfl⟩
            have HM12 := hid (show P = LG 1 up1 (N - (k + 1)) (mm, cc) (sigD xs (N9 - (j2 + 1)) (ys ++ [v12]) s12) from HM11.out.trans (by rw [sigD_succ, hv12]))
            rw [hv12] at hr h12 hle
            subst hr
            have A12 := hid (A11.out.read t12 h12)
            have S12 := hid (S11.out.le hle)
            have O12 := hid ((KT.touch A11.out.cu t12).own O11.out rfl)
            have Q12 := hid ((KT.touch A11.out.cu t12).own Q11.out rfl)
            clear h12 t12 hle hv12
            refine hK.out _ _ ?_ (fun hHeld => ?_)
            · exact A12.out.x.cell (i := 1) rfl
            clear hK K
            (try simp only [Act.put, List.setIfInBounds_toArray, List.set_cons_zero, List.set_cons_succ])
            refine wpT_one (k := 4) rfl (by kernel_rfl) (fun K hK => ?_)
            go_simp
            refine hK.out _ _ ?_ (fun hHeld => ?_)
            · exact cell_alloc _ (A12.out.x.cell (i := 1) rfl)
            clear hK K
            (try simp only [Act.put, List.setIfInBounds_toArray, List.set_cons_zero, List.set_cons_succ])
            have hly : ys.length ≤ 1 := by have := HYL.out; omega
            refine wpT_one (k := 5) rfl (by kernel_rfl) (fun K hK => ?_)
            refine step_one1 elem_kindv (cs := [.int .u8 v12]) (by rfl) _ _ (by rfl) (by rfl) (by rfl) rfl Q12.out rfl (by intro c hc; simp at hc; subst hc; rfl) (by first | omega | (simp; omega)) (by first | omega | (simp; omega)) (by have := A12.out.tx.size; omega) ?_
            intro v' w13 ho8 hb8 hg8
            obtain ⟨a8, c8, rfl, _⟩ := own_sl ho8
            have C7 := hid (A12.out.pushB rfl Q12.out hg8.1 (OwnI.of_app ho8))
            have O13 := hid (hg8.other O12.out P10.out)
            have y0 := C7.out.1.1
            have yf := C7.out.1.2
            refine hK.out _ _ ?_ (fun hHeld => ?_)
            · exact y0
            clear hK K
            (try simp only [Act.put, List.setIfInBounds_toArray, List.set_cons_zero, List.set_cons_succ])
            repeat ((first | refine tk 6 ?_ rfl ?_ ?_); rotate_left; (intro wy hSw; (try dsimp only at hSw); (go_simp <;> with_reducible rfl)); (try simp only [List.getElem_toArray, List.getElem_cons_zero, List.getElem_cons_succ, Act.put, List.setIfInBounds_toArray, List.set_cons_zero, List.set_cons_succ]))
            refine wpT_done (by kernel_rfl) ?_
            go_wp2_with fail
            go_roundw
            case rel => exact ⟨j2 + 1, _, ys ++ [v12], s12, hlt2, by go_num, by have := HYL.out; simp; omega, S12, HM12, hid C7.out.2.1, hid (C7.out.2.2.2.own O13.out.1 rfl), hid C7.out.2.2.1, hid O13.out.2⟩
            case measure => simp [RowKit.intOf]; omega
          obtain rfl : j2 = N9 := by omega
          have HM10 := hid (show P = LG 1 up1 (N - (k + 1)) (mm, cc) ((xs, ys), s10) from HM10.out.trans (by rw [Nat.sub_self]; rfl))
          obtain ⟨dd, dcp, rfl, _⟩ := own_sl Q10.out
          clear hyl hlt2
          have hHs : H ≤ w3.heap.size := by obtain ⟨az, gz⟩ := A10.out.sx; exact gz.size
          have HX11 := hid (show ESg (World.drew _) H [.slice bo xs.length cbp, .slice dd ys.length dcp] (xs, ys) from ⟨_, _, rfl, own_mono' O10.out hHs, own_mono' Q10.out hHs⟩)
          have A11 := A10
          clear hHs
          have A11 := hid A11.out.drew
          go_wp2_with fail
          refine wp_region_tail (S := (fun w' => w'.cell? ⟨M, 0, none⟩ = some (.slice ao n0 cap) ∧ w'.cell? ⟨X, 0, none⟩ = some (.slice bo xs.length cbp) ∧ w'.cell? ⟨X, 1, none⟩ = some (.slice dd ys.length dcp))) 10 (by kernel_rfl) (by kernel_rfl) ?_ (fun hHeld => ?_)
          · exact ⟨A11.out.ms.mo.blk.cell (i := 0) rfl, A11.out.x.cell (i := 0) rfl, A11.out.x.cell (i := 1) rfl⟩
          repeat ((first | refine tk 0 ?_ rfl ?_ ?_ | refine tk 1 ?_ rfl ?_ ?_ | refine tk 2 ?_ rfl ?_ ?_ | refine tk 3 ?_ rfl ?_ ?_ | refine tk 4 ?_ rfl ?_ ?_ | refine tk 5 ?_ rfl ?_ ?_ | refine tk 8 ?_ rfl ?_ ?_ | refine tk 9 ?_ rfl ?_ ?_); rotate_left; (intro wy hSw; (try dsimp only at hSw); (go_simp <;> with_reducible rfl)); (try simp only [List.getElem_toArray, List.getElem_cons_zero, List.getElem_cons_succ, Act.put, List.setIfInBounds_toArray, List.set_cons_zero, List.set_cons_succ]))
          skip
          refine wpT_one (k := 6) rfl (by kernel_rfl) (fun K hK => ?_)
          go_simp
          refine hK.out _ _ ?_ (fun hHeld => ?_)
          · exact ⟨cell_alloc _ (A11.out.ms.mo.blk.cell (i := 0) rfl), cell_alloc _ (A11.out.x.cell (i := 0) rfl), cell_alloc _ (A11.out.x.cell (i := 1) rfl)⟩
          clear hK K
          (try simp only [Act.put, List.setIfInBounds_toArray, List.set_cons_zero, List.set_cons_succ])
          obtain ⟨css, HC, hrow⟩ := A11.out.ms.mo.t
          have HBN2 := HBN.out
          have HN02 := HN0.out
          rw [HN02] at hrow HBN2
          refine wpT_one (k := 7) rfl (by kernel_rfl) (fun K hK => ?_)
          refine step_one1 elem_sigv (cs := [.slice bo xs.length cbp, .slice dd ys.length dcp]) (by rfl) _ _ (by rfl) (by rfl) (by rfl) rfl hrow rfl (by intro c hc; simp at hc; rcases hc with rfl | rfl <;> rfl) (by omega) (by omega) A11.out.ms.size ?_
          intro v' w14 ho6 hb6 hg6
          obtain ⟨az, cz, rfl, _⟩ := own_sl ho6
          have C4 := hid (A11.out.ms.pushT HN02 HC hrow HX11.out hg6.1 ho6)
          have y0 := C4.out.1.1
          have yf := C4.out.1.2
          have hxk := A11.out.xkeep HRL.out hg6.1
          refine hK.out _ _ ?_ (fun hHeld => ?_)
          · exact ⟨y0, hxk.cell (i := 0) rfl, hxk.cell (i := 1) rfl⟩
          clear hK K
          (try simp only [Act.put, List.setIfInBounds_toArray, List.set_cons_zero, List.set_cons_succ])
          repeat ((first | refine tk 8 ?_ rfl ?_ ?_ | refine tk 9 ?_ rfl ?_ ?_); rotate_left; (intro wy hSw; (try dsimp only at hSw); (go_simp <;> with_reducible rfl)); (try simp only [List.getElem_toArray, List.getElem_cons_zero, List.getElem_cons_succ, Act.put, List.setIfInBounds_toArray, List.set_cons_zero, List.set_cons_succ]))
          refine wpT_done (by kernel_rfl) ?_
          go_wp2_with fail
          go_roundw
          case rel => exact ⟨k + 1, _, _, _, _, _, _, _, _, { mm with types := mm.types ++ [(xs, ys)] }, cc, s10, hlt, by go_num, hid (by have := HBN.out; show (mm.types ++ [_]).length ≤ _; rw [List.length_append, List.length_singleton]; omega), S10, hid HM10.out, hid C4.out.2⟩
          case measure => simp [RowKit.intOf]; omega
    have HM3 := hid (show P = ((mm, cc), s2) from HM2.out.trans (by rw [show N - k = 0 by omega]; rfl))
    go_wp2_with fail
    first | go_end0 | refine bodyPost_ret (results_none rfl _ _ _) rfl ?_
    exact ⟨rfl, vt, vi, vf, vg, vx, ve, vd, kv, by rw [HM3.out]; exact A2.out⟩
end Go.Proofs.YtakfineljffoaaaGreatDoor
