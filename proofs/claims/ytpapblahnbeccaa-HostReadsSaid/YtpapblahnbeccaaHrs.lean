/-
  HOST: send and take of Read. Condition: the memory's size in the form's reach.
-/
import Derived.Test.YtpapblahnbeccaaHop
import Derived.Test.YtpapblahnbeccaaFit
import Derived.Test.YtpapblahnbeccaaPart
import Derived.Test.YtpapblahnbeccaaStep
import Derived.Deep.RegionHeld3
import Derived.Deep.RegionLaw
namespace Go.Proofs.Ytpapblahnbeccaa
open Go.RowKit Go.Lib

def wsh (k a b n wt p : Int) (t : ByteArray) : List Value := [.int .i64 k, .int .i64 a, .int .i64 b, .int .i64 n, .int .i64 wt, .int .i64 p, .string t]
def wshR (c : List Value) (e : Int) : Value := .tuple #[.agg c.toArray, .int .i64 e]
def zeroW : List Value := wsh 0 0 0 0 0 0 ⟨#[]⟩
def sendV (l0 l1 l2 l3 : Int) (mem : ByteArray) : Value :=
  if pidB l0 = false ∨ l1 < 0 ∨ 60 < l1 then wshR zeroW 1 else if 32 < l3 % 4294967296 then wshR zeroW 2 else if (mem.size : Int) < l2 % 4294967296 + l3 % 4294967296 then wshR zeroW 23
  else wshR (wsh 2 (l0 % 4294967296 / 256) (l0 % 256) l1 0 0 (mem.extract (l2 % 4294967296).toNat (l2 % 4294967296 + l3 % 4294967296).toNat)) 0
def takeV (l0 l1 l2 : Int) (mem : ByteArray) : Value :=
  if (mem.size : Int) < l1 % 4294967296 + 6 + 32 then wshR zeroW 23 else wshR (wsh 3 0 0 l0 (if l2 < 0 then -1 else l2) (l1 % 4294967296) ⟨#[]⟩) 0

/-- a block of seven cells, stored whole -/
theorem res7 {w : World} {B : Nat} {ty : TypeId} {cs : List Value} (h : Blk w B ty cs) (hl : cs.length = 7) (a0 a1 a2 a3 a4 a5 a6 : Value) :
    Blk (((((((w.setCell ⟨B, 0, none⟩ a0).setCell ⟨B, 1, none⟩ a1).setCell ⟨B, 2, none⟩ a2).setCell ⟨B, 3, none⟩ a3).setCell ⟨B, 4, none⟩ a4).setCell ⟨B, 5, none⟩ a5).setCell ⟨B, 6, none⟩ a6) B ty [a0, a1, a2, a3, a4, a5, a6] := by
  match cs, hl with
  | [c0, c1, c2, c3, c4, c5, c6], _ => exact ((((((h.set 0 a0).set 1 a1).set 2 a2).set 3 a3).set 4 a4).set 5 a5).set 6 a6
theorem touch7 {w : World} {B : Nat} (a0 a1 a2 a3 a4 a5 a6 : Value) : Touch (fun j => j = B) w (((((((w.setCell ⟨B, 0, none⟩ a0).setCell ⟨B, 1, none⟩ a1).setCell ⟨B, 2, none⟩ a2).setCell ⟨B, 3, none⟩ a3).setCell ⟨B, 4, none⟩ a4).setCell ⟨B, 5, none⟩ a5).setCell ⟨B, 6, none⟩ a6) :=
  ((((((Touch.setCell (F := fun j => j = B) (a := ⟨B, 0, none⟩) rfl a0).trans (Touch.setCell (F := fun j => j = B) (a := ⟨B, 1, none⟩) rfl a1)).trans (Touch.setCell (F := fun j => j = B) (a := ⟨B, 2, none⟩) rfl a2)).trans (Touch.setCell (F := fun j => j = B) (a := ⟨B, 3, none⟩) rfl a3)).trans (Touch.setCell (F := fun j => j = B) (a := ⟨B, 4, none⟩) rfl a4)).trans (Touch.setCell (F := fun j => j = B) (a := ⟨B, 5, none⟩) rfl a5)).trans (Touch.setCell (F := fun j => j = B) (a := ⟨B, 6, none⟩) rfl a6)

theorem below3d (w : World) (a b c : Obj) : Below w.heap.size w (((w.alloc a).alloc b).alloc c).drew := drew_bel' (n := 1) ((((Below.refl _ _).alloc (Nat.le_refl _) _).alloc (by simp) _).alloc (by simp; omega) _)
set_option maxRecDepth 100000 in
set_option maxHeartbeats 4000000 in
theorem take_any (l0 l1 l2 l3 : Int) (mem : ByteArray) (w : World) (hm : mem.size ≤ 140737488351232) (h2 : -9223372036854775808 ≤ l2 ∧ l2 ≤ 9223372036854775807) :
    Calls Try.prog 146 #[.agg #[.int .i64 3, .int .i64 0, .int .i64 0, .int .i64 0, .int .i64 0, .int .i64 0, .string ⟨#[]⟩], .agg #[.int .i64 l0, .int .i64 l1, .int .i64 l2, .int .i64 l3], .string mem] w fun e w' => e = .returned (takeV l0 l1 l2 mem) ∧ Below w.heap.size w w' := by
  have hp0 : 0 ≤ l1 % 4294967296 := by omega
  have hp1 : l1 % 4294967296 < 4294967296 := by omega
  by_cases hb : (mem.size : Int) < l1 % 4294967296 + 6 + 32
  · have hv := hid (show takeV l0 l1 l2 mem = wshR zeroW 23 from if_pos hb)
    clear h2
    go_enter Try.func146, Try.ntmps146
    go_wp2_with fail
    refine bodyPost_ret (v := wshR zeroW 23) (by simp [results, Try.results146, go_sem, wshR, zeroW, wsh]) rfl ?_
    exact ⟨by rw [hv.out], ((Below.refl _ _).alloc (Nat.le_refl _) _).alloc (by simp) _ |>.alloc (by simp; omega) _⟩
  · have hv : takeV l0 l1 l2 mem = wshR (wsh 3 0 0 l0 (if l2 < 0 then -1 else l2) (l1 % 4294967296) ⟨#[]⟩) 0 := if_neg hb
    by_cases hl2 : l2 < 0
    · rw [if_pos hl2] at hv
      have HV := hid hv
      have h3 : l2 ≤ -1 := by omega
      clear hv
      go_enter Try.func146, Try.ntmps146
      go_wp2_with fail
      go_region_law (fail)
      all_goals
        go_wp2_with fail
        refine bodyPost_ret (v := wshR (wsh 3 0 0 l0 (-1) (l1 % 4294967296) ⟨#[]⟩) 0) (by simp [results, Try.results146, go_sem, wshR, wsh]) rfl ?_
        exact ⟨by rw [HV.out], below3d _ _ _ _⟩
    · rw [if_neg hl2] at hv
      have HV := hid hv
      have h3 : -1 ≤ l2 := by omega
      have h4 : 0 ≤ l2 := by omega
      have h5 : ¬ l2 < -1 := by omega
      clear hv
      go_enter Try.func146, Try.ntmps146
      go_wp2_with fail
      go_region_law (fail)
      all_goals
        go_wp2_with fail
        refine bodyPost_ret (v := wshR (wsh 3 0 0 l0 l2 (l1 % 4294967296) ⟨#[]⟩) 0) (by simp [results, Try.results146, go_sem, wshR, wsh]) rfl ?_
        exact ⟨by rw [HV.out], below3d _ _ _ _⟩
theorem below4 {w : World} {a b c : Obj} {w1 : World} (d : Obj) (h : Below (((w.alloc a).alloc b).alloc c).heap.size (((w.alloc a).alloc b).alloc c) w1) : Below w.heap.size w (w1.alloc d) :=
  (((((Below.refl _ _).alloc (Nat.le_refl _) _).alloc (by simp) _).alloc (by simp; omega) _).trans (h.mono (by simp; omega))).alloc (by have := h.size; simp at this; omega) _
theorem below7 {W w : World} {B : Nat} (h : Below W.heap.size W w) (hB : W.heap.size ≤ B) (a0 a1 a2 a3 a4 a5 a6 : Value) : Below W.heap.size W (((((((w.setCell ⟨B, 0, none⟩ a0).setCell ⟨B, 1, none⟩ a1).setCell ⟨B, 2, none⟩ a2).setCell ⟨B, 3, none⟩ a3).setCell ⟨B, 4, none⟩ a4).setCell ⟨B, 5, none⟩ a5).setCell ⟨B, 6, none⟩ a6) :=
  h.trans ((touch7 a0 a1 a2 a3 a4 a5 a6).below h.size (fun j hj => by omega))
theorem pidB_cases (n : Int) : (pidB n = false ∧ pidV n = .tuple #[.agg #[.int .i64 0, .int .i64 0], .bool false]) ∨ (pidB n = true ∧ pidV n = .tuple #[.agg #[.int .i64 (n % 4294967296 / 256), .int .i64 (n % 256)], .bool true]) := by
  unfold pidV
  cases h : pidB n with
  | false => exact .inl ⟨rfl, if_neg (by simp)⟩
  | true => exact .inr ⟨rfl, if_pos rfl⟩
set_option maxRecDepth 100000 in
set_option maxHeartbeats 4000000 in
theorem send_any (l0 l1 l2 l3 : Int) (mem : ByteArray) (w : World) (hm : mem.size ≤ 140737488351232) :
    Calls Try.prog 145 #[.agg #[.int .i64 2, .int .i64 0, .int .i64 0, .int .i64 0, .int .i64 0, .int .i64 0, .string ⟨#[]⟩], .agg #[.int .i64 l0, .int .i64 l1, .int .i64 l2, .int .i64 l3], .string mem] w fun e w' => e = .returned (sendV l0 l1 l2 l3 mem) ∧ Below w.heap.size w w' := by
  have HP := hid (fun w' => pid_any l0 w')
  have X0 := hid (((Blk.new w #[.int .i64 2, .int .i64 0, .int .i64 0, .int .i64 0, .int .i64 0, .int .i64 0, .string ⟨#[]⟩] 142 _ rfl).alloc (.cells #[.int .i64 l0, .int .i64 l1, .int .i64 l2, .int .i64 l3] 234)).alloc (.cells #[.int .i64 0, .int .i64 0, .int .i64 0, .int .i64 0, .int .i64 0, .int .i64 0, .string ⟨#[]⟩] 142))
  have X1 := hid ((Blk.new (w.alloc (.cells #[.int .i64 2, .int .i64 0, .int .i64 0, .int .i64 0, .int .i64 0, .int .i64 0, .string ⟨#[]⟩] 142)) #[.int .i64 l0, .int .i64 l1, .int .i64 l2, .int .i64 l3] 234 (w.heap.size + 1) (by simp)).alloc (.cells #[.int .i64 0, .int .i64 0, .int .i64 0, .int .i64 0, .int .i64 0, .int .i64 0, .string ⟨#[]⟩] 142))
  have X2 := hid (Blk.new ((w.alloc (.cells #[.int .i64 2, .int .i64 0, .int .i64 0, .int .i64 0, .int .i64 0, .int .i64 0, .string ⟨#[]⟩] 142)).alloc (.cells #[.int .i64 l0, .int .i64 l1, .int .i64 l2, .int .i64 l3] 234)) #[.int .i64 0, .int .i64 0, .int .i64 0, .int .i64 0, .int .i64 0, .int .i64 0, .string ⟨#[]⟩] 142 (w.heap.size + 1 + 1) (by simp))
  have hp0 : 0 ≤ l2 % 4294967296 := by omega
  have hp1 : l2 % 4294967296 < 4294967296 := by omega
  have hq0 : 0 ≤ l3 % 4294967296 := by omega
  have hq1 : l3 % 4294967296 < 4294967296 := by omega
  have hT := hid (show sendV l0 l1 l2 l3 mem = if pidB l0 = false ∨ l1 < 0 ∨ 60 < l1 then wshR zeroW 1 else if 32 < l3 % 4294967296 then wshR zeroW 2 else if (mem.size : Int) < l2 % 4294967296 + l3 % 4294967296 then wshR zeroW 23
    else wshR (wsh 2 (l0 % 4294967296 / 256) (l0 % 256) l1 0 0 (mem.extract (l2 % 4294967296).toNat (l2 % 4294967296 + l3 % 4294967296).toNat)) 0 from rfl)
  rcases pidB_cases l0 with ⟨hb, hv⟩ | ⟨hb, hv⟩
  · rw [hv] at HP
    rw [hb, if_pos (.inl rfl)] at hT
    clear hb hv
    go_enter Try.func145, Try.ntmps145
    go_wp2_with fail
    refine (HP.out _).mono ?_
    rintro e w1 ⟨rfl, h1⟩
    have B4 := hid (below4 (.cells #[.int .i64 0, .int .i64 0] 98) h1)
    have Y0 := hid ((X0.out.below h1).alloc (.cells #[.int .i64 0, .int .i64 0] 98))
    have Y1 := hid ((X1.out.below h1).alloc (.cells #[.int .i64 0, .int .i64 0] 98))
    have Y2 := hid ((X2.out.below h1).alloc (.cells #[.int .i64 0, .int .i64 0] 98))
    have x0 := (X1.out.below h1).cell (i := 0) rfl
    clear h1
    have xa1 := Y1.out.cell (i := 1) rfl
    have xa2 := Y1.out.cell (i := 2) rfl
    have xa3 := Y1.out.cell (i := 3) rfl
    have y0 := Y2.out.cell (i := 0) rfl
    have y1 := Y2.out.cell (i := 1) rfl
    have y2 := Y2.out.cell (i := 2) rfl
    have y3 := Y2.out.cell (i := 3) rfl
    have y4 := Y2.out.cell (i := 4) rfl
    have y5 := Y2.out.cell (i := 5) rfl
    have y6 := Y2.out.cell (i := 6) rfl
    have yf := fun i => Y2.out.free i

    go_wp2_with fail
    go_quiet (fail)
    go_wp2_with fail
    have z := res7 (Y2.out.drew nq) rfl (.int .i64 0) (.int .i64 0) (.int .i64 0) (.int .i64 0) (.int .i64 0) (.int .i64 0) (.string ⟨#[]⟩)
    have z0 := z.cell (i := 0) rfl
    have z1 := z.cell (i := 1) rfl
    have z2 := z.cell (i := 2) rfl
    have z3 := z.cell (i := 3) rfl
    have z4 := z.cell (i := 4) rfl
    have z5 := z.cell (i := 5) rfl
    have z6 := z.cell (i := 6) rfl
    refine bodyPost_ret (v := wshR zeroW 1) (by simp [results, Try.results145, go_sem, wshR, zeroW, wsh, z0, z1, z2, z3, z4, z5, z6]) rfl ?_
    exact ⟨by rw [hT.out], below7 (drew_bel' (n := nq) B4.out) (by omega) _ _ _ _ _ _ _⟩
  · rw [hv] at HP
    rw [hb] at hT
    clear hb hv
    by_cases c1 : l1 < 0
    · rw [if_pos (.inr (.inl c1))] at hT
      go_enter Try.func145, Try.ntmps145
      go_wp2_with fail
      refine (HP.out _).mono ?_
      rintro e w1 ⟨rfl, h1⟩
      have B4 := hid (below4 (.cells #[.int .i64 (l0 % 4294967296 / 256), .int .i64 (l0 % 256)] 98) h1)
      have Y0 := hid ((X0.out.below h1).alloc (.cells #[.int .i64 (l0 % 4294967296 / 256), .int .i64 (l0 % 256)] 98))
      have Y1 := hid ((X1.out.below h1).alloc (.cells #[.int .i64 (l0 % 4294967296 / 256), .int .i64 (l0 % 256)] 98))
      have Y2 := hid ((X2.out.below h1).alloc (.cells #[.int .i64 (l0 % 4294967296 / 256), .int .i64 (l0 % 256)] 98))
      have x0 := (X1.out.below h1).cell (i := 0) rfl
      clear h1
      have xa1 := Y1.out.cell (i := 1) rfl
      have xa2 := Y1.out.cell (i := 2) rfl
      have xa3 := Y1.out.cell (i := 3) rfl
      have y0 := Y2.out.cell (i := 0) rfl
      have y1 := Y2.out.cell (i := 1) rfl
      have y2 := Y2.out.cell (i := 2) rfl
      have y3 := Y2.out.cell (i := 3) rfl
      have y4 := Y2.out.cell (i := 4) rfl
      have y5 := Y2.out.cell (i := 5) rfl
      have y6 := Y2.out.cell (i := 6) rfl
      have yf := fun i => Y2.out.free i

      go_wp2_with fail
      go_quiet (fail)
      go_wp2_with fail
      have z := res7 (Y2.out.drew nq) rfl (.int .i64 0) (.int .i64 0) (.int .i64 0) (.int .i64 0) (.int .i64 0) (.int .i64 0) (.string ⟨#[]⟩)
      have z0 := z.cell (i := 0) rfl
      have z1 := z.cell (i := 1) rfl
      have z2 := z.cell (i := 2) rfl
      have z3 := z.cell (i := 3) rfl
      have z4 := z.cell (i := 4) rfl
      have z5 := z.cell (i := 5) rfl
      have z6 := z.cell (i := 6) rfl
      refine bodyPost_ret (v := wshR zeroW 1) (by simp [results, Try.results145, go_sem, wshR, zeroW, wsh, z0, z1, z2, z3, z4, z5, z6]) rfl ?_
      exact ⟨by rw [hT.out], below7 (drew_bel' (n := nq) B4.out) (by omega) _ _ _ _ _ _ _⟩
    by_cases c2 : 60 < l1
    · rw [if_pos (.inr (.inr c2))] at hT
      have c3 : 0 ≤ l1 := by omega
      have c4 : 61 ≤ l1 := by omega
      go_enter Try.func145, Try.ntmps145
      go_wp2_with fail
      refine (HP.out _).mono ?_
      rintro e w1 ⟨rfl, h1⟩
      have B4 := hid (below4 (.cells #[.int .i64 (l0 % 4294967296 / 256), .int .i64 (l0 % 256)] 98) h1)
      have Y0 := hid ((X0.out.below h1).alloc (.cells #[.int .i64 (l0 % 4294967296 / 256), .int .i64 (l0 % 256)] 98))
      have Y1 := hid ((X1.out.below h1).alloc (.cells #[.int .i64 (l0 % 4294967296 / 256), .int .i64 (l0 % 256)] 98))
      have Y2 := hid ((X2.out.below h1).alloc (.cells #[.int .i64 (l0 % 4294967296 / 256), .int .i64 (l0 % 256)] 98))
      have x0 := (X1.out.below h1).cell (i := 0) rfl
      clear h1
      have xa1 := Y1.out.cell (i := 1) rfl
      have xa2 := Y1.out.cell (i := 2) rfl
      have xa3 := Y1.out.cell (i := 3) rfl
      have y0 := Y2.out.cell (i := 0) rfl
      have y1 := Y2.out.cell (i := 1) rfl
      have y2 := Y2.out.cell (i := 2) rfl
      have y3 := Y2.out.cell (i := 3) rfl
      have y4 := Y2.out.cell (i := 4) rfl
      have y5 := Y2.out.cell (i := 5) rfl
      have y6 := Y2.out.cell (i := 6) rfl
      have yf := fun i => Y2.out.free i

      go_wp2_with fail
      go_quiet (fail)
      go_wp2_with fail
      have z := res7 (Y2.out.drew nq) rfl (.int .i64 0) (.int .i64 0) (.int .i64 0) (.int .i64 0) (.int .i64 0) (.int .i64 0) (.string ⟨#[]⟩)
      have z0 := z.cell (i := 0) rfl
      have z1 := z.cell (i := 1) rfl
      have z2 := z.cell (i := 2) rfl
      have z3 := z.cell (i := 3) rfl
      have z4 := z.cell (i := 4) rfl
      have z5 := z.cell (i := 5) rfl
      have z6 := z.cell (i := 6) rfl
      refine bodyPost_ret (v := wshR zeroW 1) (by simp [results, Try.results145, go_sem, wshR, zeroW, wsh, z0, z1, z2, z3, z4, z5, z6]) rfl ?_
      exact ⟨by rw [hT.out], below7 (drew_bel' (n := nq) B4.out) (by omega) _ _ _ _ _ _ _⟩
    rw [if_neg (by rintro (h | h | h) <;> first | omega | cases h)] at hT
    have c3 : 0 ≤ l1 := by omega
    have c4 : l1 < 61 := by omega
    by_cases c5 : 32 < l3 % 4294967296
    · rw [if_pos c5] at hT
      go_enter Try.func145, Try.ntmps145
      go_wp2_with fail
      refine (HP.out _).mono ?_
      rintro e w1 ⟨rfl, h1⟩
      have B4 := hid (below4 (.cells #[.int .i64 (l0 % 4294967296 / 256), .int .i64 (l0 % 256)] 98) h1)
      have Y0 := hid ((X0.out.below h1).alloc (.cells #[.int .i64 (l0 % 4294967296 / 256), .int .i64 (l0 % 256)] 98))
      have Y1 := hid ((X1.out.below h1).alloc (.cells #[.int .i64 (l0 % 4294967296 / 256), .int .i64 (l0 % 256)] 98))
      have Y2 := hid ((X2.out.below h1).alloc (.cells #[.int .i64 (l0 % 4294967296 / 256), .int .i64 (l0 % 256)] 98))
      have x0 := (X1.out.below h1).cell (i := 0) rfl
      clear h1
      have xa1 := Y1.out.cell (i := 1) rfl
      have xa2 := Y1.out.cell (i := 2) rfl
      have xa3 := Y1.out.cell (i := 3) rfl
      have y0 := Y2.out.cell (i := 0) rfl
      have y1 := Y2.out.cell (i := 1) rfl
      have y2 := Y2.out.cell (i := 2) rfl
      have y3 := Y2.out.cell (i := 3) rfl
      have y4 := Y2.out.cell (i := 4) rfl
      have y5 := Y2.out.cell (i := 5) rfl
      have y6 := Y2.out.cell (i := 6) rfl
      have yf := fun i => Y2.out.free i

      go_wp2_with fail
      go_quiet (fail)
      go_wp2_with fail
      have z := res7 (Y2.out.drew nq) rfl (.int .i64 0) (.int .i64 0) (.int .i64 0) (.int .i64 0) (.int .i64 0) (.int .i64 0) (.string ⟨#[]⟩)
      have z0 := z.cell (i := 0) rfl
      have z1 := z.cell (i := 1) rfl
      have z2 := z.cell (i := 2) rfl
      have z3 := z.cell (i := 3) rfl
      have z4 := z.cell (i := 4) rfl
      have z5 := z.cell (i := 5) rfl
      have z6 := z.cell (i := 6) rfl
      refine bodyPost_ret (v := wshR zeroW 2) (by simp [results, Try.results145, go_sem, wshR, zeroW, wsh, z0, z1, z2, z3, z4, z5, z6]) rfl ?_
      exact ⟨by rw [hT.out], below7 (drew_bel' (n := nq) B4.out) (by omega) _ _ _ _ _ _ _⟩
    rw [if_neg c5] at hT
    by_cases c6 : (mem.size : Int) < l2 % 4294967296 + l3 % 4294967296
    · rw [if_pos c6] at hT
      go_enter Try.func145, Try.ntmps145
      go_wp2_with fail
      refine (HP.out _).mono ?_
      rintro e w1 ⟨rfl, h1⟩
      have B4 := hid (below4 (.cells #[.int .i64 (l0 % 4294967296 / 256), .int .i64 (l0 % 256)] 98) h1)
      have Y0 := hid ((X0.out.below h1).alloc (.cells #[.int .i64 (l0 % 4294967296 / 256), .int .i64 (l0 % 256)] 98))
      have Y1 := hid ((X1.out.below h1).alloc (.cells #[.int .i64 (l0 % 4294967296 / 256), .int .i64 (l0 % 256)] 98))
      have Y2 := hid ((X2.out.below h1).alloc (.cells #[.int .i64 (l0 % 4294967296 / 256), .int .i64 (l0 % 256)] 98))
      have x0 := (X1.out.below h1).cell (i := 0) rfl
      clear h1
      have xa1 := Y1.out.cell (i := 1) rfl
      have xa2 := Y1.out.cell (i := 2) rfl
      have xa3 := Y1.out.cell (i := 3) rfl
      have y0 := Y2.out.cell (i := 0) rfl
      have y1 := Y2.out.cell (i := 1) rfl
      have y2 := Y2.out.cell (i := 2) rfl
      have y3 := Y2.out.cell (i := 3) rfl
      have y4 := Y2.out.cell (i := 4) rfl
      have y5 := Y2.out.cell (i := 5) rfl
      have y6 := Y2.out.cell (i := 6) rfl
      have yf := fun i => Y2.out.free i

      go_wp2_with fail
      go_quiet (fail)
      go_wp2_with fail
      have z := res7 (Y2.out.drew nq) rfl (.int .i64 0) (.int .i64 0) (.int .i64 0) (.int .i64 0) (.int .i64 0) (.int .i64 0) (.string ⟨#[]⟩)
      have z0 := z.cell (i := 0) rfl
      have z1 := z.cell (i := 1) rfl
      have z2 := z.cell (i := 2) rfl
      have z3 := z.cell (i := 3) rfl
      have z4 := z.cell (i := 4) rfl
      have z5 := z.cell (i := 5) rfl
      have z6 := z.cell (i := 6) rfl
      refine bodyPost_ret (v := wshR zeroW 23) (by simp [results, Try.results145, go_sem, wshR, zeroW, wsh, z0, z1, z2, z3, z4, z5, z6]) rfl ?_
      exact ⟨by rw [hT.out], below7 (drew_bel' (n := nq) B4.out) (by omega) _ _ _ _ _ _ _⟩
    rw [if_neg c6] at hT
    have d5 : l3 % 4294967296 ≤ 32 := by omega
    have d6 : l2 % 4294967296 + l3 % 4294967296 ≤ (mem.size : Int) := by omega
    clear c5 c6
    have m1 : IntKind.i64.wrap (l2 % 4294967296 + l3 % 4294967296) = l2 % 4294967296 + l3 % 4294967296 := by rw [IntKind.wrap_i64]; omega
    have hsl : ∀ w', (Instr.slice 9 (.string mem) (some (.int .i64 (l2 % 4294967296))) (some (.int .i64 (l2 % 4294967296 + l3 % 4294967296))) none).run Try.prog w' = .ok (.string (mem.extract (l2 % 4294967296).toNat (l2 % 4294967296 + l3 % 4294967296).toNat)) w' := fun w' => run_slice_string w' 9 mem .i64 .i64 (l2 % 4294967296) (l2 % 4294967296 + l3 % 4294967296) Try.underlying9 hp0 (by omega) (by omega)
    go_enter Try.func145, Try.ntmps145
    go_wp2_with fail
    refine (HP.out _).mono ?_
    rintro e w1 ⟨rfl, h1⟩
    have B4 := hid (below4 (.cells #[.int .i64 (l0 % 4294967296 / 256), .int .i64 (l0 % 256)] 98) h1)
    have Y0 := hid ((X0.out.below h1).alloc (.cells #[.int .i64 (l0 % 4294967296 / 256), .int .i64 (l0 % 256)] 98))
    have Y1 := hid ((X1.out.below h1).alloc (.cells #[.int .i64 (l0 % 4294967296 / 256), .int .i64 (l0 % 256)] 98))
    have Y2 := hid ((X2.out.below h1).alloc (.cells #[.int .i64 (l0 % 4294967296 / 256), .int .i64 (l0 % 256)] 98))
    have x0 := (X1.out.below h1).cell (i := 0) rfl
    clear h1
    have xa1 := Y1.out.cell (i := 1) rfl
    have xa2 := Y1.out.cell (i := 2) rfl
    have xa3 := Y1.out.cell (i := 3) rfl
    have y0 := Y2.out.cell (i := 0) rfl
    have y1 := Y2.out.cell (i := 1) rfl
    have y2 := Y2.out.cell (i := 2) rfl
    have y3 := Y2.out.cell (i := 3) rfl
    have y4 := Y2.out.cell (i := 4) rfl
    have y5 := Y2.out.cell (i := 5) rfl
    have y6 := Y2.out.cell (i := 6) rfl
    have yf := fun i => Y2.out.free i

    have p0 : (w1.alloc (.cells #[.int .i64 (l0 % 4294967296 / 256), .int .i64 (l0 % 256)] 98)).cell? ⟨w1.heap.size, 0, none⟩ = some (.int .i64 (l0 % 4294967296 / 256)) := (Blk.new w1 #[.int .i64 (l0 % 4294967296 / 256), .int .i64 (l0 % 256)] 98 _ rfl).cell (i := 0) rfl
    have p1 : (w1.alloc (.cells #[.int .i64 (l0 % 4294967296 / 256), .int .i64 (l0 % 256)] 98)).cell? ⟨w1.heap.size, 1, none⟩ = some (.int .i64 (l0 % 256)) := (Blk.new w1 #[.int .i64 (l0 % 4294967296 / 256), .int .i64 (l0 % 256)] 98 _ rfl).cell (i := 1) rfl
    have v0 := Y0.out.cell (i := 0) rfl
    have v1 := Y0.out.cell (i := 1) rfl
    have v2 := Y0.out.cell (i := 2) rfl
    have v3 := Y0.out.cell (i := 3) rfl
    have v4 := Y0.out.cell (i := 4) rfl
    have v5 := Y0.out.cell (i := 5) rfl
    have v6 := Y0.out.cell (i := 6) rfl
    have vf := fun i => Y0.out.free i
    go_wp2_with fail
    go_quiet (fail)
    go_wp2_with fail
    go_region_law (fail)
    all_goals
      go_wp2_with fail
      have z := res7 (((((Y2.out.drew (nq + 1)).other (a := ⟨w.heap.size, 1, none⟩) (by simp; omega) (.int .i64 (l0 % 4294967296 / 256))).other (a := ⟨w.heap.size, 2, none⟩) (by simp; omega) (.int .i64 (l0 % 256))).other (a := ⟨w.heap.size, 3, none⟩) (by simp; omega) (.int .i64 l1)).other (a := ⟨w.heap.size, 6, none⟩) (by simp; omega) (.string (mem.extract (l2 % 4294967296).toNat (l2 % 4294967296 + l3 % 4294967296).toNat))) rfl (.int .i64 2) (.int .i64 (l0 % 4294967296 / 256)) (.int .i64 (l0 % 256)) (.int .i64 l1) (.int .i64 0) (.int .i64 0) (.string (mem.extract (l2 % 4294967296).toNat (l2 % 4294967296 + l3 % 4294967296).toNat))
      have z0 := z.cell (i := 0) rfl
      have z1 := z.cell (i := 1) rfl
      have z2 := z.cell (i := 2) rfl
      have z3 := z.cell (i := 3) rfl
      have z4 := z.cell (i := 4) rfl
      have z5 := z.cell (i := 5) rfl
      have z6 := z.cell (i := 6) rfl
      refine bodyPost_ret (v := wshR (wsh 2 (l0 % 4294967296 / 256) (l0 % 256) l1 0 0 (mem.extract (l2 % 4294967296).toNat (l2 % 4294967296 + l3 % 4294967296).toNat)) 0) (by simp [results, Try.results145, go_sem, wshR, wsh, z0, z1, z2, z3, z4, z5, z6]) rfl ?_
      exact ⟨by rw [hT.out], below7 (((((drew_bel' (n := nq + 1) B4.out).setCell (Nat.le_refl _) _).setCell (Nat.le_refl _) _).setCell (Nat.le_refl _) _).setCell (Nat.le_refl _) _) (by omega) _ _ _ _ _ _ _⟩
end Go.Proofs.Ytpapblahnbeccaa
