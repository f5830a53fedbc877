/-
  MEMORIES, the program's: Grow. Conditions: the object's own invariant. 
-/
import Derived.Test.YtdiiefhklcchmaaMeG
import Derived.Deep.RegionLaw
import Derived.Deep.MidRow
namespace Go.Proofs.Ytdiiefhklcchmaa
open Go.RowKit Go.Lib
attribute [local go_sem ↓] Go.wp_at_zero Go.wp_at_succ

theorem num_belowM {W w : World} {B n : Nat} (h : Below B W w) : Below B W (w.drewN n) := ⟨h.os, h.tape, h.output, h.size, h.block⟩
theorem elem_page : Elem Try.prog 42 60 (.agg (Array.replicate 256 (.int .u8 0))) 256 256 := ⟨Try.underlying42, by kernel_rfl, by kernel_rfl, by decide⟩
def zcells : List Value := List.replicate 256 (Value.int .u8 0)
theorem zero_page (w : World) : (zeroValue 60).run Try.prog w = .ok (.agg zcells.toArray) w := by kernel_rfl
theorem run_box_page (w : World) : (Instr.buildSlice 42 1 #[(0, .agg zcells.toArray)]).run Try.prog w = .ok (.slice (some ⟨w.heap.size, 0, none⟩) 1 1) (w.alloc (.cells zcells.toArray 60)) := by kernel_rfl
theorem load_page {w : World} {g : Nat} (h : w.heap[g]? = some (.cells zcells.toArray 60 (0, 0))) : (Instr.loadAt 60 (.pointer (some ⟨g, 0, none⟩))).run Try.prog w = .ok (.agg zcells.toArray) w := by
  simp only [Instr.loadAt, Instr.sureAddr, Sem.run_bind, Sem.run_pure, Result.andThen_ok]
  exact run_loadVar_row w g 60 60 zcells.toArray (0, 0) _ h Try.underlying60 (by kernel_rfl) (by kernel_rfl)
/-- []page{x}, run at once -/
theorem wp_box (dst : Option Tmp) (ty : TypeId) (pos : String) (after : Array Edge) (guard : Option (Nat × Bool)) (x : Operand) (a : Act) (K : Act → World → Prop) (Q : Exit → Act → World → Prop) (w : World) (hx : a.eval x = .agg zcells.toArray) :
    Oper.wp Try.prog { dst := dst, op := .buildSlice 42 1 #[(0, x)], type := ty, pos := pos, after := after, guard := guard } a w K Q = K (a.put dst (.slice (some ⟨w.heap.size, 0, none⟩) 1 1)) (w.alloc (.cells zcells.toArray 60)) := by
  unfold Oper.wp execOp
  simp only [hx, List.map_toArray, List.map_cons, List.map_nil, Sem.run_bind, Sem.run_pure, run_box_page, Result.andThen_ok]
  rfl
/-- a page of zeros lies where v points -/
def IsBox (v : Value) (w : World) : Prop := (Instr.loadAt 60 v).run Try.prog w = .ok (.agg zcells.toArray) w
/-- the load of such a page, run at once -/
theorem wp_page (dst : Option Tmp) (ty : TypeId) (pos : String) (after : Array Edge) (guard : Option (Nat × Bool)) (x : Operand) (a : Act) (K : Act → World → Prop) (Q : Exit → Act → World → Prop) (w : World) (hx : IsBox (a.eval x) w) :
    Oper.wp Try.prog { dst := dst, op := .load 60 x, type := ty, pos := pos, after := after, guard := guard } a w K Q = K (a.put dst (.agg zcells.toArray)) w := by
  unfold Oper.wp execOp
  unfold IsBox at hx
  simp only [hx, Sem.run_bind, Sem.run_pure, Result.andThen_ok]
  rfl
theorem MP.grow {w w5 : World} {base B p : Nat} {v v5 : Value} {most : Int} {m : List Int} (h : MP w base B v p most m) (ho : w5.ownsRow base 60 256 v5 (p + 1) (m.map (Value.int .u8) ++ zcells)) (hg : Grew w v w5 v5) :
    MP (w5.setCell ⟨B, 0, none⟩ v5) base B v5 (p + 1) most (m ++ List.replicate 256 0) ∧ Touch (footM1 B v) w (w5.setCell ⟨B, 0, none⟩ v5) ∧ (∀ k, v5.ownBlock = some k → v.ownBlock = some k ∨ w.heap.size ≤ k) := by
  have hf : ∀ k, v5.ownBlock = some k → v.ownBlock = some k ∨ w.heap.size ≤ k := by
    intro k hk
    rcases hg.2 with e | ⟨j, e, hj⟩
    · exact .inl (e ▸ hk)
    · rw [e] at hk; injection hk with hk; subst hk; exact .inr hj
  have hBlt := h.blk.lt
  have hne5 : v5.ownBlock ≠ some B := by
    intro e
    rcases hf B e with e | e
    · exact h.ne e
    · omega
  have hb5 : Blk w5 B 44 [v, .int .i64 most] := h.blk.same (hg.1.block B hBlt (fun e => h.ne e.symm))
  refine ⟨⟨hb5.set 0 v5, ?_, hne5, h.le, by have := h.base; have := hg.1.size; simp; omega⟩, ?_, hf⟩
  · refine ownsRow_setCell_other (a := ⟨B, 0, none⟩) ?_ (fun e => hne5 e) _
    rw [List.map_append, List.map_replicate]
    exact ho
  · exact (Touch.grown (F := footM1 B v) hg.1 (fun k e => .inr e)).put (a := ⟨B, 0, none⟩) (.inl rfl) v5
set_option maxRecDepth 100000 in
set_option maxHeartbeats 4000000 in
theorem mgrow_bad (w : World) (base B p : Nat) (v : Value) (most : Int) (m : List Int) (n : Int) (hp : p ≤ 8) (hmo : 0 ≤ most ∧ most ≤ 8) (hbad : most - p < n % 4294967296) (h : MP w base B v p most m) :
    Calls Try.prog 17 #[.pointer (some ⟨B, 0, none⟩), .int .i64 n] w fun e w' => e = .returned (.int .i64 (-1)) ∧ Below w.heap.size w w' := by
  obtain ⟨ao, cap, rfl, -⟩ := own_sl h.own
  have c0 := h.blk.cell (i := 0) rfl
  have c1 := h.blk.cell (i := 1) rfl
  have c0d : w.drew.cell? ⟨B, 0, none⟩ = _ := c0
  have c1d : w.drew.cell? ⟨B, 1, none⟩ = _ := c1
  have hp2 : (p : Int) ≤ 8 := by omega
  obtain ⟨hm0, hm1⟩ := hmo
  obtain ⟨r, hr⟩ : ∃ r, n % 4294967296 = r := ⟨_, rfl⟩
  rw [hr] at hbad
  have hr0 : 0 ≤ r := by omega
  have hr1 : r ≤ 4294967295 := by omega
  clear h
  go_enter Try.func17, Try.ntmps17
  go_wp2_with fail
  go_quiet (fail)
  go_wp2_with fail
  go_ret
  exact ⟨rfl, num_belowM (Below.refl _ _)⟩
attribute [local go_sem ↓] wp_box wp_page
set_option maxRecDepth 100000 in
set_option maxHeartbeats 4000000 in
theorem mgrow_good (w : World) (base B p : Nat) (v : Value) (most : Int) (m : List Int) (n : Int) (r : Nat) (hr : n % 4294967296 = r) (hmo : 0 ≤ most ∧ most ≤ 8) (hpm : (p : Int) ≤ most) (hgood : (r : Int) ≤ most - p) (h : MP w base B v p most m) :
    Calls Try.prog 17 #[.pointer (some ⟨B, 0, none⟩), .int .i64 n] w fun e w' => e = .returned (.int .i64 p) ∧ ∃ v', MP w' base B v' (p + r) most (m ++ List.replicate (r * 256) 0) ∧ Touch (footM1 B v) w w' ∧ (∀ k, v'.ownBlock = some k → v.ownBlock = some k ∨ w.heap.size ≤ k) := by
  have H := hid h
  obtain ⟨ao, cap, rfl, -⟩ := own_sl h.own
  have c0 := h.blk.cell (i := 0) rfl
  have c1 := h.blk.cell (i := 1) rfl
  have c0d : w.drew.cell? ⟨B, 0, none⟩ = _ := c0
  have c1d : w.drew.cell? ⟨B, 1, none⟩ = _ := c1
  have hp2 : (p : Int) ≤ 8 := by omega
  have hr8 : (r : Int) ≤ 8 := by omega
  obtain ⟨hm0, hm1⟩ := hmo
  have HBL := hid (And.intro h.blk.lt h.base)
  clear h
  have hzv := zero_page
  have HLZ := hid (show zcells.length = 256 from rfl)
  have HZ1 := hid (show ∀ c ∈ zcells, c.oneCell' = true from fun c hc => by rw [List.eq_of_mem_replicate hc]; rfl)
  have HGR := hid (fun (w w5 : World) (p : Nat) (v v5 : Value) (m : List Int) (h : MP w base B v p most m) (ho : w5.ownsRow base 60 256 v5 (p + 1) (m.map (Value.int .u8) ++ zcells)) (hg : Grew w v w5 v5) => MP.grow h ho hg)
  go_enter Try.func17, Try.ntmps17
  go_wp2_with fail
  go_quiet (fail)
  rename_i nq
  have HA := hid (show Below w.heap.size w ((w.drewN nq).alloc (.cells zcells.toArray 60)) from (num_belowM (Below.refl _ _)).alloc (Nat.le_refl _) _)
  have HX := hid (show ((w.drewN nq).alloc (.cells zcells.toArray 60)).heap[w.heap.size]? = some (.cells zcells.toArray 60 (0, 0)) from heap_alloc_new (w.drewN nq) _)
  have H1 := hid (H.out.below HA.out)
  go_wp2_with fail
  clear c0 c1 c0d c1d hzv hr
  go_loopw [25] (fun iv wr => ∃ (k : Nat) (v' : Value), k ≤ r ∧ iv = .int .i64 k ∧ Hid (MP wr base B v' (p + k) most (m ++ List.replicate (k * 256) 0)) ∧ Hid (Touch (footM1 B (.slice ao p cap)) w wr) ∧ Hid (∀ j, v'.ownBlock = some j → (Value.slice ao p cap).ownBlock = some j ∨ w.heap.size ≤ j) ∧ Hid (v'.ownBlock ≠ some w.heap.size) ∧ Hid (wr.heap[w.heap.size]? = some (.cells zcells.toArray 60 (0, 0)))) (fun iv _ => r - (intOf iv).toNat)
  case atStart =>
    refine ⟨0, _, Nat.zero_le _, rfl, hid (by simpa using H1.out), hid (Touch.of_below HA.out), hid (fun j e => .inl e), hid (fun e => ?_), HX⟩
    have := (H.out.own.lt _ e).2
    omega
  case round =>
    obtain ⟨k, v', hk, rfl, MM, TT, FF, NN, XX⟩ := hrel
    obtain ⟨a2, cap2, rfl, -⟩ := own_sl MM.out.own
    by_cases hlt : k < r
    · have hlt2 : (k : Int) < (r : Int) := by omega
      have z0 : wr.drew.cell? ⟨B, 0, none⟩ = some (.slice a2 (p + k) cap2) := MM.out.blk.cell (i := 0) rfl
      have n0 : ∀ o, (wr.alloc o).drew.cell? ⟨B, 0, none⟩ = some (.slice a2 (p + k) cap2) := fun o => cell_alloc o z0
      have MD := hid (show MP wr.drew base B (.slice a2 (p + k) cap2) (p + k) most (m ++ List.replicate (k * 256) 0) from MM.out.part.drew1.holds)
      have FD := hid MD.out.own
      have hsz : base ≤ wr.drew.heap.size := MM.out.base
      have hl0 : IsBox (.pointer (some ⟨w.heap.size, 0, none⟩)) wr.drew := load_page XX.out
      have hp8 : p + k + 1 ≤ 16 := by omega
      have HBN := hid (show w.heap.size ≠ B from fun e => by have := HBL.out.1; omega)
      have HWL := hid (show w.heap.size < wr.drew.heap.size from (Array.getElem?_eq_some_iff.1 XX.out).1)
      go_wp2_with fail
      go_region_law (first | (refine step_one1 elem_page (base := base) (cs := zcells) (by rfl) _ _ (by rfl) (by rfl) (by rfl) (by rfl) FD.out (by rfl) HZ1.out (by omega) (by omega) hsz ?_; intro v' w5 ho hb hg; have HBe := hid (hg.1.block B (by have := MD.out.blk.lt; exact this) (fun e => MD.out.ne e.symm)); have y0 : w5.cell? ⟨B, 0, none⟩ = some (.slice a2 (p + k) cap2) := (MD.out.blk.same HBe.out).cell (i := 0) rfl; have yf := (MD.out.blk.same HBe.out).free; have HG := hid (And.intro ho (And.intro hb hg)); obtain ⟨a5, k5, rfl, -⟩ := own_sl ho; clear ho hb hg))
      all_goals
        first | go_wp2_with fail | skip
        have G5 := hid (HGR.out _ _ _ _ _ _ MD.out HG.out.1 HG.out.2.2)
        have e5 := hid (show m ++ List.replicate (k * 256) 0 ++ List.replicate 256 0 = m ++ List.replicate ((k + 1) * 256) (0 : Int) from by
          rw [List.append_assoc, List.replicate_append_replicate, show (k + 1) * 256 = k * 256 + 256 by omega])
        have F5 := hid (show ∀ j, (Value.slice a5 (p + k + 1) k5).ownBlock = some j → (Value.slice ao p cap).ownBlock = some j ∨ w.heap.size ≤ j from fun j hj => by
          rcases G5.out.2.2 j hj with e | e
          · exact FF.out j e
          · exact .inr (Nat.le_trans (Nat.le_of_lt HWL.out) e))
        have N5 := hid (show (Value.slice a5 (p + k + 1) k5).ownBlock ≠ some w.heap.size from fun e => by
          rcases G5.out.2.2 _ e with e2 | e2
          · exact NN.out e2
          · have := HWL.out; omega)
        have X5 := hid (show (w5.setCell ⟨B, 0, none⟩ (.slice a5 (p + k + 1) k5)).heap[w.heap.size]? = some (.cells zcells.toArray 60 (0, 0)) from by
          rw [Below.heap_setCell w5 _ _ w.heap.size HBN.out]
          exact (HG.out.2.2.1.block w.heap.size HWL.out (fun e => NN.out e.symm)).trans XX.out)
        have T5 := hid (TT.out.drew1.trans' G5.out.2.1 (fun i hi hf => by
          rcases hf with e | e
          · exact .inl e
          · rcases FF.out i e with e2 | e2
            · exact .inr e2
            · omega))
        go_roundw
        case rel =>
          refine ⟨k + 1, _, by omega, by go_num, hid ?_, T5, F5, N5, X5⟩
          rw [← e5.out]
          exact G5.out.1
        case measure => simp [RowKit.intOf]; omega
    · obtain rfl : k = r := by omega
      go_wp2_with fail
      go_ret
      exact ⟨rfl, _, MM.out, TT.out, FF.out⟩
end Go.Proofs.Ytdiiefhklcchmaa
