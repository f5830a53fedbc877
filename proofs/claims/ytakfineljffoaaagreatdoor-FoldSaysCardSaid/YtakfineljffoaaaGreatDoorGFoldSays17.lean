/-
  THE REFERENCE's WORDS: bit by bit: and, or, exclusive or, moves and turns. Condition: the number of the instruction is 7 to 14.
-/
import Derived.Test.YtakfineljffoaaaGreatDoorGFoldSays16
namespace Go.Proofs.YtakfineljffoaaaGreatDoor
open Go.RowKit Go.Lib

def bwF {n : Nat} (which : Nat) (a b : BitVec n) (by' i : Nat) : Bool :=
 match which with
 | 7 => a.getLsbD i && b.getLsbD i
 | 8 => a.getLsbD i || b.getLsbD i
 | 9 => a.getLsbD i != b.getLsbD i
 | 10 => decide (by' ≤ i) && a.getLsbD (i - by')
 | 11 => a.getLsbD (min (n - 1) (i + by'))
 | 12 => decide (i + by' < n) && a.getLsbD (i + by')
 | 13 => a.getLsbD ((i + n - by') % n)
 | _ => a.getLsbD ((i + by') % n)
def bwL {n : Nat} (which : Nat) (a b : BitVec n) (by' k : Nat) : List Bool := (List.range n).map (fun i => if i < k then bwF which a b by' i else false)
theorem bwL_zero {n : Nat} (which : Nat) (a b : BitVec n) (by' : Nat) : bwL which a b by' 0 = bl (0#n) := by
 rw [bl_zero]
 unfold bwL
 apply List.ext_getElem (by simp)
 intro i h1 h2
 simp
theorem bwL_set {n : Nat} (which : Nat) (a b : BitVec n) (by' k : Nat) : (bwL which a b by' k).set k (bwF which a b by' k) = bwL which a b by' (k + 1) := by
 unfold bwL
 apply List.ext_getElem (by simp)
 intro i h1 h2
 rw [List.getElem_set]
 simp only [List.getElem_map, List.getElem_range]
 by_cases e : k = i
 ·subst e; simp
 ·rw [if_neg e]
  by_cases h : i < k
  ·rw [if_pos h, if_pos (by omega)]
  ·rw [if_neg h, if_neg (by omega)]
theorem bwL_full {n : Nat} (which : Nat) (a b : BitVec n) (by' : Nat) : bwL which a b by' n = (List.range n).map (bwF which a b by') := by
 unfold bwL
 apply List.map_congr_left
 intro i hi
 rw [List.mem_range] at hi
 rw [if_pos hi]
theorem bwL_length {n : Nat} (which : Nat) (a b : BitVec n) (by' k : Nat) : (bwL which a b by' k).length = n := by simp [bwL]
theorem ownb_at {xs : List Bool} {w : World} {base g cap : Nat} (hv : OwnBW w base (.slice (some ⟨g, 0, none⟩) xs.length cap) xs) (j : Nat) (hj : j < xs.length) : w.cell? ⟨g, j, none⟩ = some (.bool xs[j]) ∧ w.frozen? ⟨g, j, none⟩ = false := by
 have hv0 : w.ownsRow base 4 1 (.slice (some ⟨g, 0, none⟩) xs.length cap) xs.length (xs.map Value.bool) := hv
 have h1 := hv0.cells (g := g) rfl j (.bool xs[j]) (by rw [List.getElem?_map, List.getElem?_eq_getElem hj]; rfl)
 have e : (⟨g, 0, none⟩ : Addr).add j = ⟨g, j, none⟩ := by unfold Addr.add; split <;> simp_all
 rw [e] at h1
 refine ⟨h1, ?_⟩
 rcases hv.2 with ⟨hx, _⟩ | ⟨g', cap', cur, hx, hbg, hh, hn, hc, hs, htk⟩
 ·simp at hx
 ·simp only [Value.slice.injEq, Option.some.injEq, Addr.mk.injEq, and_true, true_and] at hx
  obtain ⟨rfl, rfl⟩ := hx
  simp [World.frozen?, hh]

set_option maxRecDepth 100000 in
set_option maxHeartbeats 8000000 in
theorem bitwise_7 {n : Nat} (a b : BitVec n) (h0 : 0 < n) (hn : n ≤ 90) (by' : Nat) (hby : by' < n) (w : World) (v u : Value) (hv : Bools w v (bl a)) (hu : Bools w u (bl b)) :
  Calls Tryz.prog 149 #[.int .i64 7, v, u, .int .i64 by'] w fun e w' => ∃ v', e = .returned v' ∧ OwnBW w' w.heap.size v' ((List.range n).map (bwF 7 a b by')) ∧ Below w.heap.size w w' := by
 have hmk := fun wx : World => run_make_row' (P := Tryz.prog) 161 4 (.bool false) 1 Tryz.underlying161 (by kernel_rfl) rfl .i64 .i64 n (by omega) (by omega) wx
 obtain ⟨g, off, cap, rfl, hcap, hm, hg, HC⟩ := bools_open2 a h0 hv
 obtain ⟨g2, off2, cap2, rfl, hcap2, hm2, hg2, HC2⟩ := bools_open2 b h0 hu
 clear hv hu
 have M0 := hid (made_own w n w.heap.size (by omega) (Nat.le_refl _))
 have hB0 : Hid (Below w.heap.size w (w.alloc (.cells (madeCells #[Value.bool false] n) 4))) := hid ((Below.refl _ _).alloc (Nat.le_refl _) _)
 have hnw : IntKind.i64.wrap ((n : Int) - 1) = ((n : Int) - 1) := by rw [IntKind.wrap_i64]; omega
 go_enter Tryz.func149, Tryz.ntmps149
 go_wp2_with fail
 clear hmk
 go_loopw [17] (fun i wr => ∃ (k : Nat), k ≤ n ∧ i = .int .i64 k ∧ Hid (OwnBW wr w.heap.size (.slice (some ⟨w.heap.size, 0, none⟩) n n) (bwL 7 a b by' k)) ∧ Hid (Below w.heap.size w wr)) (fun i _ => n - (RowKit.intOf i).toNat)
 case atStart => exact ⟨0, Nat.zero_le _, rfl, by rw [bwL_zero]; exact M0, hB0⟩
 case round =>
  clear M0 hB0
  obtain ⟨k, hk, rfl, HO, HB⟩ := hrel
  by_cases hlt : k < n
  ·have hll := bwL_length 7 a b by' k
   have hat := ownb_at (xs := bwL 7 a b by' k) (by rw [hll]; exact HO.out) k (by rw [hll]; exact hlt)
   have HS := hid (fun x (hx : bwF 7 a b by' k = x) => show OwnBW (wr.setCell ⟨w.heap.size, k, none⟩ (.bool x)) w.heap.size (.slice (some ⟨w.heap.size, 0, none⟩) n n) (bwL 7 a b by' (k + 1)) from by rw [← bwL_set, hx]; exact (O1.stored HO.out k x).1)
   have HSB := hid (fun x => show Below w.heap.size w (wr.setCell ⟨w.heap.size, k, none⟩ (.bool x)) from Below.setCell HB.out (by simp) _)
   obtain ⟨c1, c2⟩ := hat
   have hi0 : (0 : Int) ≤ (k : Int) := by omega
   have hi1 : (k : Int) < (n : Int) := by omega
   generalize (bwL 7 a b by' k)[k] = old at *
   clear hll
   have d1 := HC.out k hlt wr HB.out
   have d2 := HC2.out k hlt wr HB.out
   have HX : Hid (bwF 7 a b by' k = (a.getLsbD k && b.getLsbD k)) := hid rfl
   generalize a.getLsbD k = x at *
   generalize b.getLsbD k = y at *
   cases x
   all_goals simp only [Bool.true_and, Bool.false_and] at HX
   all_goals
    go_wp2_with fail
    go_roundw
    case rel => exact ⟨k + 1, by omega, by go_num, hid (HS.out _ HX.out), hid (HSB.out _)⟩
    case measure => simp [RowKit.intOf]; omega
  ·obtain rfl : k = n := by omega
   rw [bwL_full] at HO
   go_wp2_with fail
   go_ret
   exact ⟨_, rfl, HO.out, HB.out⟩

set_option maxRecDepth 100000 in
set_option maxHeartbeats 8000000 in
theorem bitwise_8 {n : Nat} (a b : BitVec n) (h0 : 0 < n) (hn : n ≤ 90) (by' : Nat) (hby : by' < n) (w : World) (v u : Value) (hv : Bools w v (bl a)) (hu : Bools w u (bl b)) :
  Calls Tryz.prog 149 #[.int .i64 8, v, u, .int .i64 by'] w fun e w' => ∃ v', e = .returned v' ∧ OwnBW w' w.heap.size v' ((List.range n).map (bwF 8 a b by')) ∧ Below w.heap.size w w' := by
 have hmk := fun wx : World => run_make_row' (P := Tryz.prog) 161 4 (.bool false) 1 Tryz.underlying161 (by kernel_rfl) rfl .i64 .i64 n (by omega) (by omega) wx
 obtain ⟨g, off, cap, rfl, hcap, hm, hg, HC⟩ := bools_open2 a h0 hv
 obtain ⟨g2, off2, cap2, rfl, hcap2, hm2, hg2, HC2⟩ := bools_open2 b h0 hu
 clear hv hu
 have M0 := hid (made_own w n w.heap.size (by omega) (Nat.le_refl _))
 have hB0 : Hid (Below w.heap.size w (w.alloc (.cells (madeCells #[Value.bool false] n) 4))) := hid ((Below.refl _ _).alloc (Nat.le_refl _) _)
 have hnw : IntKind.i64.wrap ((n : Int) - 1) = ((n : Int) - 1) := by rw [IntKind.wrap_i64]; omega
 go_enter Tryz.func149, Tryz.ntmps149
 go_wp2_with fail
 clear hmk
 go_loopw [17] (fun i wr => ∃ (k : Nat), k ≤ n ∧ i = .int .i64 k ∧ Hid (OwnBW wr w.heap.size (.slice (some ⟨w.heap.size, 0, none⟩) n n) (bwL 8 a b by' k)) ∧ Hid (Below w.heap.size w wr)) (fun i _ => n - (RowKit.intOf i).toNat)
 case atStart => exact ⟨0, Nat.zero_le _, rfl, by rw [bwL_zero]; exact M0, hB0⟩
 case round =>
  clear M0 hB0
  obtain ⟨k, hk, rfl, HO, HB⟩ := hrel
  by_cases hlt : k < n
  ·have hll := bwL_length 8 a b by' k
   have hat := ownb_at (xs := bwL 8 a b by' k) (by rw [hll]; exact HO.out) k (by rw [hll]; exact hlt)
   have HS := hid (fun x (hx : bwF 8 a b by' k = x) => show OwnBW (wr.setCell ⟨w.heap.size, k, none⟩ (.bool x)) w.heap.size (.slice (some ⟨w.heap.size, 0, none⟩) n n) (bwL 8 a b by' (k + 1)) from by rw [← bwL_set, hx]; exact (O1.stored HO.out k x).1)
   have HSB := hid (fun x => show Below w.heap.size w (wr.setCell ⟨w.heap.size, k, none⟩ (.bool x)) from Below.setCell HB.out (by simp) _)
   obtain ⟨c1, c2⟩ := hat
   have hi0 : (0 : Int) ≤ (k : Int) := by omega
   have hi1 : (k : Int) < (n : Int) := by omega
   generalize (bwL 8 a b by' k)[k] = old at *
   clear hll
   have d1 := HC.out k hlt wr HB.out
   have d2 := HC2.out k hlt wr HB.out
   have HX : Hid (bwF 8 a b by' k = (a.getLsbD k || b.getLsbD k)) := hid rfl
   generalize a.getLsbD k = x at *
   generalize b.getLsbD k = y at *
   cases x
   all_goals simp only [Bool.true_or, Bool.false_or] at HX
   all_goals
    go_wp2_with fail
    go_roundw
    case rel => exact ⟨k + 1, by omega, by go_num, hid (HS.out _ HX.out), hid (HSB.out _)⟩
    case measure => simp [RowKit.intOf]; omega
  ·obtain rfl : k = n := by omega
   rw [bwL_full] at HO
   go_wp2_with fail
   go_ret
   exact ⟨_, rfl, HO.out, HB.out⟩

set_option maxRecDepth 100000 in
set_option maxHeartbeats 8000000 in
theorem bitwise_9 {n : Nat} (a b : BitVec n) (h0 : 0 < n) (hn : n ≤ 90) (by' : Nat) (hby : by' < n) (w : World) (v u : Value) (hv : Bools w v (bl a)) (hu : Bools w u (bl b)) :
  Calls Tryz.prog 149 #[.int .i64 9, v, u, .int .i64 by'] w fun e w' => ∃ v', e = .returned v' ∧ OwnBW w' w.heap.size v' ((List.range n).map (bwF 9 a b by')) ∧ Below w.heap.size w w' := by
 have hmk := fun wx : World => run_make_row' (P := Tryz.prog) 161 4 (.bool false) 1 Tryz.underlying161 (by kernel_rfl) rfl .i64 .i64 n (by omega) (by omega) wx
 obtain ⟨g, off, cap, rfl, hcap, hm, hg, HC⟩ := bools_open2 a h0 hv
 obtain ⟨g2, off2, cap2, rfl, hcap2, hm2, hg2, HC2⟩ := bools_open2 b h0 hu
 clear hv hu
 have M0 := hid (made_own w n w.heap.size (by omega) (Nat.le_refl _))
 have hB0 : Hid (Below w.heap.size w (w.alloc (.cells (madeCells #[Value.bool false] n) 4))) := hid ((Below.refl _ _).alloc (Nat.le_refl _) _)
 have hnw : IntKind.i64.wrap ((n : Int) - 1) = ((n : Int) - 1) := by rw [IntKind.wrap_i64]; omega
 go_enter Tryz.func149, Tryz.ntmps149
 go_wp2_with fail
 clear hmk
 go_loopw [17] (fun i wr => ∃ (k : Nat), k ≤ n ∧ i = .int .i64 k ∧ Hid (OwnBW wr w.heap.size (.slice (some ⟨w.heap.size, 0, none⟩) n n) (bwL 9 a b by' k)) ∧ Hid (Below w.heap.size w wr)) (fun i _ => n - (RowKit.intOf i).toNat)
 case atStart => exact ⟨0, Nat.zero_le _, rfl, by rw [bwL_zero]; exact M0, hB0⟩
 case round =>
  clear M0 hB0
  obtain ⟨k, hk, rfl, HO, HB⟩ := hrel
  by_cases hlt : k < n
  ·have hll := bwL_length 9 a b by' k
   have hat := ownb_at (xs := bwL 9 a b by' k) (by rw [hll]; exact HO.out) k (by rw [hll]; exact hlt)
   have HS := hid (fun x (hx : bwF 9 a b by' k = x) => show OwnBW (wr.setCell ⟨w.heap.size, k, none⟩ (.bool x)) w.heap.size (.slice (some ⟨w.heap.size, 0, none⟩) n n) (bwL 9 a b by' (k + 1)) from by rw [← bwL_set, hx]; exact (O1.stored HO.out k x).1)
   have HSB := hid (fun x => show Below w.heap.size w (wr.setCell ⟨w.heap.size, k, none⟩ (.bool x)) from Below.setCell HB.out (by simp) _)
   obtain ⟨c1, c2⟩ := hat
   have hi0 : (0 : Int) ≤ (k : Int) := by omega
   have hi1 : (k : Int) < (n : Int) := by omega
   generalize (bwL 9 a b by' k)[k] = old at *
   clear hll
   have d1 := HC.out k hlt wr HB.out
   have d2 := HC2.out k hlt wr HB.out
   have HX : Hid (bwF 9 a b by' k = (!a.getLsbD k == b.getLsbD k)) := hid (by show (a.getLsbD k != b.getLsbD k) = _; cases a.getLsbD k <;> cases b.getLsbD k <;> rfl)
   generalize a.getLsbD k = x at *
   generalize b.getLsbD k = y at *
   go_wp2_with fail
   go_region_law (fail)
   all_goals
    go_wp2_with fail
    go_roundw
    case rel => exact ⟨k + 1, by omega, by go_num, hid (HS.out _ HX.out), hid (drew_bel' (n := 1) (HSB.out _))⟩
    case measure => simp [RowKit.intOf]; omega
  ·obtain rfl : k = n := by omega
   rw [bwL_full] at HO
   go_wp2_with fail
   go_ret
   exact ⟨_, rfl, HO.out, HB.out⟩

set_option maxRecDepth 100000 in
set_option maxHeartbeats 8000000 in
theorem bitwise_10 {n : Nat} (a b : BitVec n) (h0 : 0 < n) (hn : n ≤ 90) (by' : Nat) (hby : by' < n) (w : World) (v u : Value) (hv : Bools w v (bl a)) (hu : Bools w u (bl b)) :
  Calls Tryz.prog 149 #[.int .i64 10, v, u, .int .i64 by'] w fun e w' => ∃ v', e = .returned v' ∧ OwnBW w' w.heap.size v' ((List.range n).map (bwF 10 a b by')) ∧ Below w.heap.size w w' := by
 have hmk := fun wx : World => run_make_row' (P := Tryz.prog) 161 4 (.bool false) 1 Tryz.underlying161 (by kernel_rfl) rfl .i64 .i64 n (by omega) (by omega) wx
 obtain ⟨g, off, cap, rfl, hcap, hm, hg, HC⟩ := bools_open2 a h0 hv
 obtain ⟨g2, off2, cap2, rfl, hcap2, hm2, hg2, HC2⟩ := bools_open2 b h0 hu
 clear hv hu
 have M0 := hid (made_own w n w.heap.size (by omega) (Nat.le_refl _))
 have hB0 : Hid (Below w.heap.size w (w.alloc (.cells (madeCells #[Value.bool false] n) 4))) := hid ((Below.refl _ _).alloc (Nat.le_refl _) _)
 have hnw : IntKind.i64.wrap ((n : Int) - 1) = ((n : Int) - 1) := by rw [IntKind.wrap_i64]; omega
 go_enter Tryz.func149, Tryz.ntmps149
 go_wp2_with fail
 clear hmk
 go_loopw [17] (fun i wr => ∃ (k : Nat), k ≤ n ∧ i = .int .i64 k ∧ Hid (OwnBW wr w.heap.size (.slice (some ⟨w.heap.size, 0, none⟩) n n) (bwL 10 a b by' k)) ∧ Hid (Below w.heap.size w wr)) (fun i _ => n - (RowKit.intOf i).toNat)
 case atStart => exact ⟨0, Nat.zero_le _, rfl, by rw [bwL_zero]; exact M0, hB0⟩
 case round =>
  clear M0 hB0
  obtain ⟨k, hk, rfl, HO, HB⟩ := hrel
  by_cases hlt : k < n
  ·have hll := bwL_length 10 a b by' k
   have hat := ownb_at (xs := bwL 10 a b by' k) (by rw [hll]; exact HO.out) k (by rw [hll]; exact hlt)
   have HS := hid (fun x (hx : bwF 10 a b by' k = x) => show OwnBW (wr.setCell ⟨w.heap.size, k, none⟩ (.bool x)) w.heap.size (.slice (some ⟨w.heap.size, 0, none⟩) n n) (bwL 10 a b by' (k + 1)) from by rw [← bwL_set, hx]; exact (O1.stored HO.out k x).1)
   have HSB := hid (fun x => show Below w.heap.size w (wr.setCell ⟨w.heap.size, k, none⟩ (.bool x)) from Below.setCell HB.out (by simp) _)
   obtain ⟨c1, c2⟩ := hat
   have hi0 : (0 : Int) ≤ (k : Int) := by omega
   have hi1 : (k : Int) < (n : Int) := by omega
   generalize (bwL 10 a b by' k)[k] = old at *
   clear hll
   have hk1 : IntKind.i64.wrap ((k : Int) - (by' : Int)) = (k : Int) - (by' : Int) := by rw [IntKind.wrap_i64]; omega
   rcases (by omega : by' < k ∨ by' = k ∨ k < by') with hb | hb | hb
   ·have hb2 : (by' : Int) ≤ (k : Int) := by omega
    have hsn : (k : Int) - (by' : Int) = ((k - by' : Nat) : Int) := by omega
    rw [hsn] at hk1
    have d1 := HC.out (k - by') (by omega) wr HB.out
    have HX : Hid (bwF 10 a b by' k = a.getLsbD (k - by')) := hid (by show (decide (by' ≤ k) && _) = _; simp [Nat.le_of_lt hb])
    have hlt2 : ((k - by' : Nat) : Int) < (n : Int) := by omega
    have hlt3 : 0 < ((k - by' : Nat) : Int) := by omega
    have hlt4 : ¬ ((k - by' : Nat) : Int) ≤ 0 := by omega
    have hlt5 : (0 : Int) ≤ ((k - by' : Nat) : Int) := by omega
    have hlt6 : 0 < k - by' := by omega
    clear hsn
    generalize a.getLsbD (k - by') = x at *
    go_wp2_with fail
    go_roundw
    case rel => exact ⟨k + 1, by omega, by go_num, hid (HS.out _ HX.out), hid (HSB.out _)⟩
    case measure => simp [RowKit.intOf]; omega
   ·have hb' := hb.symm
    subst hb'
    have hsn : (k : Int) - (k : Int) = 0 := by omega
    rw [hsn] at hk1
    have d1 : wr.cell? ⟨g, off, none⟩ = some (.bool (a.getLsbD 0)) := HC.out 0 (by omega) wr HB.out
    have HX : Hid (bwF 10 a b k k = a.getLsbD 0) := hid (by show (decide (k ≤ k) && _) = _; simp)
    have hlt2 : (0 : Int) < (n : Int) := by omega
    generalize a.getLsbD 0 = x at *
    go_wp2_with fail
    go_roundw
    case rel => exact ⟨k + 1, by omega, by go_num, hid (HS.out _ HX.out), hid (HSB.out _)⟩
    case measure => simp [RowKit.intOf]; omega
   ·have hb2 : ¬ (by' : Int) ≤ (k : Int) := by omega
    have hb3 : (k : Int) < (by' : Int) := by omega
    have HX : Hid (bwF 10 a b by' k = false) := hid (by show (decide (by' ≤ k) && _) = _; simp; omega)
    go_wp2_with fail
    go_roundw
    case rel => exact ⟨k + 1, by omega, by go_num, hid (HS.out _ HX.out), hid (HSB.out _)⟩
    case measure => simp [RowKit.intOf]; omega
  ·obtain rfl : k = n := by omega
   rw [bwL_full] at HO
   go_wp2_with fail
   go_ret
   exact ⟨_, rfl, HO.out, HB.out⟩

set_option maxRecDepth 100000 in
set_option maxHeartbeats 8000000 in
theorem bitwise_11 {n : Nat} (a b : BitVec n) (h0 : 0 < n) (hn : n ≤ 90) (by' : Nat) (hby : by' < n) (w : World) (v u : Value) (hv : Bools w v (bl a)) (hu : Bools w u (bl b)) :
  Calls Tryz.prog 149 #[.int .i64 11, v, u, .int .i64 by'] w fun e w' => ∃ v', e = .returned v' ∧ OwnBW w' w.heap.size v' ((List.range n).map (bwF 11 a b by')) ∧ Below w.heap.size w w' := by
 have hmk := fun wx : World => run_make_row' (P := Tryz.prog) 161 4 (.bool false) 1 Tryz.underlying161 (by kernel_rfl) rfl .i64 .i64 n (by omega) (by omega) wx
 obtain ⟨g, off, cap, rfl, hcap, hm, hg, HC⟩ := bools_open2 a h0 hv
 obtain ⟨g2, off2, cap2, rfl, hcap2, hm2, hg2, HC2⟩ := bools_open2 b h0 hu
 clear hv hu
 have M0 := hid (made_own w n w.heap.size (by omega) (Nat.le_refl _))
 have hB0 : Hid (Below w.heap.size w (w.alloc (.cells (madeCells #[Value.bool false] n) 4))) := hid ((Below.refl _ _).alloc (Nat.le_refl _) _)
 have hnw : IntKind.i64.wrap ((n : Int) - 1) = ((n : Int) - 1) := by rw [IntKind.wrap_i64]; omega
 go_enter Tryz.func149, Tryz.ntmps149
 go_wp2_with fail
 clear hmk
 go_loopw [17] (fun i wr => ∃ (k : Nat), k ≤ n ∧ i = .int .i64 k ∧ Hid (OwnBW wr w.heap.size (.slice (some ⟨w.heap.size, 0, none⟩) n n) (bwL 11 a b by' k)) ∧ Hid (Below w.heap.size w wr)) (fun i _ => n - (RowKit.intOf i).toNat)
 case atStart => exact ⟨0, Nat.zero_le _, rfl, by rw [bwL_zero]; exact M0, hB0⟩
 case round =>
  clear M0 hB0
  obtain ⟨k, hk, rfl, HO, HB⟩ := hrel
  by_cases hlt : k < n
  ·have hll := bwL_length 11 a b by' k
   have hat := ownb_at (xs := bwL 11 a b by' k) (by rw [hll]; exact HO.out) k (by rw [hll]; exact hlt)
   have HS := hid (fun x (hx : bwF 11 a b by' k = x) => show OwnBW (wr.setCell ⟨w.heap.size, k, none⟩ (.bool x)) w.heap.size (.slice (some ⟨w.heap.size, 0, none⟩) n n) (bwL 11 a b by' (k + 1)) from by rw [← bwL_set, hx]; exact (O1.stored HO.out k x).1)
   have HSB := hid (fun x => show Below w.heap.size w (wr.setCell ⟨w.heap.size, k, none⟩ (.bool x)) from Below.setCell HB.out (by simp) _)
   obtain ⟨c1, c2⟩ := hat
   have hi0 : (0 : Int) ≤ (k : Int) := by omega
   have hi1 : (k : Int) < (n : Int) := by omega
   generalize (bwL 11 a b by' k)[k] = old at *
   clear hll
   have hk1 : IntKind.i64.wrap ((k : Int) + (by' : Int)) = ((k + by' : Nat) : Int) := by rw [IntKind.wrap_i64]; omega
   have hnw2 : IntKind.i64.wrap ((n : Int) - 1) = ((n : Int) - 1) := hnw
   rcases (by omega : k + by' < n - 1 ∨ n - 1 ≤ k + by') with hb | hb
   ·have d1 := HC.out (k + by') (by omega) wr HB.out
    have HX : Hid (bwF 11 a b by' k = a.getLsbD (k + by')) := hid (by show a.getLsbD (min (n - 1) (k + by')) = _; rw [Nat.min_eq_right (Nat.le_of_lt hb)])
    have hlt2 : ((k + by' : Nat) : Int) < (n : Int) := by omega
    have hle2 : ((k + by' : Nat) : Int) < (n : Int) - 1 := by omega
    have hle3 : ¬ (n : Int) - 1 ≤ ((k + by' : Nat) : Int) := by omega
    have hle4 : ((k + by' : Nat) : Int) ≤ (n : Int) - 1 := by omega
    generalize a.getLsbD (k + by') = x at *
    generalize k + by' = kb at *
    go_wp2_with fail
    go_roundw
    case rel => exact ⟨k + 1, by omega, by go_num, hid (HS.out _ HX.out), hid (HSB.out _)⟩
    case measure => simp [RowKit.intOf]; omega
   ·have HX : Hid (bwF 11 a b by' k = a.getLsbD (n - 1)) := hid (by show a.getLsbD (min (n - 1) (k + by')) = _; rw [Nat.min_eq_left hb])
    have hle3 : (n : Int) - 1 ≤ ((k + by' : Nat) : Int) := by omega
    have hlt3 : ¬ ((k + by' : Nat) : Int) < (n : Int) - 1 := by omega
    have hn1 : ((n - 1 : Nat) : Int) < (n : Int) := by omega
    have d1 := HC.out (n - 1) (by omega) wr HB.out
    generalize a.getLsbD (n - 1) = x at *
    generalize k + by' = kb at *
    go_wp2_with fail
    go_roundw
    case rel => exact ⟨k + 1, by omega, by go_num, hid (HS.out _ HX.out), hid (HSB.out _)⟩
    case measure => simp [RowKit.intOf]; omega
  ·obtain rfl : k = n := by omega
   rw [bwL_full] at HO
   go_wp2_with fail
   go_ret
   exact ⟨_, rfl, HO.out, HB.out⟩

set_option maxRecDepth 100000 in
set_option maxHeartbeats 8000000 in
theorem bitwise_12 {n : Nat} (a b : BitVec n) (h0 : 0 < n) (hn : n ≤ 90) (by' : Nat) (hby : by' < n) (w : World) (v u : Value) (hv : Bools w v (bl a)) (hu : Bools w u (bl b)) :
  Calls Tryz.prog 149 #[.int .i64 12, v, u, .int .i64 by'] w fun e w' => ∃ v', e = .returned v' ∧ OwnBW w' w.heap.size v' ((List.range n).map (bwF 12 a b by')) ∧ Below w.heap.size w w' := by
 have hmk := fun wx : World => run_make_row' (P := Tryz.prog) 161 4 (.bool false) 1 Tryz.underlying161 (by kernel_rfl) rfl .i64 .i64 n (by omega) (by omega) wx
 obtain ⟨g, off, cap, rfl, hcap, hm, hg, HC⟩ := bools_open2 a h0 hv
 obtain ⟨g2, off2, cap2, rfl, hcap2, hm2, hg2, HC2⟩ := bools_open2 b h0 hu
 clear hv hu
 have M0 := hid (made_own w n w.heap.size (by omega) (Nat.le_refl _))
 have hB0 : Hid (Below w.heap.size w (w.alloc (.cells (madeCells #[Value.bool false] n) 4))) := hid ((Below.refl _ _).alloc (Nat.le_refl _) _)
 have hnw : IntKind.i64.wrap ((n : Int) - 1) = ((n : Int) - 1) := by rw [IntKind.wrap_i64]; omega
 go_enter Tryz.func149, Tryz.ntmps149
 go_wp2_with fail
 clear hmk
 go_loopw [17] (fun i wr => ∃ (k : Nat), k ≤ n ∧ i = .int .i64 k ∧ Hid (OwnBW wr w.heap.size (.slice (some ⟨w.heap.size, 0, none⟩) n n) (bwL 12 a b by' k)) ∧ Hid (Below w.heap.size w wr)) (fun i _ => n - (RowKit.intOf i).toNat)
 case atStart => exact ⟨0, Nat.zero_le _, rfl, by rw [bwL_zero]; exact M0, hB0⟩
 case round =>
  clear M0 hB0
  obtain ⟨k, hk, rfl, HO, HB⟩ := hrel
  by_cases hlt : k < n
  ·have hll := bwL_length 12 a b by' k
   have hat := ownb_at (xs := bwL 12 a b by' k) (by rw [hll]; exact HO.out) k (by rw [hll]; exact hlt)
   have HS := hid (fun x (hx : bwF 12 a b by' k = x) => show OwnBW (wr.setCell ⟨w.heap.size, k, none⟩ (.bool x)) w.heap.size (.slice (some ⟨w.heap.size, 0, none⟩) n n) (bwL 12 a b by' (k + 1)) from by rw [← bwL_set, hx]; exact (O1.stored HO.out k x).1)
   have HSB := hid (fun x => show Below w.heap.size w (wr.setCell ⟨w.heap.size, k, none⟩ (.bool x)) from Below.setCell HB.out (by simp) _)
   obtain ⟨c1, c2⟩ := hat
   have hi0 : (0 : Int) ≤ (k : Int) := by omega
   have hi1 : (k : Int) < (n : Int) := by omega
   generalize (bwL 12 a b by' k)[k] = old at *
   clear hll
   have hk1 : IntKind.i64.wrap ((k : Int) + (by' : Int)) = ((k + by' : Nat) : Int) := by rw [IntKind.wrap_i64]; omega
   rcases (by omega : k + by' < n - 1 ∨ k + by' = n - 1 ∨ n ≤ k + by') with hb | hb | hb
   ·have d1 := HC.out (k + by') (by omega) wr HB.out
    have HX : Hid (bwF 12 a b by' k = a.getLsbD (k + by')) := hid (by show (decide (k + by' < n) && _) = _; simp [show k + by' < n by omega])
    have hlt2 : ((k + by' : Nat) : Int) < (n : Int) := by omega
    have hle2 : ((k + by' : Nat) : Int) < (n : Int) - 1 := by omega
    have hle3 : ¬ (n : Int) - 1 ≤ ((k + by' : Nat) : Int) := by omega
    have hle4 : ((k + by' : Nat) : Int) ≤ (n : Int) - 1 := by omega
    generalize a.getLsbD (k + by') = x at *
    generalize k + by' = kb at *
    go_wp2_with fail
    go_roundw
    case rel => exact ⟨k + 1, by omega, by go_num, hid (HS.out _ HX.out), hid (HSB.out _)⟩
    case measure => simp [RowKit.intOf]; omega
   ·have HX : Hid (bwF 12 a b by' k = a.getLsbD (n - 1)) := hid (by show (decide (k + by' < n) && _) = _; rw [hb]; simp [show n - 1 < n by omega])
    have hlt2 : ((k + by' : Nat) : Int) < (n : Int) := by omega
    have hle3 : (n : Int) - 1 ≤ ((k + by' : Nat) : Int) := by omega
    have hlt3 : ¬ ((k + by' : Nat) : Int) < (n : Int) - 1 := by omega
    have hn1 : ((n - 1 : Nat) : Int) < (n : Int) := by omega
    have d1 := HC.out (n - 1) (by omega) wr HB.out
    generalize a.getLsbD (n - 1) = x at *
    generalize k + by' = kb at *
    go_wp2_with fail
    go_roundw
    case rel => exact ⟨k + 1, by omega, by go_num, hid (HS.out _ HX.out), hid (HSB.out _)⟩
    case measure => simp [RowKit.intOf]; omega
   ·have HX : Hid (bwF 12 a b by' k = false) := hid (by show (decide (k + by' < n) && _) = _; simp [show ¬ k + by' < n by omega])
    have hlt2 : ¬ ((k + by' : Nat) : Int) < (n : Int) := by omega
    have hlt3 : (n : Int) ≤ ((k + by' : Nat) : Int) := by omega
    generalize k + by' = kb at *
    go_wp2_with fail
    go_roundw
    case rel => exact ⟨k + 1, by omega, by go_num, hid (HS.out _ HX.out), hid (HSB.out _)⟩
    case measure => simp [RowKit.intOf]; omega
  ·obtain rfl : k = n := by omega
   rw [bwL_full] at HO
   go_wp2_with fail
   go_ret
   exact ⟨_, rfl, HO.out, HB.out⟩

set_option maxRecDepth 100000 in
set_option maxHeartbeats 8000000 in
theorem bitwise_13 {n : Nat} (a b : BitVec n) (h0 : 0 < n) (hn : n ≤ 90) (by' : Nat) (hby : by' < n) (w : World) (v u : Value) (hv : Bools w v (bl a)) (hu : Bools w u (bl b)) :
  Calls Tryz.prog 149 #[.int .i64 13, v, u, .int .i64 by'] w fun e w' => ∃ v', e = .returned v' ∧ OwnBW w' w.heap.size v' ((List.range n).map (bwF 13 a b by')) ∧ Below w.heap.size w w' := by
 have hmk := fun wx : World => run_make_row' (P := Tryz.prog) 161 4 (.bool false) 1 Tryz.underlying161 (by kernel_rfl) rfl .i64 .i64 n (by omega) (by omega) wx
 obtain ⟨g, off, cap, rfl, hcap, hm, hg, HC⟩ := bools_open2 a h0 hv
 obtain ⟨g2, off2, cap2, rfl, hcap2, hm2, hg2, HC2⟩ := bools_open2 b h0 hu
 clear hv hu
 have M0 := hid (made_own w n w.heap.size (by omega) (Nat.le_refl _))
 have hB0 : Hid (Below w.heap.size w (w.alloc (.cells (madeCells #[Value.bool false] n) 4))) := hid ((Below.refl _ _).alloc (Nat.le_refl _) _)
 have hnw : IntKind.i64.wrap ((n : Int) - 1) = ((n : Int) - 1) := by rw [IntKind.wrap_i64]; omega
 go_enter Tryz.func149, Tryz.ntmps149
 go_wp2_with fail
 clear hmk
 go_loopw [17] (fun i wr => ∃ (k : Nat), k ≤ n ∧ i = .int .i64 k ∧ Hid (OwnBW wr w.heap.size (.slice (some ⟨w.heap.size, 0, none⟩) n n) (bwL 13 a b by' k)) ∧ Hid (Below w.heap.size w wr)) (fun i _ => n - (RowKit.intOf i).toNat)
 case atStart => exact ⟨0, Nat.zero_le _, rfl, by rw [bwL_zero]; exact M0, hB0⟩
 case round =>
  clear M0 hB0
  obtain ⟨k, hk, rfl, HO, HB⟩ := hrel
  by_cases hlt : k < n
  ·have hll := bwL_length 13 a b by' k
   have hat := ownb_at (xs := bwL 13 a b by' k) (by rw [hll]; exact HO.out) k (by rw [hll]; exact hlt)
   have HS := hid (fun x (hx : bwF 13 a b by' k = x) => show OwnBW (wr.setCell ⟨w.heap.size, k, none⟩ (.bool x)) w.heap.size (.slice (some ⟨w.heap.size, 0, none⟩) n n) (bwL 13 a b by' (k + 1)) from by rw [← bwL_set, hx]; exact (O1.stored HO.out k x).1)
   have HSB := hid (fun x => show Below w.heap.size w (wr.setCell ⟨w.heap.size, k, none⟩ (.bool x)) from Below.setCell HB.out (by simp) _)
   obtain ⟨c1, c2⟩ := hat
   have hi0 : (0 : Int) ≤ (k : Int) := by omega
   have hi1 : (k : Int) < (n : Int) := by omega
   generalize (bwL 13 a b by' k)[k] = old at *
   clear hll
   have hk1 : IntKind.i64.wrap ((k : Int) - (by' : Int)) = (k : Int) - (by' : Int) := by rw [IntKind.wrap_i64]; omega
   have hk2 : IntKind.i64.wrap ((k : Int) - (by' : Int) + (n : Int)) = (k : Int) - (by' : Int) + (n : Int) := by rw [IntKind.wrap_i64]; omega
   obtain ⟨q, hq⟩ : ∃ q, q = (k + n - by') % n := ⟨_, rfl⟩
   have hqn : q < n := by rw [hq]; exact Nat.mod_lt _ h0
   have hI : (k : Int) - (by' : Int) + (n : Int) = ((k + n - by' : Nat) : Int) := by omega
   have hm9 : ((k : Int) - (by' : Int) + (n : Int)).tmod (n : Int) = (q : Int) := by rw [hI, hq, Int.ofNat_tmod]
   have hm5 : ((k : Int) - (by' : Int) + (n : Int)) % (n : Int) = (q : Int) := by rw [hI, hq]; rfl
   have hn0 : ((n : Int) == 0) = false := by simp; omega
   have d1 := HC.out q hqn wr HB.out
   have HX : Hid (bwF 13 a b by' k = a.getLsbD q) := hid (by rw [hq]; rfl)
   have hq1 : (q : Int) < (n : Int) := by omega
   generalize a.getLsbD q = x at *
   clear hq hI
   go_wp2_with fail
   go_roundw
   case rel => exact ⟨k + 1, by omega, by go_num, hid (HS.out _ HX.out), hid (HSB.out _)⟩
   case measure => simp [RowKit.intOf]; omega
  ·obtain rfl : k = n := by omega
   rw [bwL_full] at HO
   go_wp2_with fail
   go_ret
   exact ⟨_, rfl, HO.out, HB.out⟩

set_option maxRecDepth 100000 in
set_option maxHeartbeats 8000000 in
theorem bitwise_14 {n : Nat} (a b : BitVec n) (h0 : 0 < n) (hn : n ≤ 90) (by' : Nat) (hby : by' < n) (w : World) (v u : Value) (hv : Bools w v (bl a)) (hu : Bools w u (bl b)) :
  Calls Tryz.prog 149 #[.int .i64 14, v, u, .int .i64 by'] w fun e w' => ∃ v', e = .returned v' ∧ OwnBW w' w.heap.size v' ((List.range n).map (bwF 14 a b by')) ∧ Below w.heap.size w w' := by
 have hmk := fun wx : World => run_make_row' (P := Tryz.prog) 161 4 (.bool false) 1 Tryz.underlying161 (by kernel_rfl) rfl .i64 .i64 n (by omega) (by omega) wx
 obtain ⟨g, off, cap, rfl, hcap, hm, hg, HC⟩ := bools_open2 a h0 hv
 obtain ⟨g2, off2, cap2, rfl, hcap2, hm2, hg2, HC2⟩ := bools_open2 b h0 hu
 clear hv hu
 have M0 := hid (made_own w n w.heap.size (by omega) (Nat.le_refl _))
 have hB0 : Hid (Below w.heap.size w (w.alloc (.cells (madeCells #[Value.bool false] n) 4))) := hid ((Below.refl _ _).alloc (Nat.le_refl _) _)
 have hnw : IntKind.i64.wrap ((n : Int) - 1) = ((n : Int) - 1) := by rw [IntKind.wrap_i64]; omega
 go_enter Tryz.func149, Tryz.ntmps149
 go_wp2_with fail
 clear hmk
 go_loopw [17] (fun i wr => ∃ (k : Nat), k ≤ n ∧ i = .int .i64 k ∧ Hid (OwnBW wr w.heap.size (.slice (some ⟨w.heap.size, 0, none⟩) n n) (bwL 14 a b by' k)) ∧ Hid (Below w.heap.size w wr)) (fun i _ => n - (RowKit.intOf i).toNat)
 case atStart => exact ⟨0, Nat.zero_le _, rfl, by rw [bwL_zero]; exact M0, hB0⟩
 case round =>
  clear M0 hB0
  obtain ⟨k, hk, rfl, HO, HB⟩ := hrel
  by_cases hlt : k < n
  ·have hll := bwL_length 14 a b by' k
   have hat := ownb_at (xs := bwL 14 a b by' k) (by rw [hll]; exact HO.out) k (by rw [hll]; exact hlt)
   have HS := hid (fun x (hx : bwF 14 a b by' k = x) => show OwnBW (wr.setCell ⟨w.heap.size, k, none⟩ (.bool x)) w.heap.size (.slice (some ⟨w.heap.size, 0, none⟩) n n) (bwL 14 a b by' (k + 1)) from by rw [← bwL_set, hx]; exact (O1.stored HO.out k x).1)
   have HSB := hid (fun x => show Below w.heap.size w (wr.setCell ⟨w.heap.size, k, none⟩ (.bool x)) from Below.setCell HB.out (by simp) _)
   obtain ⟨c1, c2⟩ := hat
   have hi0 : (0 : Int) ≤ (k : Int) := by omega
   have hi1 : (k : Int) < (n : Int) := by omega
   generalize (bwL 14 a b by' k)[k] = old at *
   clear hll
   have hk1 : IntKind.i64.wrap ((k : Int) + (by' : Int)) = (k : Int) + (by' : Int) := by rw [IntKind.wrap_i64]; omega
   obtain ⟨q, hq⟩ : ∃ q, q = (k + by') % n := ⟨_, rfl⟩
   have hqn : q < n := by rw [hq]; exact Nat.mod_lt _ h0
   have hI : (k : Int) + (by' : Int) = ((k + by' : Nat) : Int) := by omega
   have hm9 : ((k : Int) + (by' : Int)).tmod (n : Int) = (q : Int) := by rw [hI, hq, Int.ofNat_tmod]
   have hm5 : ((k : Int) + (by' : Int)) % (n : Int) = (q : Int) := by rw [hI, hq]; rfl
   have hn0 : ((n : Int) == 0) = false := by simp; omega
   have d1 := HC.out q hqn wr HB.out
   have HX : Hid (bwF 14 a b by' k = a.getLsbD q) := hid (by rw [hq]; rfl)
   have hq1 : (q : Int) < (n : Int) := by omega
   generalize a.getLsbD q = x at *
   clear hq hI
   go_wp2_with fail
   go_roundw
   case rel => exact ⟨k + 1, by omega, by go_num, hid (HS.out _ HX.out), hid (HSB.out _)⟩
   case measure => simp [RowKit.intOf]; omega
  ·obtain rfl : k = n := by omega
   rw [bwL_full] at HO
   go_wp2_with fail
   go_ret
   exact ⟨_, rfl, HO.out, HB.out⟩
--MORE
end Go.Proofs.YtakfineljffoaaaGreatDoor
namespace Go.Proofs.YtakfineljffoaaaGreatDoor
open Go.RowKit

def bwV {n : Nat} (which : Nat) (a b : BitVec n) (k : Nat) : BitVec n :=
  match which with
  | 7 => a &&& b
  | 8 => a ||| b
  | 9 => a ^^^ b
  | 10 => a <<< k
  | 11 => a.sshiftRight k
  | 12 => a >>> k
  | 13 => a.rotateLeft k
  | _ => a.rotateRight k
theorem bw_bl {n : Nat} (which : Nat) (a b : BitVec n) (k : Nat) (hk : k < n) (h : 7 ≤ which ∧ which ≤ 14) : (List.range n).map (bwF which a b k) = bl (bwV which a b k) := by
  unfold bl
  apply List.map_congr_left
  intro i hi
  rw [List.mem_range] at hi
  rcases (by omega : which = 7 ∨ which = 8 ∨ which = 9 ∨ which = 10 ∨ which = 11 ∨ which = 12 ∨ which = 13 ∨ which = 14) with rfl | rfl | rfl | rfl | rfl | rfl | rfl | rfl
  · simp [bwF, bwV]
  · simp [bwF, bwV]
  · simp [bwF, bwV]
  · simp only [bwF, bwV, BitVec.getLsbD_shiftLeft]
    by_cases h : k ≤ i
    · simp [h, hi]
    · simp [h]
  · simp only [bwF, bwV, BitVec.getLsbD_sshiftRight, BitVec.msb_eq_getLsbD_last]
    by_cases h : k + i < n
    · rw [Nat.min_eq_right (by omega), if_pos h, Nat.add_comm]; simp [hi]
    · rw [Nat.min_eq_left (by omega), if_neg h]; simp [hi]
  · simp only [bwF, bwV, BitVec.getLsbD_ushiftRight]
    by_cases h : i + k < n
    · rw [decide_eq_true h, Bool.true_and, Nat.add_comm]
    · simp [h]; rw [BitVec.getLsbD_of_ge]; omega
  · simp only [bwF, bwV, BitVec.getLsbD_rotateLeft, Nat.mod_eq_of_lt hk]
    by_cases h : i < k
    · have e : (i + n - k) % n = n - k + i := by rw [Nat.mod_eq_of_lt (by omega)]; omega
      simp [h, e]
    · have e : (i + n - k) % n = i - k := by rw [show i + n - k = (i - k) + n by omega, Nat.add_mod_right, Nat.mod_eq_of_lt (by omega)]
      simp [h, e, hi]
  · simp only [bwF, bwV, BitVec.getLsbD_rotateRight, Nat.mod_eq_of_lt hk]
    by_cases h : i < n - k
    · have e : (i + k) % n = k + i := by rw [Nat.mod_eq_of_lt (by omega)]; omega
      simp [h, e]
    · have e : (i + k) % n = i - (n - k) := by rw [show i + k = (i - (n - k)) + n by omega, Nat.add_mod_right, Nat.mod_eq_of_lt (by omega)]
      simp [h, e, hi]
end Go.Proofs.YtakfineljffoaaaGreatDoor
namespace Go.Proofs.YtakfineljffoaaaGreatDoor
open Go.RowKit Go.Lib

def sizeV {n : Nat} (b : BitVec n) : BitVec n := if b.getLsbD (n - 1) = true then -b else b
theorem sizeV_ne {n : Nat} {b : BitVec n} (h : b ≠ 0#n) : sizeV b ≠ 0#n := by
  unfold sizeV
  split
  · intro e
    exact h (by have := congrArg (fun x => -x) e; simpa using this)
  · exact h
theorem sdiv_size {n : Nat} (a b : BitVec n) : a.sdiv b = if a.getLsbD (n - 1) = b.getLsbD (n - 1) then sizeV a / sizeV b else -(sizeV a / sizeV b) := by
  rw [BitVec.sdiv_eq, BitVec.msb_eq_getLsbD_last, BitVec.msb_eq_getLsbD_last]
  unfold sizeV
  cases a.getLsbD (n - 1) <;> cases b.getLsbD (n - 1) <;> simp
theorem srem_size {n : Nat} (a b : BitVec n) : a.srem b = if a.getLsbD (n - 1) = true then -(sizeV a % sizeV b) else sizeV a % sizeV b := by
  rw [BitVec.srem_eq, BitVec.msb_eq_getLsbD_last, BitVec.msb_eq_getLsbD_last]
  unfold sizeV
  cases a.getLsbD (n - 1) <;> cases b.getLsbD (n - 1) <;> simp

set_option maxRecDepth 100000 in
set_option maxHeartbeats 4000000 in
theorem rk_none {n : Nat} (b : BitVec n) (h0 : 0 < n) (hnn : n ≤ 62 ∨ n = 64) (hb : b = 0#n) (wh : Int) (hwh : wh = 3 ∨ wh = 4 ∨ wh = 5 ∨ wh = 6) (a : BitVec n) (w : World) (v u : Value) (hv : Bools w v (bl a)) (hu : Bools w u (bl b)) :
    Calls Tryz.prog 114 #[.int .i64 wh, v, u] w fun e w' => e = .returned (.tuple #[.int .i64 0, .int .i64 21]) ∧ Below w.heap.size w w' := by
  have HN := hid (none_any b h0 (by omega) w u hu)
  rw [decide_eq_true hb] at HN
  clear hb hu
  obtain ⟨g, off, cap, rfl, hcap, hm, hg, HC⟩ := bools_open2 a h0 hv
  clear hv HC
  rcases hwh with rfl | rfl | rfl | rfl
  all_goals
    go_enter Tryz.func114, Tryz.ntmps114
    go_wp2_with (first | (go_at_call 109; refine HN.out.mono ?_; rintro r w9 ⟨rfl, rfl⟩))
    go_ret2
    exact ⟨rfl, Below.refl _ _⟩

set_option maxRecDepth 100000 in
set_option maxHeartbeats 4000000 in
theorem rk_4 {n : Nat} (a b : BitVec n) (h0 : 0 < n) (hnn : n ≤ 62 ∨ n = 64) (hb : b ≠ 0#n) (w : World) (v u : Value) (hv : Bools w v (bl a)) (hu : Bools w u (bl b)) :
    Calls Tryz.prog 114 #[.int .i64 4, v, u] w fun e w' => e = .returned (.tuple #[.int .i64 (a / b).toInt, .int .i64 0]) ∧ Below w.heap.size w w' := by
  have hn : n ≤ 64 := by omega
  have HN := hid (none_any b h0 (by omega) w u hu)
  rw [decide_eq_false hb] at HN
  have HP := hid (plain_anyW b h0 hn w u hu)
  have HS := hid (split_any a b h0 (by omega) hb w v u hv hu)
  have HVAL := hid (fun w' x h => value_any (a / b) h0 hnn w' x h)
  obtain ⟨q, hq⟩ : ∃ q, q = b.toNat % n := ⟨_, rfl⟩
  have hqn : q < n := by rw [hq]; exact Nat.mod_lt _ h0
  have hm9 : ((b.toNat : Int)).tmod (n : Int) = (q : Int) := by rw [hq, Int.ofNat_tmod]
  have hm5 : ((b.toNat : Int)) % (n : Int) = (q : Int) := by rw [hq]; rfl
  have hn0 : ((n : Int) == 0) = false := by simp; omega
  clear hq
  obtain ⟨g, off, cap, rfl, hcap, hm, hg, HC⟩ := bools_open2 a h0 hv
  clear hv hu HC hb
  go_enter Tryz.func114, Tryz.ntmps114
  go_wp2_with (first | (go_at_call 109; refine HN.out.mono ?_; rintro r w9 ⟨rfl, rfl⟩) | (go_at_call 112; refine HP.out.mono ?_; rintro r w9 ⟨rfl, rfl⟩) | (go_at_call 147; refine HS.out.mono ?_; rintro r w1 ⟨v1, v2, rfl, ho1, ho2, hb1⟩; have O1' := hid (O1.l1 ho1); have B1 := hid hb1; clear ho1 ho2 hb1) | (go_at_call 111; refine (HVAL.out _ _ O1'.out).mono ?_; rintro r w2 ⟨rfl, rfl⟩))
  go_ret2
  exact ⟨rfl, B1.out⟩
set_option maxRecDepth 100000 in
set_option maxHeartbeats 4000000 in
theorem rk_6 {n : Nat} (a b : BitVec n) (h0 : 0 < n) (hnn : n ≤ 62 ∨ n = 64) (hb : b ≠ 0#n) (w : World) (v u : Value) (hv : Bools w v (bl a)) (hu : Bools w u (bl b)) :
    Calls Tryz.prog 114 #[.int .i64 6, v, u] w fun e w' => e = .returned (.tuple #[.int .i64 (a % b).toInt, .int .i64 0]) ∧ Below w.heap.size w w' := by
  have hn : n ≤ 64 := by omega
  have HN := hid (none_any b h0 (by omega) w u hu)
  rw [decide_eq_false hb] at HN
  have HP := hid (plain_anyW b h0 hn w u hu)
  have HS := hid (split_any a b h0 (by omega) hb w v u hv hu)
  have HVAL := hid (fun w' x h => value_any (a % b) h0 hnn w' x h)
  obtain ⟨q, hq⟩ : ∃ q, q = b.toNat % n := ⟨_, rfl⟩
  have hqn : q < n := by rw [hq]; exact Nat.mod_lt _ h0
  have hm9 : ((b.toNat : Int)).tmod (n : Int) = (q : Int) := by rw [hq, Int.ofNat_tmod]
  have hm5 : ((b.toNat : Int)) % (n : Int) = (q : Int) := by rw [hq]; rfl
  have hn0 : ((n : Int) == 0) = false := by simp; omega
  clear hq
  obtain ⟨g, off, cap, rfl, hcap, hm, hg, HC⟩ := bools_open2 a h0 hv
  clear hv hu HC hb
  go_enter Tryz.func114, Tryz.ntmps114
  go_wp2_with (first | (go_at_call 109; refine HN.out.mono ?_; rintro r w9 ⟨rfl, rfl⟩) | (go_at_call 112; refine HP.out.mono ?_; rintro r w9 ⟨rfl, rfl⟩) | (go_at_call 147; refine HS.out.mono ?_; rintro r w1 ⟨v1, v2, rfl, ho1, ho2, hb1⟩; have O1' := hid ho2; have B1 := hid hb1; clear ho1 ho2 hb1) | (go_at_call 111; refine (HVAL.out _ _ O1'.out).mono ?_; rintro r w2 ⟨rfl, rfl⟩))
  go_ret2
  exact ⟨rfl, B1.out⟩
set_option maxRecDepth 100000 in
set_option maxHeartbeats 4000000 in
theorem rk_5 {n : Nat} (a b : BitVec n) (h0 : 0 < n) (hnn : n ≤ 62 ∨ n = 64) (hb : b ≠ 0#n) (w : World) (v u : Value) (hv : Bools w v (bl a)) (hu : Bools w u (bl b)) :
    Calls Tryz.prog 114 #[.int .i64 5, v, u] w fun e w' => e = .returned (.tuple #[.int .i64 (a.srem b).toInt, .int .i64 0]) ∧ Below w.heap.size w w' := by
  have hn : n ≤ 64 := by omega
  have HN := hid (none_any b h0 (by omega) w u hu)
  rw [decide_eq_false hb] at HN
  have HP := hid (plain_anyW b h0 hn w u hu)
  have HA := hid (size_any a h0 (by omega) w v hv)
  have HB := hid (fun w' h => size_any b h0 (by omega) w' u (L1.below hu h))
  have HS := hid (fun w' x y hx hy => split_any (sizeV a) (sizeV b) h0 (by omega) (sizeV_ne hb) w' x y hx hy)
  have HM := hid (fun w' x h => minus_any (sizeV a % sizeV b) h0 (by omega) w' x h)
  have HR := srem_size a b
  have HVAL := hid (fun w' x h => value_any (a.srem b) h0 hnn w' x h)
  obtain ⟨q, hq⟩ : ∃ q, q = b.toNat % n := ⟨_, rfl⟩
  have hqn : q < n := by rw [hq]; exact Nat.mod_lt _ h0
  have hm9 : ((b.toNat : Int)).tmod (n : Int) = (q : Int) := by rw [hq, Int.ofNat_tmod]
  have hm5 : ((b.toNat : Int)) % (n : Int) = (q : Int) := by rw [hq]; rfl
  have hn0 : ((n : Int) == 0) = false := by simp; omega
  clear hq
  obtain ⟨g, off, cap, rfl, hcap, hm, hg, HC⟩ := bools_open2 a h0 hv
  clear hv hu hb
  have hi0 : IntKind.i64.wrap ((n : Int) - 1) = ((n - 1 : Nat) : Int) := by rw [IntKind.wrap_i64]; omega
  have hin : ((n - 1 : Nat) : Int) < (n : Int) := by omega
  have HCT := hid (HC.out (n - 1) (by omega))
  clear HC
  cases hs : a.getLsbD (n - 1)
  all_goals
    rw [hs] at HR HCT
    simp only [if_true, if_false, Bool.false_eq_true] at HR
    rw [HR] at HVAL
    have HRE := hid HR
    clear hs HR
    go_enter Tryz.func114, Tryz.ntmps114
    go_wp2_with (first | (go_at_call 109; refine HN.out.mono ?_; rintro r w9 ⟨rfl, rfl⟩) | (go_at_call 112; refine HP.out.mono ?_; rintro r w9 ⟨rfl, rfl⟩) | (go_at_call 146; with_reducible refine HA.out.mono ?_; rintro r w1 ⟨v1, rfl, ho1, hb1⟩; have O1' := hid ho1; have B1 := hid hb1; clear ho1 hb1) | (go_at_call 146; with_reducible refine (HB.out _ B1.out).mono ?_; rintro r w2 ⟨v2, rfl, ho2, hb2⟩; have O2' := hid ho2; have B2 := hid (B1.out.trans (hb2.mono B1.out.size)); have O12 := hid (L1.below O1'.out hb2); clear ho2 hb2) | (go_at_call 147; refine (HS.out _ _ _ O12.out O2'.out).mono ?_; rintro r w3 ⟨v3, v4, rfl, ho3, ho4, hb3⟩; have O4 := hid ho4; have B3 := hid (B2.out.trans (hb3.mono B2.out.size)); have at1 := HCT.out _ B3.out; clear ho3 ho4 hb3) | (go_at_call 148; refine (HM.out _ _ O4.out).mono ?_; rintro r w5 ⟨v5, rfl, ho5, hb5⟩; have O5 := hid (O1.l1 ho5); have B5 := hid (B3.out.trans (hb5.mono B3.out.size)); clear ho5 hb5) | (go_at_call 111; refine (HVAL.out _ _ (by first | exact O5.out | exact O4.out)).mono ?_; rintro r w6 ⟨rfl, rfl⟩))
    go_ret2
    exact ⟨by rw [HRE.out]; rfl, by first | exact B5.out | exact B3.out⟩
end Go.Proofs.YtakfineljffoaaaGreatDoor
namespace Go.Proofs.YtakfineljffoaaaGreatDoor
open Go.RowKit Go.Lib

def ovf {n : Nat} (a b : BitVec n) : Bool := (a.getLsbD (n - 1) == b.getLsbD (n - 1)) && (sizeV a / sizeV b).getLsbD (n - 1)

set_option maxRecDepth 100000 in
set_option maxHeartbeats 4000000 in
theorem rk_3 {n : Nat} (a b : BitVec n) (h0 : 0 < n) (hnn : n ≤ 62 ∨ n = 64) (hb : b ≠ 0#n) (w : World) (v u : Value) (hv : Bools w v (bl a)) (hu : Bools w u (bl b)) :
    Calls Tryz.prog 114 #[.int .i64 3, v, u] w fun e w' => e = .returned (.tuple #[.int .i64 (if ovf a b = true then 0 else (a.sdiv b).toInt), .int .i64 (if ovf a b = true then 22 else 0)]) ∧ Below w.heap.size w w' := by
  have hn : n ≤ 64 := by omega
  have HN := hid (none_any b h0 (by omega) w u hu)
  rw [decide_eq_false hb] at HN
  have HP := hid (plain_anyW b h0 hn w u hu)
  have HA := hid (size_any a h0 (by omega) w v hv)
  have HB := hid (fun w' h => size_any b h0 (by omega) w' u (L1.below hu h))
  have HS := hid (fun w' x y hx hy => split_any (sizeV a) (sizeV b) h0 (by omega) (sizeV_ne hb) w' x y hx hy)
  have HM := hid (fun w' x h => minus_any (sizeV a / sizeV b) h0 (by omega) w' x h)
  have HR := sdiv_size a b
  have HVAL := hid (fun w' x h => value_any (a.sdiv b) h0 hnn w' x h)
  obtain ⟨q, hq⟩ : ∃ q, q = b.toNat % n := ⟨_, rfl⟩
  have hqn : q < n := by rw [hq]; exact Nat.mod_lt _ h0
  have hm9 : ((b.toNat : Int)).tmod (n : Int) = (q : Int) := by rw [hq, Int.ofNat_tmod]
  have hm5 : ((b.toNat : Int)) % (n : Int) = (q : Int) := by rw [hq]; rfl
  have hn0 : ((n : Int) == 0) = false := by simp; omega
  clear hq
  obtain ⟨g, off, cap, rfl, hcap, hm, hg, HC⟩ := bools_open2 a h0 hv
  obtain ⟨g2, off2, cap2, rfl, hcap2, hm2, hg2, HC2⟩ := bools_open2 b h0 hu
  clear hv hu hb
  have hi0 : IntKind.i64.wrap ((n : Int) - 1) = ((n - 1 : Nat) : Int) := by rw [IntKind.wrap_i64]; omega
  have hin : ((n - 1 : Nat) : Int) < (n : Int) := by omega
  have hnn1 : n - 1 < n := by omega
  have HCT := hid (HC.out (n - 1) (by omega))
  have HCT2 := hid (HC2.out (n - 1) (by omega))
  clear HC HC2
  unfold ovf
  cases hs : a.getLsbD (n - 1) <;> cases ht : b.getLsbD (n - 1) <;> cases hz : (sizeV a / sizeV b).getLsbD (n - 1)
  all_goals
    rw [hs, ht] at HR
    rw [hs] at HCT
    rw [ht] at HCT2
    have HZ := hid hz
    simp only [if_true, if_false, Bool.false_eq_true, Bool.true_eq_false] at HR
    simp only [beq_self_eq_true, Bool.and_true, Bool.and_false, if_true, if_false, Bool.false_eq_true, show (true == false) = false from rfl, show (false == true) = false from rfl]
    rw [HR] at HVAL
    have HRE := hid HR
    clear hs ht hz HR
    go_enter Tryz.func114, Tryz.ntmps114
    go_wp2_with (first | (go_at_call 109; refine HN.out.mono ?_; rintro r w9 ⟨rfl, rfl⟩) | (go_at_call 112; refine HP.out.mono ?_; rintro r w9 ⟨rfl, rfl⟩) | (go_at_call 146; with_reducible refine HA.out.mono ?_; rintro r w1 ⟨v1, rfl, ho1, hb1⟩; have O1' := hid ho1; have B1 := hid hb1; clear ho1 hb1) | (go_at_call 146; with_reducible refine (HB.out _ B1.out).mono ?_; rintro r w2 ⟨v2, rfl, ho2, hb2⟩; have O2' := hid ho2; have B2 := hid (B1.out.trans (hb2.mono B1.out.size)); have O12 := hid (L1.below O1'.out hb2); clear ho2 hb2) | (go_at_call 147; refine (HS.out _ _ _ O12.out O2'.out).mono ?_; rintro r w3 ⟨v3, v4, rfl, ho3, ho4, hb3⟩; obtain ⟨g3, cap3, rfl, hg3, hl3, hc3, hf3⟩ := own_open _ h0 ho3; have O3 := hid (O1.l1 ho3); have B3 := hid (B2.out.trans (hb3.mono B2.out.size)); have at1 : w3.cell? ⟨g, off + (n - 1), none⟩ = _ := HCT.out _ B3.out; have at2 : w3.cell? ⟨g2, off2 + (n - 1), none⟩ = _ := HCT2.out _ B3.out; have at3 := hc3 _ hnn1; rw [HZ.out] at at3; have at4 : w3.drew.cell? ⟨g3, n - 1, none⟩ = _ := at3; clear hc3 hf3 ho3 ho4 hb3))
    go_quiet (fail)
    go_wp2_with (first | (go_at_call 148; refine (HM.out _ _ (L1.below O3.out (drew_bel' (n := nq) (Below.refl _ _)))).mono ?_; rintro r w5 ⟨v5, rfl, ho5, hb5⟩; have O5 := hid (O1.l1 ho5); have B5 := hid ((drew_bel' (n := nq) B3.out).trans (hb5.mono (drew_bel' (n := nq) B3.out).size)); clear ho5 hb5) | (go_at_call 111; refine (HVAL.out _ _ (by first | exact O5.out | exact L1.below O3.out (drew_bel' (n := nq) (Below.refl _ _)))).mono ?_; rintro r w6 ⟨rfl, rfl⟩))
    go_ret2
    exact ⟨by first | rfl | (rw [HRE.out]; rfl), by first | exact B5.out | exact drew_bel' (n := nq) B3.out⟩
end Go.Proofs.YtakfineljffoaaaGreatDoor
