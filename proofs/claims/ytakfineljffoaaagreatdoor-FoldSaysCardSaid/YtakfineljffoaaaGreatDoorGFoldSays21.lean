/-
  THE REFERENCE's reckon, instruction by instruction. Condition: the width is at most 62, or 64.
-/
import Derived.Test.YtakfineljffoaaaGreatDoorGFoldSays17
namespace Go.Proofs.YtakfineljffoaaaGreatDoor
open Go.RowKit Go.Lib

set_option maxRecDepth 100000 in
set_option maxHeartbeats 4000000 in
theorem rk_0 {n : Nat} (a b : BitVec n) (h0 : 0 < n) (hnn : n ≤ 62 ∨ n = 64) (w : World) (v u : Value) (hv : Bools w v (bl a)) (hu : Bools w u (bl b)) :
    Calls Tryz.prog 114 #[.int .i64 0, v, u] w fun e w' => e = .returned (.tuple #[.int .i64 (a + b).toInt, .int .i64 0]) ∧ Below w.heap.size w w' := by
  have hn : n ≤ 64 := by omega
  have HP := hid (plain_anyW b h0 hn w u hu)
  have HVAL := hid (fun w' x h => value_any (a + b) h0 hnn w' x h)
  obtain ⟨q, hq⟩ : ∃ q, q = b.toNat % n := ⟨_, rfl⟩
  have hqn : q < n := by rw [hq]; exact Nat.mod_lt _ h0
  have hm9 : ((b.toNat : Int)).tmod (n : Int) = (q : Int) := by rw [hq, Int.ofNat_tmod]
  have hm5 : ((b.toNat : Int)) % (n : Int) = (q : Int) := by rw [hq]; rfl
  have hn0 : ((n : Int) == 0) = false := by simp; omega
  have HA := hid (fun w' h => add_any a b false h0 (by omega) w' v u (L1.below hv h) (L1.below hu h))
  rw [sum_eq] at HA
  clear hq
  generalize (a + b) = R at *
  obtain ⟨g, off, cap, rfl, hcap, hm, hg, HC⟩ := bools_open2 a h0 hv
  clear hv hu HC
  go_enter Tryz.func114, Tryz.ntmps114
  go_wp2_with (first | (go_at_call 112; refine HP.out.mono ?_; rintro r w9 ⟨rfl, rfl⟩) | (go_at_call 143; refine (HA.out _ (Below.refl _ _)).mono ?_; rintro r w1 ⟨v1, rfl, ho1, hb1⟩; have O1' := hid ho1; have B1 := hid hb1; clear ho1 hb1) | (go_at_call 111; refine (HVAL.out _ _ (O1.l1 O1'.out)).mono ?_; rintro r w2 ⟨rfl, rfl⟩))
  go_ret2
  exact ⟨rfl, B1.out⟩

set_option maxRecDepth 100000 in
set_option maxHeartbeats 4000000 in
theorem rk_1 {n : Nat} (a b : BitVec n) (h0 : 0 < n) (hnn : n ≤ 62 ∨ n = 64) (w : World) (v u : Value) (hv : Bools w v (bl a)) (hu : Bools w u (bl b)) :
    Calls Tryz.prog 114 #[.int .i64 1, v, u] w fun e w' => e = .returned (.tuple #[.int .i64 (a - b).toInt, .int .i64 0]) ∧ Below w.heap.size w w' := by
  have hn : n ≤ 64 := by omega
  have HP := hid (plain_anyW b h0 hn w u hu)
  have HVAL := hid (fun w' x h => value_any (a - b) h0 hnn w' x h)
  obtain ⟨q, hq⟩ : ∃ q, q = b.toNat % n := ⟨_, rfl⟩
  have hqn : q < n := by rw [hq]; exact Nat.mod_lt _ h0
  have hm9 : ((b.toNat : Int)).tmod (n : Int) = (q : Int) := by rw [hq, Int.ofNat_tmod]
  have hm5 : ((b.toNat : Int)) % (n : Int) = (q : Int) := by rw [hq]; rfl
  have hn0 : ((n : Int) == 0) = false := by simp; omega
  have HN := hid (not_any b h0 (by omega) w u hu)
  have HA := hid (fun w' x h hx => add_any a (~~~b) true h0 (by omega) w' v x (L1.below hv h) hx)
  rw [sub_eq] at HA
  clear hq
  generalize (a - b) = R at *
  obtain ⟨g, off, cap, rfl, hcap, hm, hg, HC⟩ := bools_open2 a h0 hv
  clear hv hu HC
  go_enter Tryz.func114, Tryz.ntmps114
  go_wp2_with (first | (go_at_call 112; refine HP.out.mono ?_; rintro r w9 ⟨rfl, rfl⟩) | (go_at_call 144; refine HN.out.mono ?_; rintro r w0 ⟨v0, rfl, ho0, hb0⟩; have O0 := hid ho0; have B0 := hid hb0; clear ho0 hb0) | (go_at_call 143; refine (HA.out _ _ B0.out (O1.l1 O0.out)).mono ?_; rintro r w1 ⟨v1, rfl, ho1, hb1⟩; have O1' := hid ho1; have B1 := hid (B0.out.trans (hb1.mono B0.out.size)); clear ho1 hb1) | (go_at_call 111; refine (HVAL.out _ _ (O1.l1 O1'.out)).mono ?_; rintro r w2 ⟨rfl, rfl⟩))
  go_ret2
  exact ⟨rfl, B1.out⟩

set_option maxRecDepth 100000 in
set_option maxHeartbeats 4000000 in
theorem rk_2 {n : Nat} (a b : BitVec n) (h0 : 0 < n) (hnn : n ≤ 62 ∨ n = 64) (w : World) (v u : Value) (hv : Bools w v (bl a)) (hu : Bools w u (bl b)) :
    Calls Tryz.prog 114 #[.int .i64 2, v, u] w fun e w' => e = .returned (.tuple #[.int .i64 (a * b).toInt, .int .i64 0]) ∧ Below w.heap.size w w' := by
  have hn : n ≤ 64 := by omega
  have HP := hid (plain_anyW b h0 hn w u hu)
  have HVAL := hid (fun w' x h => value_any (a * b) h0 hnn w' x h)
  obtain ⟨q, hq⟩ : ∃ q, q = b.toNat % n := ⟨_, rfl⟩
  have hqn : q < n := by rw [hq]; exact Nat.mod_lt _ h0
  have hm9 : ((b.toNat : Int)).tmod (n : Int) = (q : Int) := by rw [hq, Int.ofNat_tmod]
  have hm5 : ((b.toNat : Int)) % (n : Int) = (q : Int) := by rw [hq]; rfl
  have hn0 : ((n : Int) == 0) = false := by simp; omega
  have HA := hid (times_any a b h0 (by omega) w v u hv hu)
  clear hq
  generalize (a * b) = R at *
  obtain ⟨g, off, cap, rfl, hcap, hm, hg, HC⟩ := bools_open2 a h0 hv
  clear hv hu HC
  go_enter Tryz.func114, Tryz.ntmps114
  go_wp2_with (first | (go_at_call 112; refine HP.out.mono ?_; rintro r w9 ⟨rfl, rfl⟩) | (go_at_call 145; refine HA.out.mono ?_; rintro r w1 ⟨v1, rfl, ho1, hb1⟩; have O1' := hid ho1; have B1 := hid hb1; clear ho1 hb1) | (go_at_call 111; refine (HVAL.out _ _ (O1.l1 O1'.out)).mono ?_; rintro r w2 ⟨rfl, rfl⟩))
  go_ret2
  exact ⟨rfl, B1.out⟩

set_option maxRecDepth 100000 in
set_option maxHeartbeats 4000000 in
theorem rk_7 {n : Nat} (a b : BitVec n) (h0 : 0 < n) (hnn : n ≤ 62 ∨ n = 64) (w : World) (v u : Value) (hv : Bools w v (bl a)) (hu : Bools w u (bl b)) :
    Calls Tryz.prog 114 #[.int .i64 7, v, u] w fun e w' => e = .returned (.tuple #[.int .i64 (bwV 7 a b (b.toNat % n)).toInt, .int .i64 0]) ∧ Below w.heap.size w w' := by
  have hn : n ≤ 64 := by omega
  have HP := hid (plain_anyW b h0 hn w u hu)
  have HVAL := hid (fun w' x h => value_any (bwV 7 a b (b.toNat % n)) h0 hnn w' x h)
  obtain ⟨q, hq⟩ : ∃ q, q = b.toNat % n := ⟨_, rfl⟩
  have hqn : q < n := by rw [hq]; exact Nat.mod_lt _ h0
  have hm9 : ((b.toNat : Int)).tmod (n : Int) = (q : Int) := by rw [hq, Int.ofNat_tmod]
  have hm5 : ((b.toNat : Int)) % (n : Int) = (q : Int) := by rw [hq]; rfl
  have hn0 : ((n : Int) == 0) = false := by simp; omega
  rw [← hq] at HVAL ⊢
  have HA := hid (bitwise_7 a b h0 (by omega) q hqn w v u hv hu)
  rw [bw_bl 7 a b q hqn (by decide)] at HA
  clear hq
  generalize (bwV 7 a b q) = R at *
  obtain ⟨g, off, cap, rfl, hcap, hm, hg, HC⟩ := bools_open2 a h0 hv
  clear hv hu HC
  go_enter Tryz.func114, Tryz.ntmps114
  go_wp2_with (first | (go_at_call 112; refine HP.out.mono ?_; rintro r w9 ⟨rfl, rfl⟩) | (go_at_call 149; refine HA.out.mono ?_; rintro r w1 ⟨v1, rfl, ho1, hb1⟩; have O1' := hid ho1; have B1 := hid hb1; clear ho1 hb1) | (go_at_call 111; refine (HVAL.out _ _ (O1.l1 O1'.out)).mono ?_; rintro r w2 ⟨rfl, rfl⟩))
  go_ret2
  exact ⟨rfl, B1.out⟩

set_option maxRecDepth 100000 in
set_option maxHeartbeats 4000000 in
theorem rk_8 {n : Nat} (a b : BitVec n) (h0 : 0 < n) (hnn : n ≤ 62 ∨ n = 64) (w : World) (v u : Value) (hv : Bools w v (bl a)) (hu : Bools w u (bl b)) :
    Calls Tryz.prog 114 #[.int .i64 8, v, u] w fun e w' => e = .returned (.tuple #[.int .i64 (bwV 8 a b (b.toNat % n)).toInt, .int .i64 0]) ∧ Below w.heap.size w w' := by
  have hn : n ≤ 64 := by omega
  have HP := hid (plain_anyW b h0 hn w u hu)
  have HVAL := hid (fun w' x h => value_any (bwV 8 a b (b.toNat % n)) h0 hnn w' x h)
  obtain ⟨q, hq⟩ : ∃ q, q = b.toNat % n := ⟨_, rfl⟩
  have hqn : q < n := by rw [hq]; exact Nat.mod_lt _ h0
  have hm9 : ((b.toNat : Int)).tmod (n : Int) = (q : Int) := by rw [hq, Int.ofNat_tmod]
  have hm5 : ((b.toNat : Int)) % (n : Int) = (q : Int) := by rw [hq]; rfl
  have hn0 : ((n : Int) == 0) = false := by simp; omega
  rw [← hq] at HVAL ⊢
  have HA := hid (bitwise_8 a b h0 (by omega) q hqn w v u hv hu)
  rw [bw_bl 8 a b q hqn (by decide)] at HA
  clear hq
  generalize (bwV 8 a b q) = R at *
  obtain ⟨g, off, cap, rfl, hcap, hm, hg, HC⟩ := bools_open2 a h0 hv
  clear hv hu HC
  go_enter Tryz.func114, Tryz.ntmps114
  go_wp2_with (first | (go_at_call 112; refine HP.out.mono ?_; rintro r w9 ⟨rfl, rfl⟩) | (go_at_call 149; refine HA.out.mono ?_; rintro r w1 ⟨v1, rfl, ho1, hb1⟩; have O1' := hid ho1; have B1 := hid hb1; clear ho1 hb1) | (go_at_call 111; refine (HVAL.out _ _ (O1.l1 O1'.out)).mono ?_; rintro r w2 ⟨rfl, rfl⟩))
  go_ret2
  exact ⟨rfl, B1.out⟩

set_option maxRecDepth 100000 in
set_option maxHeartbeats 4000000 in
theorem rk_9 {n : Nat} (a b : BitVec n) (h0 : 0 < n) (hnn : n ≤ 62 ∨ n = 64) (w : World) (v u : Value) (hv : Bools w v (bl a)) (hu : Bools w u (bl b)) :
    Calls Tryz.prog 114 #[.int .i64 9, v, u] w fun e w' => e = .returned (.tuple #[.int .i64 (bwV 9 a b (b.toNat % n)).toInt, .int .i64 0]) ∧ Below w.heap.size w w' := by
  have hn : n ≤ 64 := by omega
  have HP := hid (plain_anyW b h0 hn w u hu)
  have HVAL := hid (fun w' x h => value_any (bwV 9 a b (b.toNat % n)) h0 hnn w' x h)
  obtain ⟨q, hq⟩ : ∃ q, q = b.toNat % n := ⟨_, rfl⟩
  have hqn : q < n := by rw [hq]; exact Nat.mod_lt _ h0
  have hm9 : ((b.toNat : Int)).tmod (n : Int) = (q : Int) := by rw [hq, Int.ofNat_tmod]
  have hm5 : ((b.toNat : Int)) % (n : Int) = (q : Int) := by rw [hq]; rfl
  have hn0 : ((n : Int) == 0) = false := by simp; omega
  rw [← hq] at HVAL ⊢
  have HA := hid (bitwise_9 a b h0 (by omega) q hqn w v u hv hu)
  rw [bw_bl 9 a b q hqn (by decide)] at HA
  clear hq
  generalize (bwV 9 a b q) = R at *
  obtain ⟨g, off, cap, rfl, hcap, hm, hg, HC⟩ := bools_open2 a h0 hv
  clear hv hu HC
  go_enter Tryz.func114, Tryz.ntmps114
  go_wp2_with (first | (go_at_call 112; refine HP.out.mono ?_; rintro r w9 ⟨rfl, rfl⟩) | (go_at_call 149; refine HA.out.mono ?_; rintro r w1 ⟨v1, rfl, ho1, hb1⟩; have O1' := hid ho1; have B1 := hid hb1; clear ho1 hb1) | (go_at_call 111; refine (HVAL.out _ _ (O1.l1 O1'.out)).mono ?_; rintro r w2 ⟨rfl, rfl⟩))
  go_ret2
  exact ⟨rfl, B1.out⟩

set_option maxRecDepth 100000 in
set_option maxHeartbeats 4000000 in
theorem rk_10 {n : Nat} (a b : BitVec n) (h0 : 0 < n) (hnn : n ≤ 62 ∨ n = 64) (w : World) (v u : Value) (hv : Bools w v (bl a)) (hu : Bools w u (bl b)) :
    Calls Tryz.prog 114 #[.int .i64 10, v, u] w fun e w' => e = .returned (.tuple #[.int .i64 (bwV 10 a b (b.toNat % n)).toInt, .int .i64 0]) ∧ Below w.heap.size w w' := by
  have hn : n ≤ 64 := by omega
  have HP := hid (plain_anyW b h0 hn w u hu)
  have HVAL := hid (fun w' x h => value_any (bwV 10 a b (b.toNat % n)) h0 hnn w' x h)
  obtain ⟨q, hq⟩ : ∃ q, q = b.toNat % n := ⟨_, rfl⟩
  have hqn : q < n := by rw [hq]; exact Nat.mod_lt _ h0
  have hm9 : ((b.toNat : Int)).tmod (n : Int) = (q : Int) := by rw [hq, Int.ofNat_tmod]
  have hm5 : ((b.toNat : Int)) % (n : Int) = (q : Int) := by rw [hq]; rfl
  have hn0 : ((n : Int) == 0) = false := by simp; omega
  rw [← hq] at HVAL ⊢
  have HA := hid (bitwise_10 a b h0 (by omega) q hqn w v u hv hu)
  rw [bw_bl 10 a b q hqn (by decide)] at HA
  clear hq
  generalize (bwV 10 a b q) = R at *
  obtain ⟨g, off, cap, rfl, hcap, hm, hg, HC⟩ := bools_open2 a h0 hv
  clear hv hu HC
  go_enter Tryz.func114, Tryz.ntmps114
  go_wp2_with (first | (go_at_call 112; refine HP.out.mono ?_; rintro r w9 ⟨rfl, rfl⟩) | (go_at_call 149; refine HA.out.mono ?_; rintro r w1 ⟨v1, rfl, ho1, hb1⟩; have O1' := hid ho1; have B1 := hid hb1; clear ho1 hb1) | (go_at_call 111; refine (HVAL.out _ _ (O1.l1 O1'.out)).mono ?_; rintro r w2 ⟨rfl, rfl⟩))
  go_ret2
  exact ⟨rfl, B1.out⟩

set_option maxRecDepth 100000 in
set_option maxHeartbeats 4000000 in
theorem rk_11 {n : Nat} (a b : BitVec n) (h0 : 0 < n) (hnn : n ≤ 62 ∨ n = 64) (w : World) (v u : Value) (hv : Bools w v (bl a)) (hu : Bools w u (bl b)) :
    Calls Tryz.prog 114 #[.int .i64 11, v, u] w fun e w' => e = .returned (.tuple #[.int .i64 (bwV 11 a b (b.toNat % n)).toInt, .int .i64 0]) ∧ Below w.heap.size w w' := by
  have hn : n ≤ 64 := by omega
  have HP := hid (plain_anyW b h0 hn w u hu)
  have HVAL := hid (fun w' x h => value_any (bwV 11 a b (b.toNat % n)) h0 hnn w' x h)
  obtain ⟨q, hq⟩ : ∃ q, q = b.toNat % n := ⟨_, rfl⟩
  have hqn : q < n := by rw [hq]; exact Nat.mod_lt _ h0
  have hm9 : ((b.toNat : Int)).tmod (n : Int) = (q : Int) := by rw [hq, Int.ofNat_tmod]
  have hm5 : ((b.toNat : Int)) % (n : Int) = (q : Int) := by rw [hq]; rfl
  have hn0 : ((n : Int) == 0) = false := by simp; omega
  rw [← hq] at HVAL ⊢
  have HA := hid (bitwise_11 a b h0 (by omega) q hqn w v u hv hu)
  rw [bw_bl 11 a b q hqn (by decide)] at HA
  clear hq
  generalize (bwV 11 a b q) = R at *
  obtain ⟨g, off, cap, rfl, hcap, hm, hg, HC⟩ := bools_open2 a h0 hv
  clear hv hu HC
  go_enter Tryz.func114, Tryz.ntmps114
  go_wp2_with (first | (go_at_call 112; refine HP.out.mono ?_; rintro r w9 ⟨rfl, rfl⟩) | (go_at_call 149; refine HA.out.mono ?_; rintro r w1 ⟨v1, rfl, ho1, hb1⟩; have O1' := hid ho1; have B1 := hid hb1; clear ho1 hb1) | (go_at_call 111; refine (HVAL.out _ _ (O1.l1 O1'.out)).mono ?_; rintro r w2 ⟨rfl, rfl⟩))
  go_ret2
  exact ⟨rfl, B1.out⟩

set_option maxRecDepth 100000 in
set_option maxHeartbeats 4000000 in
theorem rk_12 {n : Nat} (a b : BitVec n) (h0 : 0 < n) (hnn : n ≤ 62 ∨ n = 64) (w : World) (v u : Value) (hv : Bools w v (bl a)) (hu : Bools w u (bl b)) :
    Calls Tryz.prog 114 #[.int .i64 12, v, u] w fun e w' => e = .returned (.tuple #[.int .i64 (bwV 12 a b (b.toNat % n)).toInt, .int .i64 0]) ∧ Below w.heap.size w w' := by
  have hn : n ≤ 64 := by omega
  have HP := hid (plain_anyW b h0 hn w u hu)
  have HVAL := hid (fun w' x h => value_any (bwV 12 a b (b.toNat % n)) h0 hnn w' x h)
  obtain ⟨q, hq⟩ : ∃ q, q = b.toNat % n := ⟨_, rfl⟩
  have hqn : q < n := by rw [hq]; exact Nat.mod_lt _ h0
  have hm9 : ((b.toNat : Int)).tmod (n : Int) = (q : Int) := by rw [hq, Int.ofNat_tmod]
  have hm5 : ((b.toNat : Int)) % (n : Int) = (q : Int) := by rw [hq]; rfl
  have hn0 : ((n : Int) == 0) = false := by simp; omega
  rw [← hq] at HVAL ⊢
  have HA := hid (bitwise_12 a b h0 (by omega) q hqn w v u hv hu)
  rw [bw_bl 12 a b q hqn (by decide)] at HA
  clear hq
  generalize (bwV 12 a b q) = R at *
  obtain ⟨g, off, cap, rfl, hcap, hm, hg, HC⟩ := bools_open2 a h0 hv
  clear hv hu HC
  go_enter Tryz.func114, Tryz.ntmps114
  go_wp2_with (first | (go_at_call 112; refine HP.out.mono ?_; rintro r w9 ⟨rfl, rfl⟩) | (go_at_call 149; refine HA.out.mono ?_; rintro r w1 ⟨v1, rfl, ho1, hb1⟩; have O1' := hid ho1; have B1 := hid hb1; clear ho1 hb1) | (go_at_call 111; refine (HVAL.out _ _ (O1.l1 O1'.out)).mono ?_; rintro r w2 ⟨rfl, rfl⟩))
  go_ret2
  exact ⟨rfl, B1.out⟩

set_option maxRecDepth 100000 in
set_option maxHeartbeats 4000000 in
theorem rk_13 {n : Nat} (a b : BitVec n) (h0 : 0 < n) (hnn : n ≤ 62 ∨ n = 64) (w : World) (v u : Value) (hv : Bools w v (bl a)) (hu : Bools w u (bl b)) :
    Calls Tryz.prog 114 #[.int .i64 13, v, u] w fun e w' => e = .returned (.tuple #[.int .i64 (bwV 13 a b (b.toNat % n)).toInt, .int .i64 0]) ∧ Below w.heap.size w w' := by
  have hn : n ≤ 64 := by omega
  have HP := hid (plain_anyW b h0 hn w u hu)
  have HVAL := hid (fun w' x h => value_any (bwV 13 a b (b.toNat % n)) h0 hnn w' x h)
  obtain ⟨q, hq⟩ : ∃ q, q = b.toNat % n := ⟨_, rfl⟩
  have hqn : q < n := by rw [hq]; exact Nat.mod_lt _ h0
  have hm9 : ((b.toNat : Int)).tmod (n : Int) = (q : Int) := by rw [hq, Int.ofNat_tmod]
  have hm5 : ((b.toNat : Int)) % (n : Int) = (q : Int) := by rw [hq]; rfl
  have hn0 : ((n : Int) == 0) = false := by simp; omega
  rw [← hq] at HVAL ⊢
  have HA := hid (bitwise_13 a b h0 (by omega) q hqn w v u hv hu)
  rw [bw_bl 13 a b q hqn (by decide)] at HA
  clear hq
  generalize (bwV 13 a b q) = R at *
  obtain ⟨g, off, cap, rfl, hcap, hm, hg, HC⟩ := bools_open2 a h0 hv
  clear hv hu HC
  go_enter Tryz.func114, Tryz.ntmps114
  go_wp2_with (first | (go_at_call 112; refine HP.out.mono ?_; rintro r w9 ⟨rfl, rfl⟩) | (go_at_call 149; refine HA.out.mono ?_; rintro r w1 ⟨v1, rfl, ho1, hb1⟩; have O1' := hid ho1; have B1 := hid hb1; clear ho1 hb1) | (go_at_call 111; refine (HVAL.out _ _ (O1.l1 O1'.out)).mono ?_; rintro r w2 ⟨rfl, rfl⟩))
  go_ret2
  exact ⟨rfl, B1.out⟩

set_option maxRecDepth 100000 in
set_option maxHeartbeats 4000000 in
theorem rk_14 {n : Nat} (a b : BitVec n) (h0 : 0 < n) (hnn : n ≤ 62 ∨ n = 64) (w : World) (v u : Value) (hv : Bools w v (bl a)) (hu : Bools w u (bl b)) :
    Calls Tryz.prog 114 #[.int .i64 14, v, u] w fun e w' => e = .returned (.tuple #[.int .i64 (bwV 14 a b (b.toNat % n)).toInt, .int .i64 0]) ∧ Below w.heap.size w w' := by
  have hn : n ≤ 64 := by omega
  have HP := hid (plain_anyW b h0 hn w u hu)
  have HVAL := hid (fun w' x h => value_any (bwV 14 a b (b.toNat % n)) h0 hnn w' x h)
  obtain ⟨q, hq⟩ : ∃ q, q = b.toNat % n := ⟨_, rfl⟩
  have hqn : q < n := by rw [hq]; exact Nat.mod_lt _ h0
  have hm9 : ((b.toNat : Int)).tmod (n : Int) = (q : Int) := by rw [hq, Int.ofNat_tmod]
  have hm5 : ((b.toNat : Int)) % (n : Int) = (q : Int) := by rw [hq]; rfl
  have hn0 : ((n : Int) == 0) = false := by simp; omega
  rw [← hq] at HVAL ⊢
  have HA := hid (bitwise_14 a b h0 (by omega) q hqn w v u hv hu)
  rw [bw_bl 14 a b q hqn (by decide)] at HA
  clear hq
  generalize (bwV 14 a b q) = R at *
  obtain ⟨g, off, cap, rfl, hcap, hm, hg, HC⟩ := bools_open2 a h0 hv
  clear hv hu HC
  go_enter Tryz.func114, Tryz.ntmps114
  go_wp2_with (first | (go_at_call 112; refine HP.out.mono ?_; rintro r w9 ⟨rfl, rfl⟩) | (go_at_call 149; refine HA.out.mono ?_; rintro r w1 ⟨v1, rfl, ho1, hb1⟩; have O1' := hid ho1; have B1 := hid hb1; clear ho1 hb1) | (go_at_call 111; refine (HVAL.out _ _ (O1.l1 O1'.out)).mono ?_; rintro r w2 ⟨rfl, rfl⟩))
  go_ret2
  exact ⟨rfl, B1.out⟩

end Go.Proofs.YtakfineljffoaaaGreatDoor
