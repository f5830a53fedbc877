/-
  THE REFERENCE's reckon: divisions and rests. Condition: the width is at most 62, or 64.
-/
import Derived.Test.YtomaiolhaenmhaaWbb
namespace Go.Proofs.Ytomaiolhaenmhaa
open Go.RowKit Go.Lib

def sizeV {n : Nat} (b : BitVec n) : BitVec n := if b.getLsbD (n - 1) = true then -b else b
theorem sizeV_ne {n : Nat} {b : BitVec n} (h : b ≠ 0#n) : sizeV b ≠ 0#n := by
  unfold sizeV
  split
  · intro e
    exact h (by have := congrArg (fun x => -x) e; simpa using this)
  · exact h
theorem sdiv_size {n : Nat} (a b : BitVec n) : a.sdiv b = if a.getLsbD (n - 1) = b.getLsbD (n - 1) then sizeV a / sizeV b else -(sizeV a / sizeV b) := by
  rw [BitVec.sdiv_eq, BitVec.msb_eq_getLsbD_last, BitVec.msb_eq_getLsbD_last]
  unfold sizeV
  cases a.getLsbD (n - 1) <;> cases b.getLsbD (n - 1) <;> simp
theorem srem_size {n : Nat} (a b : BitVec n) : a.srem b = if a.getLsbD (n - 1) = true then -(sizeV a % sizeV b) else sizeV a % sizeV b := by
  rw [BitVec.srem_eq, BitVec.msb_eq_getLsbD_last, BitVec.msb_eq_getLsbD_last]
  unfold sizeV
  cases a.getLsbD (n - 1) <;> cases b.getLsbD (n - 1) <;> simp

set_option maxRecDepth 100000 in
set_option maxHeartbeats 4000000 in
theorem rk_none {n : Nat} (b : BitVec n) (h0 : 0 < n) (hnn : n ≤ 62 ∨ n = 64) (hb : b = 0#n) (wh : Int) (hwh : wh = 3 ∨ wh = 4 ∨ wh = 5 ∨ wh = 6) (a : BitVec n) (w : World) (v u : Value) (hv : Bools w v (bl a)) (hu : Bools w u (bl b)) :
    Calls Try.prog 89 #[.int .i64 wh, v, u] w fun e w' => e = .returned (.tuple #[.int .i64 0, .int .i64 21]) ∧ Below w.heap.size w w' := by
  have HN := hid (none_any b h0 (by omega) w u hu)
  rw [decide_eq_true hb] at HN
  clear hb hu
  obtain ⟨g, off, cap, rfl, hcap, hm, hg, HC⟩ := bools_open2 a h0 hv
  clear hv HC
  rcases hwh with rfl | rfl | rfl | rfl
  all_goals
    go_enter Try.func89, Try.ntmps89
    go_wp2_with (first | (go_at_call 146; refine HN.out.mono ?_; rintro r w9 ⟨rfl, rfl⟩))
    go_ret2
    exact ⟨rfl, Below.refl _ _⟩

set_option maxRecDepth 100000 in
set_option maxHeartbeats 4000000 in
theorem rk_4 {n : Nat} (a b : BitVec n) (h0 : 0 < n) (hnn : n ≤ 62 ∨ n = 64) (hb : b ≠ 0#n) (w : World) (v u : Value) (hv : Bools w v (bl a)) (hu : Bools w u (bl b)) :
    Calls Try.prog 89 #[.int .i64 4, v, u] w fun e w' => e = .returned (.tuple #[.int .i64 (a / b).toInt, .int .i64 0]) ∧ Below w.heap.size w w' := by
  have hn : n ≤ 64 := by omega
  have HN := hid (none_any b h0 (by omega) w u hu)
  rw [decide_eq_false hb] at HN
  have HP := hid (plain_any b h0 hn w u hu)
  have HS := hid (split_any a b h0 (by omega) hb w v u hv hu)
  have HVAL := hid (fun w' x h => value_any (a / b) h0 hnn w' x h)
  obtain ⟨q, hq⟩ : ∃ q, q = b.toNat % n := ⟨_, rfl⟩
  have hqn : q < n := by rw [hq]; exact Nat.mod_lt _ h0
  have hm9 : ((b.toNat : Int)).tmod (n : Int) = (q : Int) := by rw [hq, Int.ofNat_tmod]
  have hm5 : ((b.toNat : Int)) % (n : Int) = (q : Int) := by rw [hq]; rfl
  have hn0 : ((n : Int) == 0) = false := by simp; omega
  clear hq
  obtain ⟨g, off, cap, rfl, hcap, hm, hg, HC⟩ := bools_open2 a h0 hv
  clear hv hu HC hb
  go_enter Try.func89, Try.ntmps89
  go_wp2_with (first | (go_at_call 146; refine HN.out.mono ?_; rintro r w9 ⟨rfl, rfl⟩) | (go_at_call 147; refine HP.out.mono ?_; rintro r w9 ⟨rfl, rfl⟩) | (go_at_call 152; refine HS.out.mono ?_; rintro r w1 ⟨v1, v2, rfl, ho1, ho2, hb1⟩; have O1' := hid (O1.l1 ho1); have B1 := hid hb1; clear ho1 ho2 hb1) | (go_at_call 155; refine (HVAL.out _ _ O1'.out).mono ?_; rintro r w2 ⟨rfl, rfl⟩))
  go_ret2
  exact ⟨rfl, B1.out⟩
set_option maxRecDepth 100000 in
set_option maxHeartbeats 4000000 in
theorem rk_6 {n : Nat} (a b : BitVec n) (h0 : 0 < n) (hnn : n ≤ 62 ∨ n = 64) (hb : b ≠ 0#n) (w : World) (v u : Value) (hv : Bools w v (bl a)) (hu : Bools w u (bl b)) :
    Calls Try.prog 89 #[.int .i64 6, v, u] w fun e w' => e = .returned (.tuple #[.int .i64 (a % b).toInt, .int .i64 0]) ∧ Below w.heap.size w w' := by
  have hn : n ≤ 64 := by omega
  have HN := hid (none_any b h0 (by omega) w u hu)
  rw [decide_eq_false hb] at HN
  have HP := hid (plain_any b h0 hn w u hu)
  have HS := hid (split_any a b h0 (by omega) hb w v u hv hu)
  have HVAL := hid (fun w' x h => value_any (a % b) h0 hnn w' x h)
  obtain ⟨q, hq⟩ : ∃ q, q = b.toNat % n := ⟨_, rfl⟩
  have hqn : q < n := by rw [hq]; exact Nat.mod_lt _ h0
  have hm9 : ((b.toNat : Int)).tmod (n : Int) = (q : Int) := by rw [hq, Int.ofNat_tmod]
  have hm5 : ((b.toNat : Int)) % (n : Int) = (q : Int) := by rw [hq]; rfl
  have hn0 : ((n : Int) == 0) = false := by simp; omega
  clear hq
  obtain ⟨g, off, cap, rfl, hcap, hm, hg, HC⟩ := bools_open2 a h0 hv
  clear hv hu HC hb
  go_enter Try.func89, Try.ntmps89
  go_wp2_with (first | (go_at_call 146; refine HN.out.mono ?_; rintro r w9 ⟨rfl, rfl⟩) | (go_at_call 147; refine HP.out.mono ?_; rintro r w9 ⟨rfl, rfl⟩) | (go_at_call 152; refine HS.out.mono ?_; rintro r w1 ⟨v1, v2, rfl, ho1, ho2, hb1⟩; have O1' := hid ho2; have B1 := hid hb1; clear ho1 ho2 hb1) | (go_at_call 155; refine (HVAL.out _ _ O1'.out).mono ?_; rintro r w2 ⟨rfl, rfl⟩))
  go_ret2
  exact ⟨rfl, B1.out⟩
set_option maxRecDepth 100000 in
set_option maxHeartbeats 4000000 in
theorem rk_5 {n : Nat} (a b : BitVec n) (h0 : 0 < n) (hnn : n ≤ 62 ∨ n = 64) (hb : b ≠ 0#n) (w : World) (v u : Value) (hv : Bools w v (bl a)) (hu : Bools w u (bl b)) :
    Calls Try.prog 89 #[.int .i64 5, v, u] w fun e w' => e = .returned (.tuple #[.int .i64 (a.srem b).toInt, .int .i64 0]) ∧ Below w.heap.size w w' := by
  have hn : n ≤ 64 := by omega
  have HN := hid (none_any b h0 (by omega) w u hu)
  rw [decide_eq_false hb] at HN
  have HP := hid (plain_any b h0 hn w u hu)
  have HA := hid (size_any a h0 (by omega) w v hv)
  have HB := hid (fun w' h => size_any b h0 (by omega) w' u (L1.below hu h))
  have HS := hid (fun w' x y hx hy => split_any (sizeV a) (sizeV b) h0 (by omega) (sizeV_ne hb) w' x y hx hy)
  have HM := hid (fun w' x h => minus_any (sizeV a % sizeV b) h0 (by omega) w' x h)
  have HR := srem_size a b
  have HVAL := hid (fun w' x h => value_any (a.srem b) h0 hnn w' x h)
  obtain ⟨q, hq⟩ : ∃ q, q = b.toNat % n := ⟨_, rfl⟩
  have hqn : q < n := by rw [hq]; exact Nat.mod_lt _ h0
  have hm9 : ((b.toNat : Int)).tmod (n : Int) = (q : Int) := by rw [hq, Int.ofNat_tmod]
  have hm5 : ((b.toNat : Int)) % (n : Int) = (q : Int) := by rw [hq]; rfl
  have hn0 : ((n : Int) == 0) = false := by simp; omega
  clear hq
  obtain ⟨g, off, cap, rfl, hcap, hm, hg, HC⟩ := bools_open2 a h0 hv
  clear hv hu hb
  have hi0 : IntKind.i64.wrap ((n : Int) - 1) = ((n - 1 : Nat) : Int) := by rw [IntKind.wrap_i64]; omega
  have hin : ((n - 1 : Nat) : Int) < (n : Int) := by omega
  have HCT := hid (HC.out (n - 1) (by omega))
  clear HC
  cases hs : a.getLsbD (n - 1)
  all_goals
    rw [hs] at HR HCT
    simp only [if_true, if_false, Bool.false_eq_true] at HR
    rw [HR] at HVAL
    have HRE := hid HR
    clear hs HR
    go_enter Try.func89, Try.ntmps89
    go_wp2_with (first | (go_at_call 146; refine HN.out.mono ?_; rintro r w9 ⟨rfl, rfl⟩) | (go_at_call 147; refine HP.out.mono ?_; rintro r w9 ⟨rfl, rfl⟩) | (go_at_call 151; with_reducible refine HA.out.mono ?_; rintro r w1 ⟨v1, rfl, ho1, hb1⟩; have O1' := hid ho1; have B1 := hid hb1; clear ho1 hb1) | (go_at_call 151; with_reducible refine (HB.out _ B1.out).mono ?_; rintro r w2 ⟨v2, rfl, ho2, hb2⟩; have O2' := hid ho2; have B2 := hid (B1.out.trans (hb2.mono B1.out.size)); have O12 := hid (L1.below O1'.out hb2); clear ho2 hb2) | (go_at_call 152; refine (HS.out _ _ _ O12.out O2'.out).mono ?_; rintro r w3 ⟨v3, v4, rfl, ho3, ho4, hb3⟩; have O4 := hid ho4; have B3 := hid (B2.out.trans (hb3.mono B2.out.size)); have at1 := HCT.out _ B3.out; clear ho3 ho4 hb3) | (go_at_call 153; refine (HM.out _ _ O4.out).mono ?_; rintro r w5 ⟨v5, rfl, ho5, hb5⟩; have O5 := hid (O1.l1 ho5); have B5 := hid (B3.out.trans (hb5.mono B3.out.size)); clear ho5 hb5) | (go_at_call 155; refine (HVAL.out _ _ (by first | exact O5.out | exact O4.out)).mono ?_; rintro r w6 ⟨rfl, rfl⟩))
    go_ret2
    exact ⟨by rw [HRE.out]; rfl, by first | exact B5.out | exact B3.out⟩
end Go.Proofs.Ytomaiolhaenmhaa
