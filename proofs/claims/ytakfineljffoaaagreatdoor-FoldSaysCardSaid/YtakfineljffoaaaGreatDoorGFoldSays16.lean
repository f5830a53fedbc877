/-
  THE REFERENCE's WORDS: less, minus, up, size. No condition beside the readings.
-/
import Derived.Test.YtakfineljffoaaaGreatDoorGFoldSays14
import Derived.Deep.OwnRows
namespace Go.Proofs.YtakfineljffoaaaGreatDoor
open Go.RowKit Go.Lib

set_option maxRecDepth 100000 in
set_option maxHeartbeats 2000000 in
theorem less_any {n : Nat} (b c : BitVec n) (h0 : 0 < n) (hn : n ≤ 100) (w : World) (v u : Value) (hv : Bools w v (bl b)) (hu : Bools w u (bl c)) :
    Calls Tryz.prog 142 #[v, u] w fun e w' => e = .returned (.bool (b.ult c)) ∧ Below w.heap.size w w' := by
  obtain ⟨g, off, cap, rfl, hcap, hm, hg, HC⟩ := bools_open2 b h0 hv
  obtain ⟨g2, off2, cap2, rfl, hcap2, hm2, hg2, HC2⟩ := bools_open2 c h0 hu
  clear hv hu
  have hz := hid (show b.toNat / 2 ^ n = c.toNat / 2 ^ n from by rw [Nat.div_eq_of_lt b.isLt, Nat.div_eq_of_lt c.isLt])
  go_enter Tryz.func142, Tryz.ntmps142
  go_wp2_with fail
  go_loopw [5] (fun i wr => ∃ k : Nat, k ≤ n ∧ i = .int .i64 ((k : Int) - 1) ∧ Hid (b.toNat / 2 ^ k = c.toNat / 2 ^ k) ∧ Hid (Below w.heap.size w wr)) (fun i _ => (RowKit.intOf i + 1).toNat)
  case atStart => exact ⟨n, Nat.le_refl _, rfl, hz, hid (Below.refl _ _)⟩
  case round =>
    obtain ⟨k, hk, rfl, hq, HB⟩ := hrel
    cases k with
    | zero =>
      have hu := hid (show b.ult c = false from by
        have h1 := hq.out
        rw [Nat.pow_zero, Nat.div_one, Nat.div_one] at h1
        unfold BitVec.ult
        simp [h1])
      go_wp2_with fail
      go_ret
      exact ⟨retB (by rw [hu.out]), HB.out⟩
    | succ j =>
      have d1 : wr.drew.cell? ⟨g, off + j, none⟩ = some (.bool (b.getLsbD j)) := HC.out j (by omega) wr HB.out
      have d2 : wr.drew.cell? ⟨g2, off2 + j, none⟩ = some (.bool (c.getLsbD j)) := HC2.out j (by omega) wr HB.out
      have d3 : wr.cell? ⟨g2, off2 + j, none⟩ = some (.bool (c.getLsbD j)) := HC2.out j (by omega) wr HB.out
      have d4 : wr.cell? ⟨g, off + j, none⟩ = some (.bool (b.getLsbD j)) := HC.out j (by omega) wr HB.out
      have hj : ((j + 1 : Nat) : Int) - 1 = (j : Int) := by omega
      have hjn : (j : Int) < (n : Int) := by omega
      have hj0 : (0 : Int) ≤ (j : Int) := by omega
      rw [hj]
      by_cases he : b.getLsbD j = c.getLsbD j
      · have hs := hid (div_same b c j hq.out he)
        rw [he] at d1 d4
        have hne : (c.getLsbD j != c.getLsbD j) = false := by simp
        generalize c.getLsbD j = y at *
        clear hj
        go_wp2_with fail
        go_quiet (fail)
        go_wp2_with fail
        go_roundw
        case rel => exact ⟨j, by omega, rfl, hs, hid (drew_bel' (n := nq) HB.out)⟩
        case measure => simp [RowKit.intOf]
      · have hs := hid (less_at b c j hq.out he)
        have hne : (b.getLsbD j == c.getLsbD j) = false := by rw [beq_eq_false_iff_ne]; exact he
        generalize c.getLsbD j = y at *
        generalize b.getLsbD j = x at *
        clear hj he
        go_wp2_with fail
        go_quiet (fail)
        go_wp2_with fail
        go_ret
        exact ⟨retB (by rw [hs.out]), drew_bel' (n := nq) HB.out⟩
theorem bl_zero (n : Nat) : bl (0#n) = List.replicate n false := by
  symm
  apply bl_eq
  · simp
  · intro i hi
    simp
theorem made_false (n : Nat) : (madeCells #[Value.bool false] n).toList = (bl (0#n)).map Value.bool := by
  rw [toList_madeCells_one, bl_zero, List.map_replicate]
theorem made_bools (w : World) (n : Nat) (hn : n ≤ 9223372036854775807) : Bools (w.alloc (.cells (madeCells #[Value.bool false] n) 4)) (.slice (some ⟨w.heap.size, 0, none⟩) n n) (bl (0#n)) := by
  have h := Sl.made w 4 n ((bl (0#n)).map Value.bool) w.heap.size rfl hn
  have e : ((bl (0#n)).map Value.bool).toArray = madeCells #[Value.bool false] n := by rw [← made_false]
  rw [e] at h
  show Sl _ _ (bl (0#n)).length _
  rw [bl_length]
  exact h
set_option maxRecDepth 100000 in
set_option maxHeartbeats 2000000 in
theorem minus_any {n : Nat} (b : BitVec n) (h0 : 0 < n) (hn : n ≤ 100) (w : World) (v : Value) (hv : Bools w v (bl b)) :
    Calls Tryz.prog 148 #[v] w fun e w' => ∃ v', e = .returned v' ∧ OwnBW w' w.heap.size v' (bl (-b)) ∧ Below w.heap.size w w' := by
  have HN := hid (fun w' (h : Below w.heap.size w w') => not_any b h0 hn w' v (L1.below hv h))
  have D1 : Hid (Below w.heap.size w (w.alloc (.cells (madeCells #[Value.bool false] n) 4)).drew) := hid (drew_bel' (n := 1) ((Below.refl _ _).alloc (Nat.le_refl _) _))
  have MB : Hid (Bools (w.alloc (.cells (madeCells #[Value.bool false] n) 4)).drew (.slice (some ⟨w.heap.size, 0, none⟩) n n) (bl (0#n))) := hid (L1.below (made_bools w n (by omega)) (drew_bel' (n := 1) (Below.refl _ _)))
  have HA := hid (fun w' u z hu hz => add_any (~~~b) (0#n) true h0 hn w' u z hu hz)
  rw [minus_eq] at HA
  have hmk := fun wx : World => run_make_row' (P := Tryz.prog) 161 4 (.bool false) 1 Tryz.underlying161 (by kernel_rfl) rfl .i64 .i64 n (by omega) (by omega) wx
  obtain ⟨g, off, cap, rfl, hcap, hm, hg, HC⟩ := bools_open2 b h0 hv
  clear hv
  go_enter Tryz.func148, Tryz.ntmps148
  go_wp2_with fail
  have D0 : Hid (Below w.heap.size w w.drew) := hid (drew_bel' (n := 1) (Below.refl _ _))
  go_region_held3 (fun _ => True) (trivial) (first | (go_at_call 144; (with_reducible refine (HN.out _ D1.out).mono ?_); rintro r w1 ⟨v1, rfl, ho1, hb1⟩; have O1' := hid ho1; have B1 := hid (D1.out.trans (hb1.mono D1.out.size)); have MB1 := hid (L1.below MB.out hb1); clear ho1 hb1) | (go_at_call 144; (with_reducible refine (HN.out _ D0.out).mono ?_); rintro r w1 ⟨v1, rfl, ho1, hb1⟩; have O1' := hid ho1; have B1 := hid (D0.out.trans (hb1.mono D0.out.size)); have MB1 := hid (made_bools w1 n (by omega)); clear ho1 hb1) | (go_at_call 143; (with_reducible refine (HA.out _ _ _ (O1.l1 O1'.out) MB1.out).mono ?_); rintro r w2 ⟨v2, rfl, ho2, hb2⟩; have O2' := hid ho2; have B2 := hid hb2; clear ho2 hb2) | (go_at_call 143; (with_reducible refine (HA.out _ _ _ (L1.below (O1.l1 O1'.out) ((Below.refl _ _).alloc (Nat.le_refl _) _)) MB1.out).mono ?_); rintro r w2 ⟨v2, rfl, ho2, hb2⟩; have O2' := hid ho2; have B2 := hid ((((Below.refl _ _).alloc (Nat.le_refl _) _).trans (hb2.mono (by simp)))); clear ho2 hb2))
  all_goals
    go_wp2_with fail
    go_ret
    have hs : w.heap.size ≤ w1.heap.size := B1.out.size
    exact ⟨v2, rfl, own_mono O2'.out (by first | exact hs | (simp; omega)), B1.out.trans (B2.out.mono hs)⟩
end Go.Proofs.YtakfineljffoaaaGreatDoor
namespace Go.Proofs.YtakfineljffoaaaGreatDoor
open Go.RowKit Go.Lib

theorem made_own (w : World) (n base : Nat) (hn : n ≤ 9223372036854775807) (hb : base ≤ w.heap.size) : OwnBW (w.alloc (.cells (madeCells #[Value.bool false] n) 4)) base (.slice (some ⟨w.heap.size, 0, none⟩) n n) (bl (0#n)) := by
  refine ⟨by simp [bl_length], .inr ⟨w.heap.size, n, _, by rw [bl_length], hb, heap_alloc_new w _, by rw [bl_length]; exact Nat.le_refl _, by unfold maxLen; omega, by have h := congrArg List.length (made_false n); simpa [bl_length] using h, ?_⟩⟩
  rw [made_false]
  exact List.take_of_length_le (by simp [bl_length])
theorem bl_set {n : Nat} {b c : BitVec n} {j : Nat} {x : Bool} (h : ∀ i, i < n → c.getLsbD i = if i = j then x else b.getLsbD i) : (bl b).set j x = bl c := by
  apply bl_eq (by simp [bl_length])
  intro i hi
  have hi2 : i < n := by simpa [bl_length] using hi
  rw [h i hi2, List.getElem_set]
  by_cases e : i = j
  · simp [e]
  · have e2 : ¬ j = i := fun h => e h.symm
    rw [if_neg e2, if_neg e, bl_get]

set_option maxRecDepth 100000 in
set_option maxHeartbeats 2000000 in
theorem up_any {n : Nat} (b : BitVec n) (k : Nat) (h0 : 0 < n) (hn : n ≤ 100) (hk : k ≤ n) (w : World) (v : Value) (hv : Bools w v (bl b)) :
    Calls Tryz.prog 162 #[v, .int .i64 k] w fun e w' => ∃ v', e = .returned v' ∧ OwnBW w' w.heap.size v' (bl (b <<< k)) ∧ Below w.heap.size w w' := by
  have hmk := fun wx : World => run_make_row' (P := Tryz.prog) 161 4 (.bool false) 1 Tryz.underlying161 (by kernel_rfl) rfl .i64 .i64 k (by omega) (by omega) wx
  have hue := hid (up_eq b k hk)
  have hlk := bl_take_len b (n - k) (by omega)
  obtain ⟨g, off, cap, rfl, hcap, hm, hg, HC⟩ := bools_open2 b h0 hv
  have HT : Hid (∀ w', Below w.heap.size w w' → Bools w' (.slice (some ⟨g, off, none⟩) (n - k) cap) ((bl b).take (n - k))) := hid (fun w' hb => by
    have h1 := L1.below hv hb
    obtain ⟨ao, cap', e1, e2, e3, e4, e5⟩ := h1
    simp only [Value.slice.injEq, bl_length, true_and] at e1
    obtain ⟨rfl, rfl⟩ := e1
    rw [bl_length] at e2
    refine ⟨_, _, by rw [hlk], by rw [hlk]; omega, e3, e4, ?_⟩
    rcases e5 with e5 | ⟨b', off', e5, e6⟩
    · simp at e5
      have := bl_length b
      rw [e5] at this
      simp at this
      omega
    · refine .inr ⟨b', off', e5, fun j hj => ?_⟩
      rw [List.length_map, hlk] at hj
      rw [e6 j (by rw [List.length_map, bl_length]; omega)]
      simp)
  clear hv
  have hnk : IntKind.i64.wrap ((n : Int) - (k : Int)) = ((n - k : Nat) : Int) := by rw [IntKind.wrap_i64]; omega
  have hck2 : n ≤ cap + k := by omega
  go_enter Tryz.func162, Tryz.ntmps162
  go_wp2_with fail
  go_region_law (first | (refine step_any elem_word (by rfl) _ _ (by rfl) (by rfl) (by rfl) (made_own _ k w.heap.size (by omega) (by simp)) (HT.out _ (drew_bel' (n := 1) ((Below.refl _ _).alloc (Nat.le_refl _) _))) (by simp) (map_oneCell one_bool _) (by rw [hlk, bl_length]; omega) (by rw [hlk, bl_length]; omega) (by simp) ?_; intro v' w1 ho hb hg; have HO := hid ho; have HB := hid hb; clear ho hb hg))
  all_goals
    go_wp2_with fail
    go_ret
    have h := HO.out
    rw [← List.map_append, ← List.length_append, bl_zero, hue.out] at h
    exact ⟨v', rfl, h, (drew_bel' (n := 1) ((Below.refl _ _).alloc (Nat.le_refl _) _)).trans HB.out⟩

set_option maxRecDepth 100000 in
set_option maxHeartbeats 2000000 in
theorem size_any {n : Nat} (b : BitVec n) (h0 : 0 < n) (hn : n ≤ 100) (w : World) (v : Value) (hv : Bools w v (bl b)) :
    Calls Tryz.prog 146 #[v] w fun e w' => ∃ v', e = .returned v' ∧ Bools w' v' (bl (if b.getLsbD (n - 1) = true then -b else b)) ∧ Below w.heap.size w w' := by
  have HM := hid (fun w' (h : Below w.heap.size w w') => minus_any b h0 hn w' v (L1.below hv h))
  have HV := hid hv
  obtain ⟨g, off, cap, rfl, hcap, hm, hg, HC⟩ := bools_open2 b h0 hv
  clear hv
  have hcl := HC.out (n - 1) (by omega) w (Below.refl _ _)
  have hi0 : IntKind.i64.wrap ((n : Int) - 1) = ((n - 1 : Nat) : Int) := by rw [IntKind.wrap_i64]; omega
  have hi1 : wrap64 ((n : Int) - 1) = ((n - 1 : Nat) : Int) := by unfold wrap64; omega
  cases hb : b.getLsbD (n - 1) with
  | true =>
    rw [hb] at hcl
    clear hb
    go_enter Tryz.func146, Tryz.ntmps146
    go_wp2_with (go_at_call 148; refine (HM.out _ (Below.refl _ _)).mono ?_; rintro r w1 ⟨v1, rfl, ho1, hb1⟩; have O1' := hid ho1; have B1 := hid hb1; clear ho1 hb1)
    go_ret
    exact ⟨v1, rfl, O1.l1 O1'.out, B1.out⟩
  | false =>
    rw [hb] at hcl
    clear hb
    go_enter Tryz.func146, Tryz.ntmps146
    go_wp2_with fail
    go_ret
    exact ⟨_, rfl, HV.out, Below.refl _ _⟩
end Go.Proofs.YtakfineljffoaaaGreatDoor
namespace Go.Proofs.YtakfineljffoaaaGreatDoor
open Go.RowKit

def bitN (x : Bool) : Nat := if x = true then 1 else 0
theorem bitN_le (x : Bool) : bitN x ≤ 1 := by cases x <;> simp [bitN]
def rK {n : Nat} (b c : BitVec n) (k : Nat) : BitVec (n + 1) := BitVec.ofNat (n + 1) (b.toNat / 2 ^ k % c.toNat)
def qK {n : Nat} (b c : BitVec n) (k : Nat) : BitVec n := BitVec.ofNat n (b.toNat / 2 ^ k / c.toNat * 2 ^ k)
def rS {n : Nat} (b c : BitVec n) (j : Nat) : BitVec (n + 1) := BitVec.ofNat (n + 1) (2 * (b.toNat / 2 ^ (j + 1) % c.toNat) + bitN (b.getLsbD j))
def wideK {n : Nat} (c : BitVec n) : BitVec (n + 1) := c.setWidth (n + 1)

theorem wide_bl {n : Nat} (c : BitVec n) : bl c ++ [false] = bl (wideK c) := by
  apply bl_eq
  · simp [bl_length]
  · intro i hi
    simp [bl_length] at hi
    unfold wideK
    rw [BitVec.getLsbD_setWidth]
    by_cases h : i < n
    · rw [List.getElem_append_left (by simpa [bl_length] using h), bl_get]
      simp; omega
    · obtain rfl : i = n := by omega
      rw [List.getElem_append_right (by simp [bl_length])]
      simp [bl_length]
theorem wide_toNat {n : Nat} (c : BitVec n) : (wideK c).toNat = c.toNat := by
  unfold wideK
  rw [BitVec.toNat_setWidth]
  have h1 := c.isLt
  exact Nat.mod_eq_of_lt (by rw [Nat.pow_succ]; omega)
theorem c_pos {n : Nat} {c : BitVec n} (h : c ≠ 0#n) : 0 < c.toNat := by
  rcases Nat.eq_zero_or_pos c.toNat with h0 | h0
  · exact absurd (BitVec.eq_of_toNat_eq (by simpa using h0)) h
  · exact h0
theorem rK_toNat {n : Nat} (b c : BitVec n) (k : Nat) (hc : 0 < c.toNat) : (rK b c k).toNat = b.toNat / 2 ^ k % c.toNat := by
  unfold rK
  rw [BitVec.toNat_ofNat]
  have h1 := c.isLt
  have h2 := Nat.mod_lt (b.toNat / 2 ^ k) hc
  have h4 : 2 ^ (n + 1) = 2 * 2 ^ n := by rw [Nat.pow_succ, Nat.mul_comm]
  exact Nat.mod_eq_of_lt (by omega)
theorem rS_toNat {n : Nat} (b c : BitVec n) (j : Nat) (hc : 0 < c.toNat) : (rS b c j).toNat = 2 * (b.toNat / 2 ^ (j + 1) % c.toNat) + bitN (b.getLsbD j) := by
  unfold rS
  rw [BitVec.toNat_ofNat]
  have h1 := c.isLt
  have h2 := Nat.mod_lt (b.toNat / 2 ^ (j + 1)) hc
  have h3 := bitN_le (b.getLsbD j)
  have h4 : 2 ^ (n + 1) = 2 * 2 ^ n := by rw [Nat.pow_succ, Nat.mul_comm]
  exact Nat.mod_eq_of_lt (by omega)
theorem qK_toNat {n : Nat} (b c : BitVec n) (k : Nat) (_ : 0 < c.toNat) : (qK b c k).toNat = b.toNat / 2 ^ k / c.toNat * 2 ^ k := by
  unfold qK
  rw [BitVec.toNat_ofNat]
  have h1 := b.isLt
  have h2 := Nat.div_le_self (b.toNat / 2 ^ k) c.toNat
  have h3 : b.toNat / 2 ^ k / c.toNat * 2 ^ k ≤ b.toNat / 2 ^ k * 2 ^ k := Nat.mul_le_mul_right _ h2
  have h4 := Nat.div_mul_le_self b.toNat (2 ^ k)
  exact Nat.mod_eq_of_lt (by omega)
theorem rK_start {n : Nat} (b c : BitVec n) : rK b c n = 0#(n + 1) := by
  unfold rK
  rw [Nat.div_eq_of_lt b.isLt, Nat.zero_mod]
theorem qK_start {n : Nat} (b c : BitVec n) : qK b c n = 0#n := by
  unfold qK
  rw [Nat.div_eq_of_lt b.isLt, Nat.zero_div, Nat.zero_mul]
theorem qK_end {n : Nat} (b c : BitVec n) (hc : 0 < c.toNat) : qK b c 0 = b / c := by
  apply BitVec.eq_of_toNat_eq
  rw [qK_toNat b c 0 hc, BitVec.toNat_udiv]
  simp
theorem rK_end {n : Nat} (b c : BitVec n) (hc : 0 < c.toNat) : (bl (rK b c 0)).take n = bl (b % c) := by
  apply bl_eq
  · rw [List.length_take, bl_length]; omega
  · intro i hi
    rw [List.length_take, bl_length] at hi
    rw [List.getElem_take, bl_get, ← BitVec.testBit_toNat, ← BitVec.testBit_toNat, rK_toNat b c 0 hc, BitVec.toNat_umod]
    simp
theorem rS_set {n : Nat} (b c : BitVec n) (j : Nat) (hc : 0 < c.toNat) : (bl (rK b c (j + 1) <<< 1)).set 0 (b.getLsbD j) = bl (rS b c j) := by
  apply bl_set
  intro i hi
  rw [BitVec.getLsbD_shiftLeft, ← BitVec.testBit_toNat (x := rS b c j), rS_toNat b c j hc, ← BitVec.testBit_toNat (x := rK b c (j + 1)), rK_toNat b c _ hc]
  generalize b.toNat / 2 ^ (j + 1) % c.toNat = r
  cases i with
  | zero => cases b.getLsbD j <;> simp [Nat.testBit_eq_decide_div_mod_eq, bitN] <;> omega
  | succ i =>
    rw [if_neg (by omega), Nat.testBit_succ]
    have h3 := bitN_le (b.getLsbD j)
    have e : (2 * r + bitN (b.getLsbD j)) / 2 = r := by omega
    rw [e]
    have h1 : ¬ i + 1 < 1 := by omega
    simp [hi]
theorem rS_less {n : Nat} (b c : BitVec n) (j : Nat) (hc : 0 < c.toNat) : (rS b c j).ult (wideK c) = decide (2 * (b.toNat / 2 ^ (j + 1) % c.toNat) + bitN (b.getLsbD j) < c.toNat) := by
  unfold BitVec.ult
  rw [rS_toNat b c j hc, wide_toNat]
theorem hand_at {n : Nat} (b c : BitVec n) (j : Nat) (hc : 0 < c.toNat) :
    (b.toNat / 2 ^ j % c.toNat = if c.toNat ≤ 2 * (b.toNat / 2 ^ (j + 1) % c.toNat) + bitN (b.getLsbD j) then 2 * (b.toNat / 2 ^ (j + 1) % c.toNat) + bitN (b.getLsbD j) - c.toNat else 2 * (b.toNat / 2 ^ (j + 1) % c.toNat) + bitN (b.getLsbD j)) ∧
    (b.toNat / 2 ^ j / c.toNat = if c.toNat ≤ 2 * (b.toNat / 2 ^ (j + 1) % c.toNat) + bitN (b.getLsbD j) then 2 * (b.toNat / 2 ^ (j + 1) / c.toNat) + 1 else 2 * (b.toNat / 2 ^ (j + 1) / c.toNat)) := by
  have h := div_hand (b.toNat / 2 ^ (j + 1)) c.toNat (bitN (b.getLsbD j)) hc (bitN_le _)
  have hs := div_stepW b.toNat j
  rw [BitVec.testBit_toNat] at hs
  rw [hs]
  exact h
theorem step_less {n : Nat} (b c : BitVec n) (j : Nat) (hc : 0 < c.toNat) (h : (rS b c j).ult (wideK c) = true) : rS b c j = rK b c j ∧ qK b c (j + 1) = qK b c j := by
  rw [rS_less b c j hc, decide_eq_true_iff] at h
  have hh := hand_at b c j hc
  rw [if_neg (by omega), if_neg (by omega)] at hh
  constructor
  · apply BitVec.eq_of_toNat_eq
    rw [rS_toNat b c j hc, rK_toNat b c j hc, hh.1]
  · apply BitVec.eq_of_toNat_eq
    rw [qK_toNat b c _ hc, qK_toNat b c _ hc, hh.2]
    generalize b.toNat / 2 ^ (j + 1) / c.toNat = q
    rw [Nat.pow_succ, Nat.mul_comm 2 q, Nat.mul_assoc, Nat.mul_comm 2 (2 ^ j)]
theorem step_more {n : Nat} (b c : BitVec n) (j : Nat) (hc : 0 < c.toNat) (h : (rS b c j).ult (wideK c) = false) : rS b c j - wideK c = rK b c j ∧ (bl (qK b c (j + 1))).set j true = bl (qK b c j) := by
  rw [rS_less b c j hc, decide_eq_false_iff_not] at h
  have hh := hand_at b c j hc
  rw [if_pos (by omega), if_pos (by omega)] at hh
  constructor
  · apply BitVec.eq_of_toNat_eq
    have hle : wideK c ≤ rS b c j := by rw [BitVec.le_def, rS_toNat b c j hc, wide_toNat]; omega
    rw [BitVec.toNat_sub_of_le hle, rS_toNat b c j hc, wide_toNat, rK_toNat b c j hc, hh.1]
  · apply bl_set
    intro i hi
    rw [← BitVec.testBit_toNat (x := qK b c j), ← BitVec.testBit_toNat (x := qK b c (j + 1)), qK_toNat b c _ hc, qK_toNat b c _ hc, hh.2]
    generalize b.toNat / 2 ^ (j + 1) / c.toNat = q
    rw [Nat.testBit_mul_two_pow, Nat.testBit_mul_two_pow]
    by_cases e : i = j
    · subst e
      simp [Nat.testBit_eq_decide_div_mod_eq]
    · rw [if_neg e]
      by_cases hlt : i < j
      · have h1 : ¬ j ≤ i := by omega
        have h2 : ¬ j + 1 ≤ i := by omega
        simp [h1, h2]
      · have h1 : j ≤ i := by omega
        have h2 : j + 1 ≤ i := by omega
        obtain ⟨d, rfl⟩ : ∃ d, i = j + 1 + d := ⟨i - (j + 1), by omega⟩
        rw [show j + 1 + d - j = d + 1 by omega, show j + 1 + d - (j + 1) = d by omega, Nat.testBit_succ]
        have e2 : (2 * q + 1) / 2 = q := by omega
        rw [e2]
        simp [h1]
end Go.Proofs.YtakfineljffoaaaGreatDoor
namespace Go.Proofs.YtakfineljffoaaaGreatDoor
open Go.RowKit Go.Lib

theorem elem_bools : Elem Tryz.prog 160 4 (.bool false) 1 1 := ⟨Tryz.underlying160, by kernel_rfl, rfl, by decide⟩
set_option maxRecDepth 100000 in
theorem copy_bools (v : Value) (xs : List Bool) (w : World) (hv : Bools w v xs) (hl : xs.length ≤ 140737488355328) :
    Calls Tryz.prog 141 #[v] w fun e w' => ∃ v', e = .returned v' ∧ OwnBW w' w.heap.size v' xs ∧ Below w.heap.size w w' := by
  have HV := hid hv
  clear hv
  go_enter Tryz.func141, Tryz.ntmps141
  go_wp2_with (at_builtin; go_must (refine app_l1 one_bool elem_bools (base := w.heap.size) rfl _ _ rfl rfl rfl (O1.nil _ _ _ _) HV.out (by simp; omega) (by simp; omega) (Nat.le_refl _) ?_); intro v' w' ho hb2 _)
  go_ret
  exact ⟨_, rfl, by simpa using ho, hb2⟩

set_option maxRecDepth 100000 in
set_option maxHeartbeats 2000000 in
theorem times_any {n : Nat} (b c : BitVec n) (h0 : 0 < n) (hn : n ≤ 100) (w : World) (v u : Value) (hv : Bools w v (bl b)) (hu : Bools w u (bl c)) :
    Calls Tryz.prog 145 #[v, u] w fun e w' => ∃ v', e = .returned v' ∧ OwnBW w' w.heap.size v' (bl (b * c)) ∧ Below w.heap.size w w' := by
  have hmk := fun wx : World => run_make_row' (P := Tryz.prog) 161 4 (.bool false) 1 Tryz.underlying161 (by kernel_rfl) rfl .i64 .i64 n (by omega) (by omega) wx
  have HV := hid hv
  obtain ⟨g, off, cap, rfl, hcap, hm, hg, HC⟩ := bools_open2 b h0 hv
  obtain ⟨g2, off2, cap2, rfl, hcap2, hm2, hg2, HC2⟩ := bools_open2 c h0 hu
  clear hv hu
  go_enter Tryz.func145, Tryz.ntmps145
  go_wp2_with fail
  have M0 := hid (made_own w n w.heap.size (by omega) (Nat.le_refl _))
  go_loopw [13, 5] (fun i v wr => ∃ (k : Nat) (vv : Value), k ≤ n ∧ i = .int .i64 k ∧ v = vv ∧ Hid (OwnBW wr w.heap.size vv (bl (mulK b c k))) ∧ Hid (Below w.heap.size w wr)) (fun i _ _ => n - (RowKit.intOf i).toNat)
  case atStart => exact ⟨0, _, Nat.zero_le _, rfl, rfl, by rw [mulK_zero]; exact M0, hid ((Below.refl _ _).alloc (Nat.le_refl _) _)⟩
  case round =>
    obtain ⟨k, vv, hk, rfl, hvv, hown, HB⟩ := hrel
    have hvv2 := hvv.symm
    subst hvv2
    clear hvv
    by_cases hlt : k < n
    · have hck := HC2.out k hlt wr HB.out
      cases hb : c.getLsbD k with
      | true =>
        rw [hb] at hck
        have HM := hid (mulK_yes b c k hb)
        have HU := hid (up_any b k h0 hn hk wr _ (L1.below HV.out HB.out))
        have HA := hid (fun w' x (h : Below wr.heap.size wr w') hx => add_any (mulK b c k) (b <<< k) false h0 hn w' vv x (L1.below (O1.l1 hown.out) h) hx)
        rw [sum_eq] at HA
        clear hb
        go_wp2_with (first | (go_at_call 162; refine HU.out.mono ?_; rintro r w1 ⟨v1, rfl, ho1, hb1⟩; have O1' := hid ho1; have B1 := hid hb1; clear ho1 hb1) | (go_at_call 143; refine (HA.out _ _ B1.out (O1.l1 O1'.out)).mono ?_; rintro r w2 ⟨v2, rfl, ho2, hb2⟩; have O2' := hid ho2; have B2 := hid (B1.out.trans (hb2.mono B1.out.size)); clear ho2 hb2))
        go_roundw
        case rel => exact ⟨k + 1, v2, by omega, by go_num, rfl, by rw [HM.out]; exact hid (own_mono O2'.out (Nat.le_trans HB.out.size B1.out.size)), hid (HB.out.trans (B2.out.mono HB.out.size))⟩
        case measure => simp [RowKit.intOf]; omega
      | false =>
        rw [hb] at hck
        have HM := hid (mulK_no b c k hb)
        clear hb
        go_wp2_with fail
        go_roundw
        case rel => exact ⟨k + 1, vv, by omega, by go_num, rfl, by rw [HM.out]; exact hown, HB⟩
        case measure => simp [RowKit.intOf]; omega
    · obtain rfl : k = n := by omega
      rw [mulK_full] at hown
      go_wp2_with fail
      go_ret
      exact ⟨vv, rfl, hown.out, HB.out⟩
end Go.Proofs.YtakfineljffoaaaGreatDoor
namespace Go.Proofs.YtakfineljffoaaaGreatDoor
open Go.RowKit Go.Lib

theorem own_open {n : Nat} (b : BitVec n) (h0 : 0 < n) {w : World} {base : Nat} {v : Value} (hv : OwnBW w base v (bl b)) : ∃ g cap, v = .slice (some ⟨g, 0, none⟩) n cap ∧ base ≤ g ∧ g < w.heap.size ∧ (∀ j (_ : j < n), w.cell? ⟨g, j, none⟩ = some (.bool (b.getLsbD j))) ∧ (∀ j, w.frozen? ⟨g, j, none⟩ = false) := by
  have hv0 : w.ownsRow base 4 1 v (bl b).length ((bl b).map Value.bool) := hv
  rcases hv.2 with ⟨_, hx⟩ | ⟨g, cap, cur, rfl, hbg, hh, hn, hc, hs, htk⟩
  · rw [bl_length] at hx
    omega
  · refine ⟨g, cap, by rw [bl_length], hbg, lt_of_block hh, fun j hj => ?_, fun j => by simp [World.frozen?, hh]⟩
    have h1 := hv0.cells (g := g) rfl j (.bool (b.getLsbD j)) (by
      rw [List.getElem?_map, List.getElem?_eq_getElem (by rw [bl_length]; exact hj), bl_get]; rfl)
    have e : (⟨g, 0, none⟩ : Addr).add j = ⟨g, j, none⟩ := by unfold Addr.add; split <;> simp_all
    rw [e] at h1
    exact h1
theorem own_atW {n : Nat} {b : BitVec n} (h0 : 0 < n) {w : World} {base g m cap : Nat} (hv : OwnBW w base (.slice (some ⟨g, 0, none⟩) m cap) (bl b)) : (∀ j (_ : j < n), w.cell? ⟨g, j, none⟩ = some (.bool (b.getLsbD j))) ∧ (∀ j, w.frozen? ⟨g, j, none⟩ = false) ∧ n ≤ cap := by
  have hs := own_sl (show w.ownsRow base 4 1 (.slice (some ⟨g, 0, none⟩) m cap) (bl b).length ((bl b).map Value.bool) from hv)
  obtain ⟨g', cap', e, _, _, h3, h4⟩ := own_open b h0 hv
  obtain ⟨ao, cap2, e2, h5, _⟩ := hs
  simp only [Value.slice.injEq, Option.some.injEq, Addr.mk.injEq, and_true] at e e2
  obtain ⟨rfl, rfl, rfl⟩ := e
  obtain ⟨rfl, _, rfl⟩ := e2
  exact ⟨h3, h4, by rw [bl_length] at h5; exact h5⟩
theorem own_take {w : World} {base g cap k : Nat} {xs : List Bool} (h : OwnBW w base (.slice (some ⟨g, 0, none⟩) xs.length cap) xs) (hk : k ≤ xs.length) : Bools w (.slice (some ⟨g, 0, none⟩) k cap) (xs.take k) := by
  have h0 : w.ownsRow base 4 1 (.slice (some ⟨g, 0, none⟩) xs.length cap) xs.length (xs.map Value.bool) := h
  have h1 := own_sl (own_prefix h0 k hk)
  rw [Nat.mul_one, ← List.map_take] at h1
  show Sl w _ (xs.take k).length _
  rw [List.length_take, Nat.min_eq_left hk]
  exact h1
theorem own_other {w : World} {base g b2 n2 cap2 : Nat} {xs : List Bool} (h : OwnBW w base (.slice (some ⟨g, 0, none⟩) n2 cap2) xs) (hne : b2 ≠ g) (j : Nat) (v : Value) : OwnBW (w.setCell ⟨b2, j, none⟩ v) base (.slice (some ⟨g, 0, none⟩) n2 cap2) xs :=
  own_touch h (Touch.setCell (F := fun k => k = b2) rfl v) (fun k hk => by
    simp only [Value.ownBlock, Option.some.injEq] at hk
    omega)

theorem two_made (w : World) (n m base : Nat) (hn : n ≤ 9223372036854775807) (hm : m ≤ 9223372036854775807) (hb : base ≤ w.heap.size) :
    OwnBW ((w.alloc (.cells (madeCells #[Value.bool false] n) 4)).alloc (.cells (madeCells #[Value.bool false] m) 4)).drew base (.slice (some ⟨w.heap.size, 0, none⟩) n n) (bl (0#n)) ∧
    OwnBW ((w.alloc (.cells (madeCells #[Value.bool false] n) 4)).alloc (.cells (madeCells #[Value.bool false] m) 4)).drew base (.slice (some ⟨w.heap.size + 1, 0, none⟩) m m) (bl (0#m)) ∧
    Below w.heap.size w ((w.alloc (.cells (madeCells #[Value.bool false] n) 4)).alloc (.cells (madeCells #[Value.bool false] m) 4)).drew := by
  have h1 := made_own w n base hn hb
  have h2 := made_own (w.alloc (.cells (madeCells #[Value.bool false] n) 4)) m base hm (by simp; omega)
  have e : (w.alloc (.cells (madeCells #[Value.bool false] n) 4)).heap.size = w.heap.size + 1 := by simp
  rw [e] at h2
  refine ⟨O1.below h1 (drew_bel' (n := 1) ((Below.refl _ _).alloc (Nat.le_refl _) _)), h2, drew_bel' (n := 1) (((Below.refl _ _).alloc (Nat.le_refl _) _).alloc (by simp) _)⟩

set_option maxRecDepth 100000 in
set_option maxHeartbeats 4000000 in
theorem split_any {n : Nat} (b c : BitVec n) (h0 : 0 < n) (hn : n ≤ 90) (hc : c ≠ 0#n) (w : World) (v u : Value) (hv : Bools w v (bl b)) (hu : Bools w u (bl c)) :
    Calls Tryz.prog 147 #[v, u] w fun e w' => ∃ q r, e = .returned (.tuple #[q, r]) ∧ OwnBW w' w.heap.size q (bl (b / c)) ∧ Bools w' r (bl (b % c)) ∧ Below w.heap.size w w' := by
  have hcp := c_pos hc
  clear hc
  have HCP := hid hcp
  clear hcp
  have hmk := fun wx : World => run_make_row' (P := Tryz.prog) 161 4 (.bool false) 1 Tryz.underlying161 (by kernel_rfl) rfl .i64 .i64 n (by omega) (by omega) wx
  have hmk1 := fun wx : World => run_make_row' (P := Tryz.prog) 161 4 (.bool false) 1 Tryz.underlying161 (by kernel_rfl) rfl .i64 .i64 (n + 1) (by omega) (by omega) wx
  rw [Int.natCast_add, Int.natCast_one] at hmk1
  have HV := hid hv
  have HU := hid hu
  obtain ⟨g, off, cap, rfl, hcap, hm, hg, HC⟩ := bools_open2 b h0 hv
  have HCO := hid (copy_bools u (bl c) w hu (by rw [bl_length]; omega))
  clear hv hu
  have hsub : IntKind.i64.wrap ((n : Int) - 1) = ((n : Int) - 1) := by rw [IntKind.wrap_i64]; omega
  have hadd : IntKind.i64.wrap ((n : Int) + 1) = (n : Int) + 1 := by rw [IntKind.wrap_i64]; omega
  have hbl := bl_length c
  go_enter Tryz.func147, Tryz.ntmps147
  go_wp2_with (first | (go_at_call 141; refine HCO.out.mono ?_; rintro r w1 ⟨v1, rfl, ho1, hb1⟩; have O1' := hid ho1; have B1 := hid hb1; clear ho1 hb1) | (at_builtin; go_loud (refine app_o1 one_bool elem_bools (y := false) rfl _ _ rfl rfl rfl rfl O1'.out (by omega) (by omega) B1.out.size ?_); intro v' w2 ho' hb' hg'; have HO := hid ho'; have B2 := hid (B1.out.trans hb'); clear ho' hb' hg'))
  clear hbl HCO
  have HW : Hid (Bools w2 v' (bl (wideK c))) := hid (by have h := HO.out; rw [wide_bl] at h; exact h.l1)
  clear HO O1' HU
  have h2n : w.heap.size ≤ w2.heap.size := B2.out.size
  have T1 := hid (two_made w2 n (n + 1) w.heap.size (by omega) (by omega) h2n)
  have T2 := hid (two_made w2 (n + 1) n w.heap.size (by omega) (by omega) h2n)
  have eq := hid (qK_start b c)
  have er := hid (rK_start b c)
  go_cut [7, 8] (fun s7 s8 wx => ∃ gq gr, s7 = .slice (some ⟨gq, 0, none⟩) n n ∧ s8 = .slice (some ⟨gr, 0, none⟩) (n + 1) (n + 1) ∧ gq ≠ gr ∧ w2.heap.size ≤ gq ∧ OwnBW wx w.heap.size (.slice (some ⟨gq, 0, none⟩) n n) (bl (qK b c n)) ∧ OwnBW wx w.heap.size (.slice (some ⟨gr, 0, none⟩) (n + 1) (n + 1)) (bl (rK b c n)) ∧ Below w.heap.size w wx ∧ Below w2.heap.size w2 wx)
  case first =>
    go_region_law (fail)
    · go_wp2_with fail
      go_meet
      exact ⟨w2.heap.size, w2.heap.size + 1, rfl, rfl, by omega, by omega, by rw [eq.out]; exact T1.out.1, by rw [er.out]; exact T1.out.2.1, B2.out.trans (T1.out.2.2.mono h2n), T1.out.2.2⟩
    · go_wp2_with fail
      go_meet
      exact ⟨w2.heap.size + 1, w2.heap.size, rfl, rfl, by omega, by omega, by rw [eq.out]; exact T2.out.2.1, by rw [er.out]; exact T2.out.1, B2.out.trans (T2.out.2.2.mono h2n), T2.out.2.2⟩
  case rest =>
    obtain ⟨gq, gr, rfl, rfl, hne, hgq, hq, hr, hb, hb2⟩ := hcut
    have HQ0 := hid hq
    have HR0 := hid hr
    have HB0 := hid hb
    have HB20 := hid hb2
    clear hq hr hb hb2 T1 T2 eq er hmk hmk1 hadd
    go_wp2_with fail
    go_loopw [9, 8] (fun i r wr => ∃ (k gr' cap' : Nat), k ≤ n ∧ i = .int .i64 ((k : Int) - 1) ∧ r = .slice (some ⟨gr', 0, none⟩) (n + 1) cap' ∧ gq ≠ gr' ∧ Hid (OwnBW wr w.heap.size (.slice (some ⟨gq, 0, none⟩) n n) (bl (qK b c k))) ∧ Hid (OwnBW wr w.heap.size (.slice (some ⟨gr', 0, none⟩) (n + 1) cap') (bl (rK b c k))) ∧ Hid (Below w.heap.size w wr) ∧ Hid (Below w2.heap.size w2 wr)) (fun i _ _ => (RowKit.intOf i + 1).toNat)
    case atStart => exact ⟨n, gr, n + 1, Nat.le_refl _, rfl, rfl, hne, HQ0, HR0, HB0, HB20⟩
    case round =>
      clear HQ0 HR0 HB0 HB20 hne
      obtain ⟨k, gr', cap', hk, rfl, rfl, hne, HQ, HR, HB, HB2⟩ := hrel
      cases k with
      | zero =>
        have hcr : n ≤ cap' := by have := (own_atW (by omega) HR.out).2.2; omega
        have HRT : Hid (Bools wr (.slice (some ⟨gr', 0, none⟩) n cap') (bl (b % c))) := hid (by
          have h := HR.out
          have hl := bl_length (rK b c 0)
          rw [← rK_end b c HCP.out]
          exact own_take (by rw [hl]; exact h) (by rw [hl]; omega))
        have HQE := hid (qK_end b c HCP.out)
        go_wp2_with fail
        go_quiet (fail)
        go_wp2_with fail
        go_ret2
        refine ⟨.slice (some ⟨gq, 0, none⟩) n n, .slice (some ⟨gr', 0, none⟩) n cap', rfl, ?_, ?_, ?_⟩
        · rw [← HQE.out]
          exact HQ.out
        · exact HRT.out
        · exact drew_bel' (n := nq) HB.out
      | succ j =>
        have hj : ((j + 1 : Nat) : Int) - 1 = (j : Int) := by omega
        have hjn : (j : Int) < (n : Int) := by omega
        have hj0 : (0 : Int) ≤ (j : Int) := by omega
        rw [hj]
        have HUP := hid (up_any (rK b c (j + 1)) 1 (by omega) (by omega) (by omega) wr _ (O1.l1 HR.out))
        have hqlt : gq < wr.heap.size := (World.ownsRow.lt HQ.out gq rfl).2
        cases hu : (rS b c j).ult (wideK c) with
        | true =>
          have HSL := hid (step_less b c j HCP.out hu)
          go_wp2_with (first | (go_at_call 162; refine HUP.out.mono ?_; rintro r w3 ⟨v3, rfl, ho3, hb3⟩; obtain ⟨g3, cap3, rfl, hg3, hl3, hc3, hf3⟩ := own_open _ (by omega) ho3; have d3 := hc3 0 (by omega); have f3 := hf3 0; have bj := HC.out j (by omega) w3 (HB.out.trans (hb3.mono HB.out.size)); have S3 := hid (O1.stored ho3 0 (b.getLsbD j)).1; rw [rS_set b c j HCP.out] at S3; have N3 := hid (Below.setCell hb3 (p := ⟨g3, 0, none⟩) hg3 (.bool (b.getLsbD j))); have W3 := hid (L1.below HW.out (HB2.out.trans (N3.out.mono HB2.out.size))); have Q3 := hid (O1.below HQ.out N3.out); have L3 := hid (less_any (rS b c j) (wideK c) (by omega) (by omega) _ _ v' (O1.l1 S3.out) W3.out); rw [hu] at L3; clear ho3 hb3 hc3 hf3) | (go_at_call 142; refine L3.out.mono ?_; rintro r w4 ⟨rfl, hb4⟩; have B4 := hid hb4; clear hb4))
          go_roundw
          case rel =>
            have N4 := N3.out.trans (B4.out.mono N3.out.size)
            exact ⟨j, g3, cap3, by omega, by go_num, rfl, by omega, hid (by rw [← HSL.out.2]; exact O1.below Q3.out B4.out), hid (by rw [← HSL.out.1]; exact own_mono (O1.below S3.out B4.out) HB.out.size), hid (HB.out.trans (N4.mono HB.out.size)), hid (HB2.out.trans (N4.mono HB2.out.size))⟩
          case measure => simp [RowKit.intOf]
        | false =>
          have HSL := hid (step_more b c j HCP.out hu)
          have hqw := HB2.out.size
          go_wp2_with (first | (go_at_call 162; refine HUP.out.mono ?_; rintro r w3 ⟨v3, rfl, ho3, hb3⟩; obtain ⟨g3, cap3, rfl, hg3, hl3, hc3, hf3⟩ := own_open _ (by omega) ho3; have d3 := hc3 0 (by omega); have f3 := hf3 0; have bj := HC.out j (by omega) w3 (HB.out.trans (hb3.mono HB.out.size)); have S3 := hid (O1.stored ho3 0 (b.getLsbD j)).1; rw [rS_set b c j HCP.out] at S3; have N3 := hid (Below.setCell hb3 (p := ⟨g3, 0, none⟩) hg3 (.bool (b.getLsbD j))); have W3 := hid (L1.below HW.out (HB2.out.trans (N3.out.mono HB2.out.size))); have Q3 := hid (O1.below HQ.out N3.out); have L3 := hid (less_any (rS b c j) (wideK c) (by omega) (by omega) _ _ v' (O1.l1 S3.out) W3.out); rw [hu] at L3; have N4 := hid (fun w' h => not_any (wideK c) (by omega) (by omega) w' v' (L1.below W3.out h)); have A4 := hid (fun w' x h hx => add_any (rS b c j) (~~~(wideK c)) true (by omega) (by omega) w' _ x (L1.below (O1.l1 S3.out) h) hx); rw [sub_eq, HSL.out.1] at A4; clear ho3 hb3 hc3 hf3) | (go_at_call 142; refine L3.out.mono ?_; rintro r w4 ⟨rfl, hb4⟩; have B4 := hid hb4; clear hb4) | (go_at_call 144; refine (N4.out _ B4.out).mono ?_; rintro r w5 ⟨v5, rfl, ho5, hb5⟩; have O5 := hid ho5; have B5 := hid (B4.out.trans (hb5.mono B4.out.size)); clear ho5 hb5) | (go_at_call 143; refine (A4.out _ _ B5.out (O1.l1 O5.out)).mono ?_; rintro r w6 ⟨v6, rfl, ho6, hb6⟩; obtain ⟨g6, cap6, rfl, hg6, hl6, _, _⟩ := own_open _ (by omega) ho6; have B6 := hid (B5.out.trans (hb6.mono B5.out.size)); have Q6 := hid (O1.below Q3.out B6.out); have d6 := (own_atW h0 Q6.out).1 j (by omega); have f6 := (own_atW h0 Q6.out).2.1 j; have R6 := hid ho6; clear ho6 hb6))
          go_roundw
          case rel =>
            have hs5 : wr.heap.size ≤ w5.heap.size := Nat.le_trans N3.out.size B5.out.size
            have NB := N3.out.trans (B6.out.mono N3.out.size)
            refine ⟨j, g6, cap6, by omega, by go_num, rfl, by omega, hid ?_, hid (own_other (own_mono R6.out (Nat.le_trans HB.out.size hs5)) (by omega) _ _), hid (Below.setCell (HB.out.trans (NB.mono HB.out.size)) (by simp; omega) _), hid (Below.setCell (HB2.out.trans (NB.mono HB2.out.size)) (by simp; omega) _)⟩
            rw [← HSL.out.2]
            exact (O1.stored Q6.out j true).1
          case measure => simp [RowKit.intOf]
end Go.Proofs.YtakfineljffoaaaGreatDoor
