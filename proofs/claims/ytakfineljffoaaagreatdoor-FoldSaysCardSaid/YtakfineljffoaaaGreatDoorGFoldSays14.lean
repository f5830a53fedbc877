/-
  BITS AS LISTS, plain lemmas: a word is the list of the bits of a BitVec, the lowest first. No condition; no program.
-/
import Derived.Test.YtakfineljffoaaaGreatDoorGFoldSays2
import Derived.Laws.ShiftsVarLaws
import Derived.IntWalk
import Derived.Deep.RegionLaw
namespace Go.Proofs.YtakfineljffoaaaGreatDoor
open Go.RowKit

def bl {w : Nat} (b : BitVec w) : List Bool := (List.range w).map b.getLsbD
theorem bl_length {w : Nat} (b : BitVec w) : (bl b).length = w := by simp [bl]
theorem bl_get {w : Nat} (b : BitVec w) (i : Nat) (h : i < (bl b).length) : (bl b)[i] = b.getLsbD i := by simp [bl]
theorem bl_take {w : Nat} (b : BitVec w) (k : Nat) (h : k < w) : (bl b).take (k + 1) = (bl b).take k ++ [b.getLsbD k] := by
  rw [List.take_succ_eq_append_getElem (by rw [bl_length]; exact h), bl_get]
theorem bl_full {w : Nat} (b : BitVec w) : (bl b).take w = bl b := List.take_of_length_le (by rw [bl_length]; exact Nat.le_refl w)
theorem bl_take_len {w : Nat} (b : BitVec w) (k : Nat) (h : k ≤ w) : ((bl b).take k).length = k := by rw [List.length_take, bl_length]; omega
theorem bl_eq {w : Nat} {l : List Bool} {b : BitVec w} (hl : l.length = w) (h : ∀ i (hi : i < l.length), l[i] = b.getLsbD i) : l = bl b := by
  apply List.ext_getElem (by rw [bl_length, hl])
  intro i h1 h2
  rw [h i h1, bl_get]
theorem and_one (n : Int) : bits .and .i64 n 1 = n % 2 := by
  simp only [bits, BitVec.toNat_and]
  have e2 : (BitVec.ofInt (IntKind.i64.bits) (1 : Int)).toNat = 1 := by decide
  rw [e2, show (1 : Nat) = 2 ^ 1 - 1 by decide, Nat.and_two_pow_sub_one_eq_mod, BitVec.toNat_ofInt]
  have h : (((n % ((2 ^ IntKind.i64.bits : Nat) : Int)).toNat % 2 ^ 1 : Nat) : Int) = n % 2 := by
    show (((n % 18446744073709551616).toNat % 2 : Nat) : Int) = n % 2
    omega
  rw [h, IntKind.wrap_i64]
  omega
theorem div_bit (a : Int) (n k : Nat) (hk : k < n) : (a % (2 ^ n : Int)).toNat / 2 ^ k % 2 = (a / 2 ^ k % 2).toNat := by
  have hpk : (0 : Int) < 2 ^ k := Int.pow_pos (by decide)
  have hpn : (0 : Int) < 2 ^ n := Int.pow_pos (by decide)
  have e1 : (2 : Int) ^ n = 2 ^ k * (2 * 2 ^ (n - k - 1)) := by
    rw [← Int.mul_assoc, ← Int.pow_succ, ← Int.pow_add]
    congr 1
    omega
  have e2 : a / 2 ^ k = (a % 2 ^ n) / 2 ^ k + 2 * 2 ^ (n - k - 1) * (a / 2 ^ n) := by
    have h0 : a = a % 2 ^ n + 2 ^ k * (2 * 2 ^ (n - k - 1) * (a / 2 ^ n)) := by
      rw [← Int.mul_assoc, ← e1, Int.add_comm]
      exact (Int.mul_ediv_add_emod a (2 ^ n)).symm
    conv => lhs; rw [h0]
    rw [Int.add_mul_ediv_left _ _ (by omega)]
  have hr0 : 0 ≤ a % 2 ^ n := Int.emod_nonneg a (by omega)
  obtain ⟨r, hr⟩ := Int.eq_ofNat_of_zero_le hr0
  have e3 : ((r / 2 ^ k : Nat) : Int) = (a % 2 ^ n) / 2 ^ k := by rw [hr]; push_cast; rfl
  have e4 : a / 2 ^ k % 2 = ((r / 2 ^ k % 2 : Nat) : Int) := by
    rw [e2, ← e3, Int.mul_assoc]
    generalize 2 ^ (n - k - 1) * (a / 2 ^ n) = m
    omega
  rw [e4, hr]
  rfl
theorem word_bit (a : Int) (n k : Nat) (hk : k < n) : (bits .and .i64 (a / 2 ^ k) 1 == 1) = (BitVec.ofInt n a).getLsbD k := by
  rw [and_one, ← BitVec.testBit_toNat, Nat.testBit_eq_decide_div_mod_eq, BitVec.toNat_ofInt]
  have := div_bit a n k hk
  rw [show (((2 ^ n : Nat) : Int)) = (2 : Int) ^ n by push_cast; rfl, this]
  rw [Bool.eq_iff_iff, beq_iff_eq, decide_eq_true_iff]
  omega

theorem wrap_toInt (b : BitVec 64) : IntKind.i64.wrap (b.toNat : Int) = b.toInt := by
  rw [IntKind.wrap_i64, BitVec.toInt_eq_toNat_cond]
  have := b.isLt
  have e : (2 : Nat) ^ 64 = 18446744073709551616 := by decide
  rw [e] at *
  split <;> omega
theorem or_toInt (x y : BitVec 64) : bits .or .i64 x.toInt y.toInt = (x ||| y).toInt := by
  show IntKind.i64.wrap (((BitVec.ofInt 64 x.toInt ||| BitVec.ofInt 64 y.toInt).toNat : Nat) : Int) = _
  rw [BitVec.ofInt_toInt, BitVec.ofInt_toInt, wrap_toInt]
theorem shl_toInt (k : Nat) (hk : k < 64) : IntKind.i64.wrap (2 ^ k) = ((1#64) <<< k).toInt := by
  rw [← wrap_toInt]
  congr 1
  rw [BitVec.toNat_shiftLeft]
  have h1 : (1#64).toNat = 1 := rfl
  have h2 : 2 ^ k < 2 ^ 64 := Nat.pow_lt_pow_right (by decide) hk
  rw [h1, Nat.one_shiftLeft, Nat.mod_eq_of_lt h2]
  push_cast
  rfl
def lowK {w : Nat} (b : BitVec w) (k : Nat) : BitVec 64 := (b.setWidth k).setWidth 64
theorem lowK_zero {w : Nat} (b : BitVec w) : (lowK b 0).toInt = 0 := by
  have : lowK b 0 = 0#64 := by
    apply BitVec.eq_of_getLsbD_eq
    intro i hi
    simp [lowK]
  rw [this]; rfl
theorem lowK_yes {w : Nat} (b : BitVec w) (k : Nat) (_hw : w ≤ 64) (hk : k < w) (h : b.getLsbD k = true) : lowK b (k + 1) = lowK b k ||| ((1#64) <<< k) := by
  apply BitVec.eq_of_getLsbD_eq
  intro i hi
  simp only [lowK, BitVec.getLsbD_setWidth, BitVec.getLsbD_or, BitVec.getLsbD_shiftLeft, BitVec.getLsbD_one]
  by_cases h1 : i < k
  · simp [h1, hi]; omega
  · by_cases h2 : i = k
    · subst h2; simp [hi, h]
    · have h3 : ¬ i < k + 1 := by omega
      have h4 : ¬ i - k = 0 := by omega
      simp [h1, h3, h4]
theorem lowK_no {w : Nat} (b : BitVec w) (k : Nat) (h : b.getLsbD k = false) : lowK b (k + 1) = lowK b k := by
  apply BitVec.eq_of_getLsbD_eq
  intro i hi
  simp only [lowK, BitVec.getLsbD_setWidth]
  by_cases h1 : i < k
  · have : i < k + 1 := by omega
    simp [h1, hi, this]
  · by_cases h2 : i = k
    · subst h2; simp [hi, h]
    · have h3 : ¬ i < k + 1 := by omega
      simp [h1, h3]
theorem lowK_full64 (b : BitVec 64) : lowK b 64 = b := by
  apply BitVec.eq_of_getLsbD_eq
  intro i hi
  simp [lowK, hi]
theorem lowK_full {w : Nat} (b : BitVec w) (hw : w < 64) : (lowK b w).toInt = b.toNat := by
  have h1 : (lowK b w).toNat = b.toNat := by
    unfold lowK
    rw [BitVec.toNat_setWidth, BitVec.toNat_setWidth]
    have h2 := b.isLt
    have h3 : 2 ^ w < 2 ^ 64 := Nat.pow_lt_pow_right (by decide) hw
    rw [Nat.mod_eq_of_lt h2, Nat.mod_eq_of_lt (by omega)]
  have h2 := b.isLt
  have h3 : 2 ^ w ≤ 2 ^ 63 := Nat.pow_le_pow_right (by decide) (by omega)
  have e : (2 : Nat) ^ 64 = 2 * 2 ^ 63 := by decide
  rw [BitVec.toInt_eq_toNat_cond, h1, if_pos (by omega)]
end Go.Proofs.YtakfineljffoaaaGreatDoor
namespace Go.Proofs.YtakfineljffoaaaGreatDoor
open Go.RowKit Go.Lib

theorem one_bool : ∀ x : Bool, (Value.bool x).oneCell' = true := fun _ => rfl
theorem elem_word : Elem Tryz.prog 161 4 (.bool false) 1 1 := ⟨Tryz.underlying161, by kernel_rfl, rfl, by decide⟩
abbrev OwnBW (w : World) (base : Nat) (v : Value) (xs : List Bool) : Prop := O1 Value.bool w base 4 v xs
abbrev Bools (w : World) (v : Value) (xs : List Bool) : Prop := L1 Value.bool w v xs

set_option maxRecDepth 100000 in
set_option maxHeartbeats 1000000 in
theorem wordOf_any (a : Int) (n : Nat) (hn : n ≤ 64) (w : World) :
    Calls Tryz.prog 107 #[.int .i64 a, .int .i64 n] w fun e w' => ∃ v, e = .returned v ∧ OwnBW w' w.heap.size v (bl (BitVec.ofInt n a)) ∧ Below w.heap.size w w' := by
  go_enter Tryz.func107, Tryz.ntmps107
  go_wp2_with fail
  go_loopw [8, 5] (fun i v wr => ∃ (k : Nat) (vv : Value), k ≤ n ∧ i = .int .i64 k ∧ v = vv ∧ OwnBW wr w.heap.size vv ((bl (BitVec.ofInt n a)).take k) ∧ Hid (Below w.heap.size w wr) ∧ w.heap.size ≤ wr.heap.size) (fun i _ _ => n - (RowKit.intOf i).toNat)
  case atStart => exact ⟨0, _, Nat.zero_le _, rfl, rfl, O1.nil _ _ _ _, hid (Below.refl _ _), Nat.le_refl _⟩
  case round =>
    obtain ⟨k, vv, hk, rfl, hvv, hown, HB, hsz⟩ := hrel
    have hvv2 := hvv.symm
    subst hvv2
    clear hvv
    by_cases hlt : k < n
    · have hln := bl_take_len (BitVec.ofInt n a) k hk
      have hst := hid (bl_take (BitVec.ofInt n a) k hlt)
      have hbit := word_bit a n k hlt
      generalize (bl (BitVec.ofInt n a)).take k = L at *
      have hlen : L.length + 1 ≤ 100 := by omega
      have hk63 : k < 64 := by omega
      clear hln
      go_wp2_with (at_builtin; go_loud (refine app_o1 one_bool elem_word (y := (BitVec.ofInt n a).getLsbD k) rfl _ _ rfl rfl rfl rfl hown (by omega) (by omega) hsz ?_); intro v' w' ho' hb' hg'; have HO := hid ho'; have HB2 := hid (HB.out.trans hb'); have hsz2 := HB2.out.size; clear ho' hb' hg')
      go_roundw
      case rel => exact ⟨k + 1, v', by omega, by go_num, rfl, by rw [hst.out]; exact HO.out, HB2, hsz2⟩
      case measure => simp [RowKit.intOf]; omega
    · obtain rfl : k = n := by omega
      rw [bl_full] at hown
      go_wp2_with fail
      go_ret
      exact ⟨vv, rfl, hown, HB.out⟩
theorem bools_open {n : Nat} (b : BitVec n) (h0 : 0 < n) {w : World} {v : Value} (hv : Bools w v (bl b)) : ∃ g off cap, v = .slice (some ⟨g, off, none⟩) n cap ∧ n ≤ cap ∧ cap ≤ 9223372036854775807 ∧ Hid (∀ j (_ : j < n), w.cell? ⟨g, off + j, none⟩ = some (.bool (b.getLsbD j))) := by
  have hlen := bl_length b
  rcases hv.open with ⟨ao, cap, _, hx, _⟩ | ⟨g, off, cap, rfl, hl0, hcap, hm, hc⟩
  · rw [hx] at hlen; simp at hlen; omega
  · refine ⟨g, off, cap, by rw [hlen], by omega, hm, hid (fun j h => ?_)⟩
    rw [hc j (by omega), bl_get]
theorem or_stepW {w : Nat} (b : BitVec w) (k : Nat) (hw : w ≤ 64) (hk : k < w) (h : b.getLsbD k = true) : bits .or .i64 (lowK b k).toInt (wrap64 (2 ^ k)) = (lowK b (k + 1)).toInt := by
  rw [show wrap64 (2 ^ k) = IntKind.i64.wrap (2 ^ k) from by unfold wrap64; rw [IntKind.wrap_i64], shl_toInt k (by omega), or_toInt, lowK_yes b k hw hk h]
theorem value_end {w : Nat} (b : BitVec w) (hw : w < 64) : b.toInt = if b.getLsbD (w - 1) = true then (lowK b w).toInt - 2 ^ w else (lowK b w).toInt := by
  rw [lowK_full b hw, BitVec.toInt_eq_msb_cond, BitVec.msb_eq_getLsbD_last]
  rw [show (((2 ^ w : Nat) : Int)) = (2 : Int) ^ w by push_cast; rfl]
theorem low_bd {w : Nat} (b : BitVec w) (hw : w ≤ 62) : 0 ≤ (lowK b w).toInt ∧ (lowK b w).toInt < 2 ^ w ∧ (2 : Int) ^ w ≤ 4611686018427387904 := by
  rw [lowK_full b (by omega)]
  have h1 := b.isLt
  refine ⟨by omega, by exact_mod_cast h1, ?_⟩
  have h2 : 2 ^ w ≤ 2 ^ 62 := Nat.pow_le_pow_right (by decide) (by omega)
  rw [show (2 : Nat) ^ 62 = 4611686018427387904 from by decide] at h2
  rw [← show ((2 ^ w : Nat) : Int) = (2 : Int) ^ w by push_cast; rfl]
  omega

set_option maxRecDepth 100000 in
set_option maxHeartbeats 2000000 in
theorem value_any {n : Nat} (b : BitVec n) (h0 : 0 < n) (hnn : n ≤ 62 ∨ n = 64) (w : World) (v : Value) (hv : Bools w v (bl b)) :
    Calls Tryz.prog 111 #[v] w fun e w' => e = .returned (.int .i64 b.toInt) ∧ w = w' := by
  have hn : n ≤ 64 := by omega
  obtain ⟨g, off, cap, rfl, hcap, hm, HC⟩ := bools_open b h0 hv
  clear hv
  go_enter Tryz.func111, Tryz.ntmps111
  go_wp2_with fail
  go_loop [8, 3] (fun i r => ∃ k : Nat, k ≤ n ∧ i = .int .i64 k ∧ r = .int .i64 (lowK b k).toInt) (fun i _ => n - (RowKit.intOf i).toNat)
  case atStart => exact ⟨0, Nat.zero_le _, rfl, by rw [lowK_zero]⟩
  case round =>
    obtain ⟨k, hk, rfl, rfl⟩ := hrel
    by_cases hlt : k < n
    · have hck := HC.out k hlt
      have hk63 : k < 64 := by omega
      cases hb : b.getLsbD k with
      | true =>
        have hs := or_stepW b k hn hlt hb
        have HS := hid hs
        rw [hb] at hck
        clear hs hb
        go_wp2_with fail
        go_round
        case rel => exact ⟨k + 1, by omega, by go_num, by rw [← HS.out]⟩
        case measure => simp [RowKit.intOf]; omega
      | false =>
        have hs := hid (lowK_no b k hb)
        rw [hb] at hck
        clear hb
        go_wp2_with fail
        go_round
        case rel => exact ⟨k + 1, by omega, by go_num, by rw [hs.out]⟩
        case measure => simp [RowKit.intOf]; omega
    · obtain rfl : k = n := by omega
      have hcl := HC.out (k - 1) (by omega)
      have hk1 : off + (k - 1) = off + (k - 1) := rfl
      by_cases h64 : k = 64
      · subst h64
        have he := hid (lowK_full64 b)
        clear hcl
        go_wp2_with fail
        go_ret
        exact ⟨ret1 (by rw [he.out]), rfl⟩
      · have hk62 : k ≤ 62 := by omega
        have hk64 : k < 64 := by omega
        have he := value_end b hk64
        have hbd := low_bd b hk62
        have hp0 : (0 : Int) < 2 ^ k := Int.pow_pos (by decide)
        have hsub : ((k : Int) - 1) = ((k - 1 : Nat) : Int) := by omega
        have hwp : wrap64 (2 ^ k) = 2 ^ k := by unfold wrap64; omega
        have HE := hid he
        clear he
        cases hb : b.getLsbD (k - 1) with
        | true =>
          rw [hb] at hcl
          rw [hb, if_pos rfl] at HE
          go_wp2_with fail
          go_ret
          exact ⟨ret1 (by rw [HE.out]), rfl⟩
        | false =>
          rw [hb] at hcl
          rw [hb, if_neg (by decide)] at HE
          go_wp2_with fail
          go_ret
          exact ⟨ret1 (by rw [HE.out]), rfl⟩
end Go.Proofs.YtakfineljffoaaaGreatDoor
namespace Go.Proofs.YtakfineljffoaaaGreatDoor
open Go.RowKit Go.Lib

theorem div_stepW (x k : Nat) : x / 2 ^ k = 2 * (x / 2 ^ (k + 1)) + (if x.testBit k = true then 1 else 0) := by
  rw [Nat.testBit_eq_decide_div_mod_eq, Nat.pow_succ, ← Nat.div_div_eq_div_mul]
  generalize x / 2 ^ k = q
  by_cases h : q % 2 = 1
  · simp [h]; omega
  · simp [h]; omega

set_option maxRecDepth 100000 in
set_option maxHeartbeats 2000000 in
theorem plain_anyW {n : Nat} (b : BitVec n) (h0 : 0 < n) (hn : n ≤ 64) (w : World) (v : Value) (hv : Bools w v (bl b)) :
    Calls Tryz.prog 112 #[v] w fun e w' => e = .returned (.int .u64 b.toNat) ∧ w = w' := by
  obtain ⟨g, off, cap, rfl, hcap, hm, HC⟩ := bools_open b h0 hv
  clear hv
  have hlt64 : b.toNat < 18446744073709551616 := Nat.lt_of_lt_of_le b.isLt (by
    have h2 : 2 ^ n ≤ 2 ^ 64 := Nat.pow_le_pow_right (by decide) hn
    rw [show (2 : Nat) ^ 64 = 18446744073709551616 from by decide] at h2
    exact h2)
  have hz := hid (show b.toNat / 2 ^ n = 0 from Nat.div_eq_of_lt b.isLt)
  have hLT := hid hlt64
  go_enter Tryz.func112, Tryz.ntmps112
  go_wp2_with fail
  go_loop [4, 3] (fun i r => ∃ k : Nat, k ≤ n ∧ i = .int .i64 ((k : Int) - 1) ∧ r = .int .u64 ((b.toNat / 2 ^ k : Nat) : Int)) (fun i _ => (RowKit.intOf i + 1).toNat)
  case atStart => exact ⟨n, Nat.le_refl _, rfl, by rw [hz.out]; rfl⟩
  case round =>
    obtain ⟨k, hk, rfl, rfl⟩ := hrel
    cases k with
    | zero =>
      have e0 : b.toNat / 2 ^ 0 = b.toNat := by simp
      rw [e0]
      go_wp2_with fail
      go_ret
      exact ⟨rfl, rfl⟩
    | succ j =>
      have hck := HC.out j (by omega)
      have hst := div_stepW b.toNat j
      rw [BitVec.testBit_toNat] at hst
      have hle : b.toNat / 2 ^ j ≤ b.toNat := Nat.div_le_self _ _
      have hj : ((j + 1 : Nat) : Int) - 1 = (j : Int) := by omega
      have hb2 : b.toNat / 2 ^ j < 18446744073709551616 := by omega
      rw [hj]
      generalize hq : b.toNat / 2 ^ j = q at *
      have HQ0 := hid hq
      clear hq
      generalize b.toNat / 2 ^ (j + 1) = p at *
      have hjn : (j : Int) < (n : Int) := by omega
      cases hbt : b.getLsbD j with
      | true =>
        rw [hbt] at hck hst
        have HQ := hid (show q = 2 * p + 1 from hst)
        have hp1 : 2 * p + 1 < 18446744073709551616 := by have := HQ.out; omega
        clear hst hle hb2 hj
        go_wp2_with fail
        go_round
        case rel => exact ⟨j, by omega, rfl, by rw [HQ0.out, HQ.out]; congr 1; omega⟩
        case measure => simp [RowKit.intOf]
      | false =>
        rw [hbt] at hck hst
        have HQ := hid (show q = 2 * p from hst)
        have hp1 : 2 * p < 18446744073709551616 := by have := HQ.out; omega
        clear hst hle hb2 hj
        go_wp2_with fail
        go_round
        case rel => exact ⟨j, by omega, rfl, by rw [HQ0.out, HQ.out]; congr 1; omega⟩
        case measure => simp [RowKit.intOf]
set_option maxRecDepth 100000 in
set_option maxHeartbeats 2000000 in
theorem none_any {n : Nat} (b : BitVec n) (h0 : 0 < n) (hn : n ≤ 64) (w : World) (v : Value) (hv : Bools w v (bl b)) :
    Calls Tryz.prog 109 #[v] w fun e w' => e = .returned (.bool (decide (b = 0#n))) ∧ w = w' := by
  obtain ⟨g, off, cap, rfl, hcap, hm, HC⟩ := bools_open b h0 hv
  clear hv
  go_enter Tryz.func109, Tryz.ntmps109
  go_wp2_with fail
  go_loop [7] (fun i => ∃ k : Nat, k ≤ n ∧ i = .int .i64 k ∧ Hid (∀ j, j < k → b.getLsbD j = false)) (fun i => n - (RowKit.intOf i).toNat)
  case atStart => exact ⟨0, Nat.zero_le _, rfl, hid (fun j hj => by omega)⟩
  case round =>
    obtain ⟨k, hk, rfl, hall⟩ := hrel
    by_cases hlt : k < n
    · have hck := HC.out k hlt
      cases hbt : b.getLsbD k with
      | true =>
        rw [hbt] at hck
        have hne := hid (show decide (b = 0#n) = false from decide_eq_false (fun e => by rw [e] at hbt; simp at hbt))
        clear hbt
        go_wp2_with fail
        go_ret
        exact ⟨retB (by rw [hne.out]), rfl⟩
      | false =>
        rw [hbt] at hck
        have hall2 := hid (fun j (hj : j < k + 1) => by
          by_cases h : j < k
          · exact hall.out j h
          · have : j = k := by omega
            rw [this]; exact hbt)
        clear hbt
        go_wp2_with fail
        go_round
        case rel => exact ⟨k + 1, by omega, by go_num, hall2⟩
        case measure => simp [RowKit.intOf]; omega
    · obtain rfl : k = n := by omega
      have hz := hid (show decide (b = 0#k) = true from decide_eq_true (BitVec.eq_of_getLsbD_eq (fun i hi => by rw [hall.out i hi]; simp)))
      go_wp2_with fail
      go_ret
      exact ⟨retB (by rw [hz.out]), rfl⟩
end Go.Proofs.YtakfineljffoaaaGreatDoor
namespace Go.Proofs.YtakfineljffoaaaGreatDoor
open Go.RowKit

theorem add_bit {n : Nat} (b c : BitVec n) (cin : Bool) (k : Nat) (hk : k < n) :
    (b + c + BitVec.setWidth n (BitVec.ofBool cin)).getLsbD k = ((b.getLsbD k != c.getLsbD k) != BitVec.carry k b c cin) := by
  rw [BitVec.getLsbD_add_add_bool hk]
  cases b.getLsbD k <;> cases c.getLsbD k <;> cases BitVec.carry k b c cin <;> rfl
theorem carry_next {n : Nat} (b c : BitVec n) (cin : Bool) (k : Nat) :
    BitVec.carry (k + 1) b c cin = ((b.getLsbD k && c.getLsbD k) || (BitVec.carry k b c cin && (b.getLsbD k || c.getLsbD k))) := by
  rw [BitVec.carry_succ]
  cases b.getLsbD k <;> cases c.getLsbD k <;> cases BitVec.carry k b c cin <;> rfl
theorem minus_eq {n : Nat} (b : BitVec n) : ~~~b + 0#n + BitVec.setWidth n (BitVec.ofBool true) = -b := by
  have h : BitVec.setWidth n (BitVec.ofBool true) = 1#n := by
    apply BitVec.eq_of_toNat_eq
    simp [BitVec.toNat_setWidth, BitVec.ofBool]
  rw [h, BitVec.add_zero, BitVec.neg_eq_not_add]
theorem sub_eq {n : Nat} (b c : BitVec n) : b + ~~~c + BitVec.setWidth n (BitVec.ofBool true) = b - c := by
  have h : BitVec.setWidth n (BitVec.ofBool true) = 1#n := by
    apply BitVec.eq_of_toNat_eq
    simp [BitVec.toNat_setWidth, BitVec.ofBool]
  rw [h, BitVec.sub_eq_add_neg, BitVec.neg_eq_not_add, BitVec.add_assoc]
theorem sum_eq {n : Nat} (b c : BitVec n) : b + c + BitVec.setWidth n (BitVec.ofBool false) = b + c := by
  have h : BitVec.setWidth n (BitVec.ofBool false) = 0#n := by
    apply BitVec.eq_of_toNat_eq
    simp [BitVec.ofBool]
  rw [h, BitVec.add_zero]
theorem up_eq {n : Nat} (b : BitVec n) (k : Nat) (hk : k ≤ n) : List.replicate k false ++ (bl b).take (n - k) = bl (b <<< k) := by
  apply bl_eq
  · rw [List.length_append, List.length_replicate, bl_take_len b _ (by omega)]; omega
  · intro i hi
    rw [List.length_append, List.length_replicate, bl_take_len b _ (by omega)] at hi
    rw [BitVec.getLsbD_shiftLeft]
    by_cases h : i < k
    · rw [List.getElem_append_left (by simpa using h)]
      simp [h]
    · rw [List.getElem_append_right (by simpa using Nat.le_of_not_lt h), List.getElem_take, bl_get, List.length_replicate]
      have h2 : i < n := by omega
      simp [h, h2]
theorem less_at {n : Nat} (b c : BitVec n) (k : Nat) (h : b.toNat / 2 ^ (k + 1) = c.toNat / 2 ^ (k + 1)) (hne : b.getLsbD k ≠ c.getLsbD k) : b.ult c = c.getLsbD k := by
  have hb := div_stepW b.toNat k
  have hc := div_stepW c.toNat k
  rw [BitVec.testBit_toNat] at hb hc
  have hp : 0 < 2 ^ k := Nat.two_pow_pos k
  have key : ∀ x y : Nat, x / 2 ^ k < y / 2 ^ k → x < y := by
    intro x y hxy
    exact Nat.lt_of_not_le (fun hle => by
      have := Nat.div_le_div_right (c := 2 ^ k) hle
      omega)
  unfold BitVec.ult
  cases h1 : b.getLsbD k with
  | false =>
    cases h2 : c.getLsbD k with
    | false => exact absurd (h1.trans h2.symm) hne
    | true =>
      rw [h1] at hb; rw [h2] at hc
      have : b.toNat < c.toNat := key _ _ (by simp at hb hc; omega)
      simp [this]
  | true =>
    cases h2 : c.getLsbD k with
    | true => exact absurd (h1.trans h2.symm) hne
    | false =>
      rw [h1] at hb; rw [h2] at hc
      have : c.toNat < b.toNat := key _ _ (by simp at hb hc; omega)
      simp; omega
theorem div_same {n : Nat} (b c : BitVec n) (k : Nat) (h : b.toNat / 2 ^ (k + 1) = c.toNat / 2 ^ (k + 1)) (he : b.getLsbD k = c.getLsbD k) : b.toNat / 2 ^ k = c.toNat / 2 ^ k := by
  rw [div_stepW b.toNat k, div_stepW c.toNat k, BitVec.testBit_toNat, BitVec.testBit_toNat, h, he]
def mulK {n : Nat} (b c : BitVec n) (k : Nat) : BitVec n := b * BitVec.ofNat n (c.toNat % 2 ^ k)
theorem mod_step (x k : Nat) : x % 2 ^ (k + 1) = x % 2 ^ k + (if x.testBit k = true then 2 ^ k else 0) := by
  rw [Nat.testBit_eq_decide_div_mod_eq, Nat.pow_succ, Nat.mod_mul]
  by_cases h : x / 2 ^ k % 2 = 1
  · simp [h]
  · have : x / 2 ^ k % 2 = 0 := by omega
    simp [this]
theorem mulK_zero {n : Nat} (b c : BitVec n) : mulK b c 0 = 0#n := by unfold mulK; rw [Nat.pow_zero, Nat.mod_one]; simp
theorem mulK_yes {n : Nat} (b c : BitVec n) (k : Nat) (h : c.getLsbD k = true) : mulK b c (k + 1) = mulK b c k + b <<< k := by
  unfold mulK
  rw [mod_step, BitVec.testBit_toNat, h, if_pos rfl, BitVec.ofNat_add, BitVec.mul_add]
  congr 1
  rw [BitVec.shiftLeft_eq_mul_twoPow]
  congr 1
  apply BitVec.eq_of_toNat_eq
  simp [BitVec.toNat_twoPow]
theorem mulK_no {n : Nat} (b c : BitVec n) (k : Nat) (h : c.getLsbD k = false) : mulK b c (k + 1) = mulK b c k := by
  unfold mulK
  rw [mod_step, BitVec.testBit_toNat, h, if_neg (by decide), Nat.add_zero]
theorem mulK_full {n : Nat} (b c : BitVec n) : mulK b c n = b * c := by
  unfold mulK
  rw [Nat.mod_eq_of_lt c.isLt, BitVec.ofNat_toNat, BitVec.setWidth_eq]
theorem div_hand (X c bit : Nat) (hc : 0 < c) (hb : bit ≤ 1) :
    ((2 * X + bit) % c = if c ≤ 2 * (X % c) + bit then 2 * (X % c) + bit - c else 2 * (X % c) + bit) ∧
    ((2 * X + bit) / c = if c ≤ 2 * (X % c) + bit then 2 * (X / c) + 1 else 2 * (X / c)) := by
  have h1 := Nat.div_add_mod X c
  have h2 := Nat.mod_lt X hc
  generalize X / c = q at *
  generalize X % c = r at *
  have e : 2 * X + bit = 2 * r + bit + c * (2 * q) := by
    rw [← h1, Nat.mul_add, Nat.mul_left_comm]; omega
  rw [e, Nat.add_mul_mod_self_left, Nat.add_mul_div_left _ _ hc]
  by_cases h : c ≤ 2 * r + bit
  · rw [if_pos h, if_pos h]
    have e2 : 2 * r + bit = (2 * r + bit - c) + c * 1 := by omega
    constructor
    · rw [e2, Nat.add_mul_mod_self_left, Nat.mod_eq_of_lt (by omega)]; omega
    · rw [e2, Nat.add_mul_div_left _ _ hc, Nat.div_eq_of_lt (by omega)]; omega
  · rw [if_neg h, if_neg h, Nat.mod_eq_of_lt (by omega), Nat.div_eq_of_lt (by omega)]
    exact ⟨rfl, by omega⟩
end Go.Proofs.YtakfineljffoaaaGreatDoor
namespace Go.Proofs.YtakfineljffoaaaGreatDoor
open Go.RowKit Go.Lib

theorem bools_open2 {n : Nat} (b : BitVec n) (h0 : 0 < n) {w : World} {v : Value} (hv : Bools w v (bl b)) : ∃ g off cap, v = .slice (some ⟨g, off, none⟩) n cap ∧ n ≤ cap ∧ cap ≤ 9223372036854775807 ∧ g < w.heap.size ∧ Hid (∀ j (_ : j < n) (w' : World), Below w.heap.size w w' → w'.cell? ⟨g, off + j, none⟩ = some (.bool (b.getLsbD j))) := by
  obtain ⟨g, off, cap, rfl, h1, h2, h3⟩ := bools_open b h0 hv
  refine ⟨g, off, cap, rfl, h1, h2, World.block_lt_of_cell? w ⟨g, off + 0, none⟩ (h3.out 0 h0), hid (fun j hj w' hb => ?_)⟩
  exact (hb.cell (p := ⟨g, off + j, none⟩) (World.block_lt_of_cell? w _ (h3.out j hj))).trans (h3.out j hj)

set_option maxRecDepth 100000 in
set_option maxHeartbeats 1000000 in
theorem not_any {n : Nat} (b : BitVec n) (h0 : 0 < n) (hn : n ≤ 100) (w : World) (v : Value) (hv : Bools w v (bl b)) :
    Calls Tryz.prog 144 #[v] w fun e w' => ∃ v', e = .returned v' ∧ OwnBW w' w.heap.size v' (bl (~~~b)) ∧ Below w.heap.size w w' := by
  obtain ⟨g, off, cap, rfl, hcap, hm, hg, HC⟩ := bools_open2 b h0 hv
  clear hv
  go_enter Tryz.func144, Tryz.ntmps144
  go_wp2_with fail
  go_loopw [8, 3] (fun i v wr => ∃ (k : Nat) (vv : Value), k ≤ n ∧ i = .int .i64 k ∧ v = vv ∧ OwnBW wr w.heap.size vv ((bl (~~~b)).take k) ∧ Hid (Below w.heap.size w wr) ∧ w.heap.size ≤ wr.heap.size) (fun i _ _ => n - (RowKit.intOf i).toNat)
  case atStart => exact ⟨0, _, Nat.zero_le _, rfl, rfl, O1.nil _ _ _ _, hid (Below.refl _ _), Nat.le_refl _⟩
  case round =>
    obtain ⟨k, vv, hk, rfl, hvv, hown, HB, hsz⟩ := hrel
    have hvv2 := hvv.symm
    subst hvv2
    clear hvv
    by_cases hlt : k < n
    · have hln := bl_take_len (~~~b) k hk
      have hst := hid (bl_take (~~~b) k hlt)
      have hbit := hid (show (~~~b).getLsbD k = !(b.getLsbD k) from by simp [hlt])
      have hck := HC.out k hlt wr HB.out
      generalize (bl (~~~b)).take k = L at *
      have hlen : L.length + 1 ≤ 101 := by omega
      clear hln
      go_wp2_with (at_builtin; go_loud (refine app_o1 one_bool elem_word (y := !(b.getLsbD k)) rfl _ _ rfl rfl rfl rfl hown (by omega) (by omega) hsz ?_); intro v' w' ho' hb' hg'; have HO := hid ho'; have HB2 := hid (HB.out.trans hb'); have hsz2 := HB2.out.size; clear ho' hb' hg')
      go_roundw
      case rel => exact ⟨k + 1, v', by omega, by go_num, rfl, by rw [hst.out, hbit.out]; exact HO.out, HB2, hsz2⟩
      case measure => simp [RowKit.intOf]; omega
    · obtain rfl : k = n := by omega
      rw [bl_full] at hown
      go_wp2_with fail
      go_ret
      exact ⟨vv, rfl, hown, HB.out⟩

set_option maxRecDepth 100000 in
set_option maxHeartbeats 4000000 in
theorem add_any {n : Nat} (b c : BitVec n) (cin : Bool) (h0 : 0 < n) (hn : n ≤ 100) (w : World) (v u : Value) (hv : Bools w v (bl b)) (hu : Bools w u (bl c)) :
    Calls Tryz.prog 143 #[v, u, .bool cin] w fun e w' => ∃ v', e = .returned v' ∧ OwnBW w' w.heap.size v' (bl (b + c + BitVec.setWidth n (BitVec.ofBool cin))) ∧ Below w.heap.size w w' := by
  obtain ⟨g, off, cap, rfl, hcap, hm, hg, HC⟩ := bools_open2 b h0 hv
  obtain ⟨g2, off2, cap2, rfl, hcap2, hm2, hg2, HC2⟩ := bools_open2 c h0 hu
  clear hv hu
  have hbit := hid (fun k hk => add_bit b c cin k hk)
  have hcar := hid (fun k => carry_next b c cin k)
  have hc0 := hid (BitVec.carry_zero (x := b) (y := c) (c := cin))
  have hlen0 := bl_length (b + c + BitVec.setWidth n (BitVec.ofBool cin))
  have htk := hid (fun k (hk : k < n) => bl_take (b + c + BitVec.setWidth n (BitVec.ofBool cin)) k hk)
  have hfl := hid (bl_full (b + c + BitVec.setWidth n (BitVec.ofBool cin)))
  have htl := hid (fun k hk => bl_take_len (b + c + BitVec.setWidth n (BitVec.ofBool cin)) k hk)
  generalize (b + c + BitVec.setWidth n (BitVec.ofBool cin)) = s at *
  clear hlen0
  go_enter Tryz.func143, Tryz.ntmps143
  go_wp2_with fail
  go_loopw [11, 7, 2] (fun i v cc wr => ∃ (k : Nat) (vv : Value), k ≤ n ∧ i = .int .i64 k ∧ v = vv ∧ cc = .bool (BitVec.carry k b c cin) ∧ OwnBW wr w.heap.size vv ((bl s).take k) ∧ Hid (Below w.heap.size w wr) ∧ w.heap.size ≤ wr.heap.size) (fun i _ _ _ => n - (RowKit.intOf i).toNat)
  case atStart => exact ⟨0, _, Nat.zero_le _, rfl, rfl, by rw [hc0.out], O1.nil _ _ _ _, hid (Below.refl _ _), Nat.le_refl _⟩
  case round =>
    obtain ⟨k, vv, hk, rfl, hvv, rfl, hown, HB, hsz⟩ := hrel
    have hvv2 := hvv.symm
    subst hvv2
    clear hvv
    by_cases hlt : k < n
    · have hln := htl.out k hk
      have hst := hid (htk.out k hlt)
      have hbk := hid (hbit.out k hlt)
      have hck2 := hid (hcar.out k)
      have d1 : wr.drew.cell? ⟨g, off + k, none⟩ = some (.bool (b.getLsbD k)) := HC.out k hlt wr HB.out
      have d2 : wr.drew.cell? ⟨g2, off2 + k, none⟩ = some (.bool (c.getLsbD k)) := HC2.out k hlt wr HB.out
      have D1 := hid (HC.out k hlt)
      have D2 := hid (HC2.out k hlt)
      have hi0 : (0 : Int) ≤ (k : Int) := by omega
      have hi1 : (k : Int) < (n : Int) := by omega
      generalize (bl s).take k = L at *
      generalize s.getLsbD k = sk at *
      generalize BitVec.carry k b c cin = c0 at *
      generalize b.getLsbD k = x at *
      generalize c.getLsbD k = y at *
      have hlen : L.length + 1 ≤ 101 := by omega
      clear hln
      have OW := hid hown
      have HBD : Hid (Below w.heap.size w wr.drew) := hid (drew_bel' (n := 1) HB.out)
      go_wp2_with fail
      go_region_law (first | (refine step_one1 elem_word (cs := [.bool ((x != y) != c0)]) (by rfl) _ _ (by rfl) (by rfl) (by rfl) rfl (own_below OW.out (drew_bel' (n := 1) (Below.refl _ _))) (by rfl) (by intro c hc; simp at hc; subst hc; rfl) (by omega) (by omega) hsz ?_; intro v' w4 ho hb hg'; have HO := hid ho; have HB2 := hid (HBD.out.trans hb); have e1 := D1.out w4 HB2.out; have e2 := D2.out w4 HB2.out; have hsz2 := HB2.out.size; clear ho hb hg'))
      all_goals
        rw [hbk.out] at hst
        have HST := hid hst.out
        clear hst hbk hown OW d1 d2 D1 D2
        cases x <;> cases y <;> cases c0
      all_goals
        go_wp2_with fail
        go_roundw
        case rel =>
          refine ⟨k + 1, v', by omega, by go_num, rfl, by rw [hck2.out]; rfl, ?_, HB2, hsz2⟩
          rw [HST.out]
          show World.ownsRow _ _ _ _ _ (L ++ [_]).length ((L ++ [_]).map _)
          rw [List.length_append, List.map_append]
          exact HO.out
        case measure => simp [RowKit.intOf]; omega
    · obtain rfl : k = n := by omega
      rw [hfl.out] at hown
      go_wp2_with fail
      go_ret
      exact ⟨vv, rfl, hown, HB.out⟩
end Go.Proofs.YtakfineljffoaaaGreatDoor
