/-
  THE REFERENCE's WORDS: count from the top and from the bottom. No condition beside the readings.
-/
import Derived.Test.YtakfineljffoaaaGreatDoorGFoldSays14
import Derived.Lib.BitFns
import Derived.Lib.TrailingZeros
import Derived.Laws.Bits64b
import Derived.Laws.BitsAllLaws
import Derived.IntWalk
import Derived.Shelf.Small.Bits
import Derived.Shelf.Lays7
import Derived.Shelf.Spec.TrailingZeros
import Derived.Ground.NamesProg
import Derived.Test.YtakfineljffoaaaGreatDoorProg
namespace Go.Proofs.YtakfineljffoaaaGreatDoor
open Go.RowKit Go.Lib

theorem testBit_lt {x i : Nat} (h : x < 2 ^ (i + 1)) (hb : x.testBit i = false) : x < 2 ^ i := by
  rw [Nat.testBit_eq_decide_div_mod_eq] at hb
  have h1 := of_decide_eq_false hb
  have hp : 0 < 2 ^ i := Nat.two_pow_pos i
  have h2 : x / 2 ^ i < 2 := by
    rw [Nat.div_lt_iff_lt_mul hp, Nat.mul_comm, ← Nat.pow_succ]; exact h
  have h3 : x / 2 ^ i = 0 := by
    generalize x / 2 ^ i = q at *
    omega
  exact (Nat.div_eq_zero_iff.1 h3).resolve_left (by omega)
theorem testBit_ge {x i : Nat} (h : x < 2 ^ (i + 1)) (hb : x.testBit i = true) : x / 2 ^ i = 1 := by
  rw [Nat.testBit_eq_decide_div_mod_eq] at hb
  have h1 := of_decide_eq_true hb
  have hp : 0 < 2 ^ i := Nat.two_pow_pos i
  have h2 : x / 2 ^ i < 2 := by
    rw [Nat.div_lt_iff_lt_mul hp, Nat.mul_comm, ← Nat.pow_succ]; exact h
  generalize x / 2 ^ i = q at *
  omega
theorem bitLen_top {x i : Nat} (hi : i < 64) (h : x < 2 ^ (i + 1)) (hb : x.testBit i = true) : Lib.bitLen x = i + 1 := by
  have h1 := testBit_ge h hb
  have hp : 0 < 2 ^ i := Nat.two_pow_pos i
  have h2 : 2 ^ i ≤ x := by
    have := Nat.div_mul_le_self x (2 ^ i)
    rw [h1] at this; omega
  have h3 : x < 2 ^ 64 := Nat.lt_of_lt_of_le h (Nat.pow_le_pow_right (by decide) (by omega))
  rw [Lib.bitLen_shift i x h2 h3, h1]
  rfl
theorem ctzFrom_at : ∀ (i f x : Nat), i < f → x % 2 ^ i = 0 → x.testBit i = true → Lib.ctzFrom f x = i
  | 0, f + 1, x, _, _, hb => by
    unfold Lib.ctzFrom
    rw [Nat.testBit_zero] at hb
    rw [if_pos (of_decide_eq_true hb)]
  | i + 1, f + 1, x, hf, hm, hb => by
    unfold Lib.ctzFrom
    have h2 : x % 2 = 0 := by
      have : 2 ∣ 2 ^ (i + 1) := ⟨2 ^ i, by rw [Nat.pow_succ, Nat.mul_comm]⟩
      have h3 := Nat.mod_mod_of_dvd x this
      rw [hm] at h3
      omega
    rw [if_neg (by omega)]
    have hm2 : x / 2 % 2 ^ i = 0 := by
      have := Nat.mod_mul_right_div_self x 2 (2 ^ i)
      rw [Nat.mul_comm, ← Nat.pow_succ, hm] at this
      omega
    rw [ctzFrom_at i f (x / 2) (by omega) hm2 (by rw [Nat.testBit_succ] at hb; exact hb)]
    omega
theorem ctz_at {i n x : Nat} (hi : i < n) (hm : x % 2 ^ i = 0) (hb : x.testBit i = true) : Lib.ctz n x = i := by
  unfold Lib.ctz
  rw [if_neg (fun e => by rw [e] at hb; simp at hb), ctzFrom_at i n x hi hm hb]
theorem low_step {x k : Nat} (h : x % 2 ^ k = 0) (hb : x.testBit k = false) : x % 2 ^ (k + 1) = 0 := by
  rw [Nat.testBit_eq_decide_div_mod_eq] at hb
  have h1 := of_decide_eq_false hb
  rw [Nat.pow_succ, Nat.mod_mul, h]
  have : x / 2 ^ k % 2 = 0 := by omega
  rw [this]; rfl

set_option maxRecDepth 100000 in
set_option maxHeartbeats 2000000 in
theorem countDn_any {n : Nat} (b : BitVec n) (h0 : 0 < n) (hn : n ≤ 64) (w : World) (v : Value) (hv : Bools w v (bl b)) (F : Int) (hF : F = (n : Int) - 1) :
    Calls Tryz.prog 110 #[v, .int .i64 F, .int .i64 (-1), .bool true] w fun e w' => e = .returned (.int .i64 ((n : Int) - Lib.bitLen b.toNat)) ∧ w = w' := by
  obtain ⟨g, off, cap, rfl, hcap, hm, HC⟩ := bools_open b h0 hv
  subst hF
  clear hv
  have HLT := hid b.isLt
  go_enter Tryz.func110, Tryz.ntmps110
  go_wp2_with fail
  go_loop [10, 9] (fun i r => ∃ k : Nat, k ≤ n ∧ i = .int .i64 ((k : Int) - 1) ∧ r = .int .i64 ((n : Int) - k) ∧ Hid (b.toNat < 2 ^ k)) (fun i _ => (RowKit.intOf i + 1).toNat)
  case atStart => exact ⟨n, Nat.le_refl _, rfl, by go_num, HLT⟩
  case round =>
    obtain ⟨k, hk, rfl, rfl, hlt⟩ := hrel
    cases k with
    | zero =>
      have hb0 : b.toNat = 0 := by have h1 := hlt.out; rw [Nat.pow_zero] at h1; omega
      have hz : Hid (Lib.bitLen b.toNat = 0) := hid (by rw [hb0]; rfl)
      clear hb0
      go_wp2_with fail
      go_ret
      exact ⟨ret1 (by rw [hz.out]; omega), rfl⟩
    | succ j =>
      have hck := HC.out j (by omega)
      have hj : ((j + 1 : Nat) : Int) - 1 = (j : Int) := by omega
      have hjn : (j : Int) < (n : Int) := by omega
      rw [hj]
      cases hbt : b.getLsbD j with
      | true =>
        rw [hbt] at hck
        have hz := hid (bitLen_top (by omega) hlt.out (by rw [BitVec.testBit_toNat]; exact hbt))
        clear hbt hj
        go_wp2_with fail
        go_ret
        exact ⟨ret1 (by rw [hz.out]; omega), rfl⟩
      | false =>
        rw [hbt] at hck
        have hz := hid (testBit_lt hlt.out (by rw [BitVec.testBit_toNat]; exact hbt))
        clear hbt hj
        go_wp2_with fail
        go_round
        case rel => exact ⟨j, by omega, rfl, by go_num, hz⟩
        case measure => simp [RowKit.intOf]; omega
set_option maxRecDepth 100000 in
set_option maxHeartbeats 2000000 in
theorem countUp_any {n : Nat} (b : BitVec n) (h0 : 0 < n) (hn : n ≤ 64) (w : World) (v : Value) (hv : Bools w v (bl b)) :
    Calls Tryz.prog 110 #[v, .int .i64 0, .int .i64 1, .bool true] w fun e w' => e = .returned (.int .i64 (Lib.ctz n b.toNat)) ∧ w = w' := by
  obtain ⟨g, off, cap, rfl, hcap, hm, HC⟩ := bools_open b h0 hv
  clear hv
  go_enter Tryz.func110, Tryz.ntmps110
  go_wp2_with fail
  go_loop [10, 9] (fun i r => ∃ k : Nat, k ≤ n ∧ i = .int .i64 k ∧ r = .int .i64 k ∧ Hid (b.toNat % 2 ^ k = 0)) (fun i _ => n - (RowKit.intOf i).toNat)
  case atStart => exact ⟨0, Nat.zero_le _, rfl, rfl, hid (Nat.mod_one _)⟩
  case round =>
    obtain ⟨k, hk, rfl, rfl, hlow⟩ := hrel
    by_cases hlt : k < n
    · have hck := HC.out k hlt
      have hkn : (k : Int) < (n : Int) := by omega
      cases hbt : b.getLsbD k with
      | true =>
        rw [hbt] at hck
        have hz := hid (ctz_at hlt hlow.out (by rw [BitVec.testBit_toNat]; exact hbt))
        clear hbt
        go_wp2_with fail
        go_ret
        exact ⟨ret1 (by rw [hz.out]), rfl⟩
      | false =>
        rw [hbt] at hck
        have hz := hid (low_step hlow.out (by rw [BitVec.testBit_toNat]; exact hbt))
        clear hbt
        go_wp2_with fail
        go_round
        case rel => exact ⟨k + 1, by omega, by go_num, by go_num, hz⟩
        case measure => simp [RowKit.intOf]; omega
    · obtain rfl : k = n := by omega
      have hz := hid (show Lib.ctz k b.toNat = k from by
        have h1 := hlow.out
        rw [Nat.mod_eq_of_lt b.isLt] at h1
        unfold Lib.ctz
        rw [if_pos h1])
      go_wp2_with fail
      go_ret
      exact ⟨ret1 (by rw [hz.out]), rfl⟩
end Go.Proofs.YtakfineljffoaaaGreatDoor
namespace Go.Proofs.YtakfineljffoaaaGreatDoor
open Go.RowKit Go.Lib

theorem popAux_add : ∀ (f g x : Nat), popAux (f + g) x = popAux f (x % 2 ^ f) + popAux g (x / 2 ^ f)
  | 0, g, x => by simp [popAux]
  | f + 1, g, x => by
    rw [show f + 1 + g = (f + g) + 1 by omega]
    simp only [popAux]
    rw [popAux_add f g (x / 2)]
    have h1 : x % 2 ^ (f + 1) % 2 = x % 2 := Nat.mod_mod_of_dvd x ⟨2 ^ f, by rw [Nat.pow_succ, Nat.mul_comm]⟩
    have h2 : x % 2 ^ (f + 1) / 2 = x / 2 % 2 ^ f := by rw [Nat.pow_succ, Nat.mul_comm, Nat.mod_mul_right_div_self]
    have h3 : x / 2 / 2 ^ f = x / 2 ^ (f + 1) := by rw [Nat.div_div_eq_div_mul, Nat.pow_succ, Nat.mul_comm]
    rw [h1, h2, h3]
    omega
theorem popAux_zero : ∀ f, popAux f 0 = 0
  | 0 => rfl
  | f + 1 => by simp [popAux, popAux_zero f]
theorem popAux_le : ∀ (f x : Nat), popAux f x ≤ f
  | 0, _ => Nat.le_refl _
  | f + 1, x => by
    simp only [popAux]
    have := popAux_le f (x / 2)
    omega
def o1 (b : Nat) : Nat := (b / 2 &&& 85) + (b &&& 85)
def o2 (b : Nat) : Nat := (b / 4 &&& 51) + (b &&& 51)
def o3 (b : Nat) : Nat := (b / 16 + b) &&& 15
theorem o_all : ∀ b : Fin 256, o3 (o2 (o1 b.val)) = popAux 8 b.val ∧ o1 b.val < 256 ∧ o2 (o1 b.val) ≤ 68 ∧ o2 (o1 b.val) % 16 ≤ 4 := by decide +kernel
theorem o_low1 : ∀ t : Fin 512, t.val / 2 % 256 &&& 85 = t.val % 256 / 2 &&& 85 := by decide +kernel
theorem o_low2 : ∀ t : Fin 1024, t.val / 4 % 256 &&& 51 = t.val % 256 / 4 &&& 51 := by decide +kernel
theorem o_low3 : ∀ (t : Fin 5) (b : Fin 69), (16 * t.val + b.val / 16 + b.val) &&& 15 = (b.val / 16 + b.val) &&& 15 := by decide +kernel
def om (c : Nat) : Nat → Nat
  | 0 => 0
  | k + 1 => 256 * om c k + c
theorem and_split (x m c : Nat) (hc : c < 256) : x &&& (256 * m + c) = 256 * (x / 256 &&& m) + (x % 256 &&& c) := by
  have h1 : (x &&& (256 * m + c)) / 256 = x / 256 &&& m := by
    have := Nat.shiftRight_and_distrib (a := x) (b := 256 * m + c) (i := 8)
    rw [Nat.shiftRight_eq_div_pow, Nat.shiftRight_eq_div_pow, Nat.shiftRight_eq_div_pow] at this
    rw [show (256 : Nat) = 2 ^ 8 from rfl] at *
    rw [this]
    congr 1
    omega
  have h2 : (x &&& (256 * m + c)) % 256 = x % 256 &&& c := by
    have := Nat.and_mod_two_pow (a := x) (b := 256 * m + c) (n := 8)
    rw [show (2 : Nat) ^ 8 = 256 from rfl] at this
    rw [this]
    congr 1
    omega
  have := Nat.div_add_mod (x &&& (256 * m + c)) 256
  rw [h1, h2] at this
  exact this.symm
def t1 (k x : Nat) : Nat := (x / 2 &&& om 85 k) + (x &&& om 85 k)
def t2 (k x : Nat) : Nat := (x / 4 &&& om 51 k) + (x &&& om 51 k)
def t3 (k x : Nat) : Nat := (x / 16 + x) &&& om 15 k
theorem t1_step (k x : Nat) : t1 (k + 1) x = 256 * t1 k (x / 256) + o1 (x % 256) := by
  unfold t1 o1
  have h := o_low1 ⟨x % 512, Nat.mod_lt _ (by decide)⟩
  simp only at h
  have e1 : x % 512 / 2 % 256 = x / 2 % 256 := by omega
  have e2 : x % 512 % 256 = x % 256 := by omega
  rw [e1, e2] at h
  simp only [om]
  rw [and_split _ _ _ (by decide), and_split _ _ _ (by decide), h, show x / 2 / 256 = x / 256 / 2 by omega]
  omega
theorem t2_step (k x : Nat) : t2 (k + 1) x = 256 * t2 k (x / 256) + o2 (x % 256) := by
  unfold t2 o2
  have h := o_low2 ⟨x % 1024, Nat.mod_lt _ (by decide)⟩
  simp only at h
  have e1 : x % 1024 / 4 % 256 = x / 4 % 256 := by omega
  have e2 : x % 1024 % 256 = x % 256 := by omega
  rw [e1, e2] at h
  simp only [om]
  rw [and_split _ _ _ (by decide), and_split _ _ _ (by decide), h, show x / 4 / 256 = x / 256 / 4 by omega]
  omega
theorem t3_step (k y b : Nat) (hy : y % 16 ≤ 4) (hb : b ≤ 68) : t3 (k + 1) (256 * y + b) = 256 * t3 k y + o3 b := by
  unfold t3 o3
  have h := o_low3 ⟨y % 16, by omega⟩ ⟨b, by omega⟩
  simp only at h
  simp only [om]
  rw [and_split _ _ _ (by decide)]
  have e1 : ((256 * y + b) / 16 + (256 * y + b)) / 256 = y / 16 + y := by omega
  have e2 : ((256 * y + b) / 16 + (256 * y + b)) % 256 = 16 * (y % 16) + b / 16 + b := by omega
  rw [e1, e2, h]
theorem t_inv : ∀ (k x : Nat), t2 k (t1 k x) % 16 ≤ 4
  | 0, x => by simp [t2, om]
  | k + 1, x => by
    have h := o_all ⟨x % 256, Nat.mod_lt _ (by decide)⟩
    simp only at h
    rw [t1_step, t2_step]
    have e1 : (256 * t1 k (x / 256) + o1 (x % 256)) / 256 = t1 k (x / 256) := by omega
    have e2 : (256 * t1 k (x / 256) + o1 (x % 256)) % 256 = o1 (x % 256) := by omega
    rw [e1, e2]
    omega
theorem t_step (k x : Nat) : t3 (k + 1) (t2 (k + 1) (t1 (k + 1) x)) = 256 * t3 k (t2 k (t1 k (x / 256))) + popAux 8 (x % 256) := by
  have h := o_all ⟨x % 256, Nat.mod_lt _ (by decide)⟩
  simp only at h
  rw [t1_step, t2_step]
  have e1 : (256 * t1 k (x / 256) + o1 (x % 256)) / 256 = t1 k (x / 256) := by omega
  have e2 : (256 * t1 k (x / 256) + o1 (x % 256)) % 256 = o1 (x % 256) := by omega
  rw [e1, e2, t3_step k _ _ (t_inv k _) h.2.2.1, h.1]
theorem t_zero (x : Nat) : t3 0 (t2 0 (t1 0 x)) = 0 := by simp [t3, om]
theorem ones_end (x : Nat) (hx : x < 18446744073709551616) (z : Nat) (hz : z = t3 8 (t2 8 (t1 8 x))) (a b c : Nat) (ha : a = z + z / 256) (hb : b = a + a / 65536) (hc : c = b + b / 4294967296) :
    a < 18446744073709551616 ∧ b < 18446744073709551616 ∧ c < 18446744073709551616 ∧ c % 128 = popAux 64 x := by
  rw [t_step, t_step, t_step, t_step, t_step, t_step, t_step, t_step, t_zero] at hz
  have h := popAux_add 8 56 x
  rw [popAux_add 8 48 (x / 2 ^ 8), popAux_add 8 40 (x / 2 ^ 8 / 2 ^ 8), popAux_add 8 32 (x / 2 ^ 8 / 2 ^ 8 / 2 ^ 8), popAux_add 8 24 (x / 2 ^ 8 / 2 ^ 8 / 2 ^ 8 / 2 ^ 8), popAux_add 8 16 (x / 2 ^ 8 / 2 ^ 8 / 2 ^ 8 / 2 ^ 8 / 2 ^ 8), popAux_add 8 8 (x / 2 ^ 8 / 2 ^ 8 / 2 ^ 8 / 2 ^ 8 / 2 ^ 8 / 2 ^ 8)] at h
  have e : x / 2 ^ 8 / 2 ^ 8 / 2 ^ 8 / 2 ^ 8 / 2 ^ 8 / 2 ^ 8 / 2 ^ 8 = x / 2 ^ 8 / 2 ^ 8 / 2 ^ 8 / 2 ^ 8 / 2 ^ 8 / 2 ^ 8 / 2 ^ 8 % 2 ^ 8 := by simp only [Nat.reducePow]; omega
  rw [e] at h
  simp only [Nat.reducePow, Nat.reduceAdd] at h
  rw [h]
  have l0 := popAux_le 8 (x % 256)
  have l1 := popAux_le 8 (x / 256 % 256)
  have l2 := popAux_le 8 (x / 256 / 256 % 256)
  have l3 := popAux_le 8 (x / 256 / 256 / 256 % 256)
  have l4 := popAux_le 8 (x / 256 / 256 / 256 / 256 % 256)
  have l5 := popAux_le 8 (x / 256 / 256 / 256 / 256 / 256 % 256)
  have l6 := popAux_le 8 (x / 256 / 256 / 256 / 256 / 256 / 256 % 256)
  have l7 := popAux_le 8 (x / 256 / 256 / 256 / 256 / 256 / 256 / 256 % 256)
  clear h e
  generalize popAux 8 (x % 256) = p0 at *
  generalize popAux 8 (x / 256 % 256) = p1 at *
  generalize popAux 8 (x / 256 / 256 % 256) = p2 at *
  generalize popAux 8 (x / 256 / 256 / 256 % 256) = p3 at *
  generalize popAux 8 (x / 256 / 256 / 256 / 256 % 256) = p4 at *
  generalize popAux 8 (x / 256 / 256 / 256 / 256 / 256 % 256) = p5 at *
  generalize popAux 8 (x / 256 / 256 / 256 / 256 / 256 / 256 % 256) = p6 at *
  generalize popAux 8 (x / 256 / 256 / 256 / 256 / 256 / 256 / 256 % 256) = p7 at *
  clear hx
  have z1 : z / 256 = p1 + 256 * p2 + 65536 * p3 + 16777216 * p4 + 4294967296 * p5 + 1099511627776 * p6 + 281474976710656 * p7 := by omega
  rw [z1] at ha
  have a1 : a / 65536 = (p2 + p3) + 256 * (p3 + p4) + 65536 * (p4 + p5) + 16777216 * (p5 + p6) + 4294967296 * (p6 + p7) + 1099511627776 * p7 := by clear z1 hb hc; omega
  rw [a1] at hb
  have b1 : b / 4294967296 = (p4 + p5 + p6 + p7) + 256 * (p5 + p6 + p7) + 65536 * (p6 + p7) + 16777216 * p7 := by clear z1 a1 hc; omega
  rw [b1] at hc
  clear z1 a1 b1
  omega
theorem ones_four (x : Nat) (hx : x < 4294967296) : onesCount x = popAux 8 (x / 16777216) + popAux 8 (x / 65536 % 256) + popAux 8 (x / 256 % 256) + popAux 8 (x % 256) ∧ onesCount x = popAux 32 x := by
  have hx32 : x < 2 ^ 32 := by omega
  have h0 : popAux 64 x = popAux 32 x := by
    have h1 := popAux_add 32 32 x
    rw [show (32 : Nat) + 32 = 64 from rfl] at h1
    rw [h1, Nat.div_eq_of_lt hx32, Nat.mod_eq_of_lt hx32, popAux_zero, Nat.add_zero]
  refine ⟨?_, h0⟩
  unfold onesCount
  rw [h0]
  have h := popAux_add 8 24 x
  rw [popAux_add 8 16 (x / 2 ^ 8), popAux_add 8 8 (x / 2 ^ 8 / 2 ^ 8)] at h
  simp only [Nat.reducePow, Nat.reduceAdd] at h
  rw [h, show x / 256 / 256 / 256 = x / 16777216 by omega, show x / 256 / 256 = x / 65536 by omega]
  omega
theorem ones_byte (b : Nat) (hb : b < 256) : onesCount b = popAux 8 b := by
  have hb8 : b < 2 ^ 8 := by omega
  unfold onesCount
  rw [show (64 : Nat) = 8 + 56 from rfl, popAux_add 8 56 b, Nat.div_eq_of_lt hb8, Nat.mod_eq_of_lt hb8, popAux_zero, Nat.add_zero]
end Go.Proofs.YtakfineljffoaaaGreatDoor
namespace Go.Proofs.YtakfineljffoaaaGreatDoor
open Go.RowKit Go.Lib

theorem and_low7 (n : Int) : bits .and .i64 n 127 = n % 128 := by
  simp only [bits, BitVec.toNat_and]
  have e2 : (BitVec.ofInt (IntKind.i64.bits) (127 : Int)).toNat = 127 := by decide
  rw [e2, show (127 : Nat) = 2 ^ 7 - 1 by decide, Nat.and_two_pow_sub_one_eq_mod, BitVec.toNat_ofInt]
  have h : (((n % ((2 ^ IntKind.i64.bits : Nat) : Int)).toNat % 2 ^ 7 : Nat) : Int) = n % 128 := by
    show (((n % 18446744073709551616).toNat % 128 : Nat) : Int) = n % 128
    omega
  rw [h, IntKind.wrap_i64]
  omega

theorem low7 (c : Nat) : wrap64 (c : Int) % 128 = ((c % 128 : Nat) : Int) := by unfold wrap64; omega
set_option maxRecDepth 100000 in
set_option maxHeartbeats 2000000 in
theorem ones64_any (x : Nat) (hx : x < 18446744073709551616) (w : World) :
    Calls Tryz.prog 131 #[.int .u64 x] w fun e w' => e = .returned (.int .i64 (popAux 64 x : Nat)) ∧ w = w' := by
  obtain ⟨A1, hA1⟩ : ∃ A, A = x / 2 &&& 6148914691236517205 := ⟨_, rfl⟩
  obtain ⟨B1, hB1⟩ : ∃ A, A = x &&& 6148914691236517205 := ⟨_, rfl⟩
  have f1 : bits .and .u64 ((x : Int) / 2) 6148914691236517205 = (A1 : Int) := by
    rw [hA1, ← bits_and_u64_nat _ _ (by omega) (by omega)]; rfl
  have f2 : bits .and .u64 (x : Int) 6148914691236517205 = (B1 : Int) := by
    rw [hB1, ← bits_and_u64_nat _ _ (by omega) (by omega)]; rfl
  have l1 : A1 ≤ 6148914691236517205 := by rw [hA1]; exact Nat.and_le_right
  have l2 : B1 ≤ 6148914691236517205 := by rw [hB1]; exact Nat.and_le_right
  obtain ⟨y1, hy1⟩ : ∃ A, A = A1 + B1 := ⟨_, rfl⟩
  have w1 : IntKind.u64.wrap ((A1 : Int) + (B1 : Int)) = (y1 : Int) := by rw [IntKind.wrap_u64]; omega
  obtain ⟨A2, hA2⟩ : ∃ A, A = y1 / 4 &&& 3689348814741910323 := ⟨_, rfl⟩
  obtain ⟨B2, hB2⟩ : ∃ A, A = y1 &&& 3689348814741910323 := ⟨_, rfl⟩
  have f3 : bits .and .u64 ((y1 : Int) / 4) 3689348814741910323 = (A2 : Int) := by
    rw [hA2, ← bits_and_u64_nat _ _ (by omega) (by omega)]; rfl
  have f4 : bits .and .u64 (y1 : Int) 3689348814741910323 = (B2 : Int) := by
    rw [hB2, ← bits_and_u64_nat _ _ (by omega) (by omega)]; rfl
  have l3 : A2 ≤ 3689348814741910323 := by rw [hA2]; exact Nat.and_le_right
  have l4 : B2 ≤ 3689348814741910323 := by rw [hB2]; exact Nat.and_le_right
  obtain ⟨y2, hy2⟩ : ∃ A, A = A2 + B2 := ⟨_, rfl⟩
  have w2 : IntKind.u64.wrap ((A2 : Int) + (B2 : Int)) = (y2 : Int) := by rw [IntKind.wrap_u64]; omega
  obtain ⟨y3, hy3⟩ : ∃ A, A = y2 / 16 + y2 := ⟨_, rfl⟩
  have w3 : IntKind.u64.wrap ((y2 : Int) / 16 + (y2 : Int)) = (y3 : Int) := by rw [IntKind.wrap_u64]; omega
  obtain ⟨z, hz⟩ : ∃ A, A = y3 &&& 1085102592571150095 := ⟨_, rfl⟩
  have f5 : bits .and .u64 (y3 : Int) 1085102592571150095 = (z : Int) := by
    rw [hz, ← bits_and_u64_nat _ _ (by omega) (by omega)]; rfl
  have ez : z = t3 8 (t2 8 (t1 8 x)) := by
    have m0 : om 85 8 = 6148914691236517205 := by decide
    have m1 : om 51 8 = 3689348814741910323 := by decide
    have m2 : om 15 8 = 1085102592571150095 := by decide
    unfold t1 t2 t3
    rw [m0, m1, m2, hz, hy3, hy2, hA2, hB2, hy1, hA1, hB1]
  obtain ⟨a, ha⟩ : ∃ A, A = z + z / 256 := ⟨_, rfl⟩
  obtain ⟨b, hb⟩ : ∃ A, A = a + a / 65536 := ⟨_, rfl⟩
  obtain ⟨c, hc⟩ : ∃ A, A = b + b / 4294967296 := ⟨_, rfl⟩
  obtain ⟨k1, k2, k3, k4⟩ := ones_end x hx z ez a b c ha hb hc
  have w4 : IntKind.u64.wrap ((z : Int) + (z : Int) / 256) = (a : Int) := by rw [IntKind.wrap_u64]; omega
  have w5 : IntKind.u64.wrap ((a : Int) + (a : Int) / 65536) = (b : Int) := by rw [IntKind.wrap_u64]; omega
  have w6 : IntKind.u64.wrap ((b : Int) + (b : Int) / 4294967296) = (c : Int) := by rw [IntKind.wrap_u64]; omega
  have K := hid (show bits .and .i64 (wrap64 (c : Int)) 127 = ((popAux 64 x : Nat) : Int) by rw [and_low7, ← k4]; exact low7 c)
  clear hA1 hB1 hy1 hA2 hB2 hy2 hy3 hz ez ha hb hc k4 k1 k2 k3 l1 l2 l3 l4
  go_enter Tryz.func131, Tryz.ntmps131
  go_wp2_with fail
  go_ret
  exact ⟨ret1 K.out, rfl⟩

theorem pop_byte (b : Nat) (hb : b < 256) : pop8 (b : Int) = ((popAux 8 b : Nat) : Int) := by
  have h := pop8_eq ⟨b, hb⟩
  rw [← ones_byte b hb]
  exact h
set_option maxRecDepth 100000 in
set_option maxHeartbeats 2000000 in
theorem ones32_any (x : Nat) (hx : x < 4294967296) (w : World) :
    Calls Tryz.prog 128 #[.int .u32 x] w fun e w' => e = .returned (.int .i64 (popAux 32 x : Nat)) ∧ Below w.heap.size w w' := by
  have g1 : bits .and .u32 ((x : Int) / 65536) 255 = ((x / 65536 % 256 : Nat) : Int) := by
    have h := u32_and_nat (x / 65536) 255 (by omega) (by omega)
    rw [show (255 : Nat) = 2 ^ 8 - 1 by decide, Nat.and_two_pow_sub_one_eq_mod] at h
    exact h
  have g2 : bits .and .u32 ((x : Int) / 256) 255 = ((x / 256 % 256 : Nat) : Int) := by
    have h := u32_and_nat (x / 256) 255 (by omega) (by omega)
    rw [show (255 : Nat) = 2 ^ 8 - 1 by decide, Nat.and_two_pow_sub_one_eq_mod] at h
    exact h
  have g3 : bits .and .u32 (x : Int) 255 = ((x % 256 : Nat) : Int) := by
    have h := u32_and_nat x 255 (by omega) (by omega)
    rw [show (255 : Nat) = 2 ^ 8 - 1 by decide, Nat.and_two_pow_sub_one_eq_mod] at h
    exact h
  have hs := (ones_four x hx).1
  rw [(ones_four x hx).2] at hs
  have g0 : (x : Int) / 16777216 = ((x / 16777216 : Nat) : Int) := by rfl
  have b0 : x / 16777216 < 256 := by omega
  have b1 : x / 65536 % 256 < 256 := by omega
  have b2 : x / 256 % 256 < 256 := by omega
  have b3 : x % 256 < 256 := by omega
  have e0 := pop_byte _ b0
  have e1 := pop_byte _ b1
  have e2 := pop_byte _ b2
  have e3 := pop_byte _ b3
  have l0 := popAux_le 8 (x / 16777216)
  have l1 := popAux_le 8 (x / 65536 % 256)
  have l2 := popAux_le 8 (x / 256 % 256)
  have l3 := popAux_le 8 (x % 256)
  generalize x / 16777216 = q0 at *
  generalize x / 65536 % 256 = q1 at *
  generalize x / 256 % 256 = q2 at *
  generalize x % 256 = q3 at *
  generalize popAux 8 q0 = p0 at *
  generalize popAux 8 q1 = p1 at *
  generalize popAux 8 q2 = p2 at *
  generalize popAux 8 q3 = p3 at *
  generalize popAux 32 x = R at *
  have HS := hid hs
  clear hs
  have i0 : (q0 : Int) ≤ 255 := by omega
  have i1 : (q1 : Int) ≤ 255 := by omega
  have i2 : (q2 : Int) ≤ 255 := by omega
  have i3 : (q3 : Int) ≤ 255 := by omega
  have j0 : (0 : Int) ≤ q0 := by omega
  have j1 : (0 : Int) ≤ q1 := by omega
  have j2 : (0 : Int) ≤ q2 := by omega
  have j3 : (0 : Int) ≤ q3 := by omega
  go_enter Tryz.func128, Tryz.ntmps128
  go_wp2_with fail
  simp only [List.append_eq, List.cons_append, List.nil_append, Lib.fold_pop8tab]
  go_quiet (fail)
  go_wp2_with fail
  trace_state
  go_ret
  exact ⟨ret1 (by have h := HS.out; omega), drew_bel' (n := nq) (Below.refl _ _)⟩
end Go.Proofs.YtakfineljffoaaaGreatDoor
namespace Go.Proofs.YtakfineljffoaaaGreatDoor
open Go.RowKit Go.Lib

def w32 (a : Int) : Int := (a + 2147483648) % 4294967296 - 2147483648
end Go.Proofs.YtakfineljffoaaaGreatDoor
namespace Go.Proofs
open Go.Shelf
def Tryz.lays133_ren : Go.Shelf.Ren := ⟨fun | 133 => 126 | 128 => 158 | n => n, fun | 51 => 181 | 3 => 3 | 4 => 4 | 46 => 206 | 5 => 5 | 9 => 9 | n => n, fun | n => n⟩
theorem Tryz.lays133 : Go.Proofs.Lays.n133 Tryz.prog Tryz.lays133_ren := {
  mixed := by kernel_rfl
  f128 := Tryz.func158.trans (congrArg some (by kernel_rfl))
  f133 := Tryz.func126.trans (congrArg some (by kernel_rfl))
  t3 := Tryz.underlying3
  a3 := Tryz.isAgg3
  z3 := Tryz.sizeOf3
  v3 := Tryz.zeroValue3
  t4 := Tryz.underlying4
  a4 := Tryz.isAgg4
  z4 := Tryz.sizeOf4
  v4 := Tryz.zeroValue4
  t5 := Tryz.underlying5
  a5 := Tryz.isAgg5
  z5 := Tryz.sizeOf5
  v5 := Tryz.zeroValue5
  t9 := Tryz.underlying9
  a9 := Tryz.isAgg9
  z9 := Tryz.sizeOf9
  v9 := Tryz.zeroValue9
  t46 := Tryz.underlying206
  a46 := Tryz.isAgg206
  z46 := Tryz.sizeOf206
  v46 := Tryz.zeroValue206
  t51 := Tryz.underlying181
  a51 := Tryz.isAgg181
  z51 := Tryz.sizeOf181
  v51 := Tryz.zeroValue181 }
theorem Tryz.bits_LeadingZeros32 (x : Int) (w : World) (h0 : 0 ≤ x) (h1 : x ≤ 4294967295) :
    Calls Tryz.prog 126 #[.int .u32 x] w fun e w' => e = .returned (.int .i64 (32 - (Lib.bitLen x.toNat : Int))) ∧ w' = w := Any.bits_LeadingZeros32 Tryz.lays133 x w h0 h1
def Tryz.lays134_ren : Go.Shelf.Ren := ⟨fun | 134 => 129 | 129 => 159 | n => n, fun | 53 => 139 | 3 => 3 | 4 => 4 | 46 => 206 | 5 => 5 | 9 => 9 | n => n, fun | n => n⟩
theorem Tryz.lays134 : Go.Proofs.Lays.n134 Tryz.prog Tryz.lays134_ren := {
  mixed := by kernel_rfl
  f129 := Tryz.func159.trans (congrArg some (by kernel_rfl))
  f134 := Tryz.func129.trans (congrArg some (by kernel_rfl))
  t3 := Tryz.underlying3
  a3 := Tryz.isAgg3
  z3 := Tryz.sizeOf3
  v3 := Tryz.zeroValue3
  t4 := Tryz.underlying4
  a4 := Tryz.isAgg4
  z4 := Tryz.sizeOf4
  v4 := Tryz.zeroValue4
  t5 := Tryz.underlying5
  a5 := Tryz.isAgg5
  z5 := Tryz.sizeOf5
  v5 := Tryz.zeroValue5
  t9 := Tryz.underlying9
  a9 := Tryz.isAgg9
  z9 := Tryz.sizeOf9
  v9 := Tryz.zeroValue9
  t46 := Tryz.underlying206
  a46 := Tryz.isAgg206
  z46 := Tryz.sizeOf206
  v46 := Tryz.zeroValue206
  t53 := Tryz.underlying139
  a53 := Tryz.isAgg139
  z53 := Tryz.sizeOf139
  v53 := Tryz.zeroValue139 }
theorem Tryz.bits_LeadingZeros64 (x : Int) (w : World) (h0 : 0 ≤ x) (h1 : x ≤ 18446744073709551615) :
    Calls Tryz.prog 129 #[.int .u64 x] w fun e w' => e = .returned (.int .i64 (64 - (Lib.bitLen x.toNat : Int))) ∧ w' = w := Any.bits_LeadingZeros64 Tryz.lays134 x w h0 h1
def Tryz.lays28_ren : Go.Shelf.Ren := ⟨fun | 28 => 127 | n => n, fun | 27 => 181 | 3 => 3 | 4 => 4 | 25 => 206 | 53 => 213 | 0 => 0 | 5 => 5 | n => n, fun | 0 => 2 | n => n⟩
theorem Tryz.lays28 : Go.Proofs.Lays7.n28 Tryz.prog Tryz.lays28_ren := {
  mixed := by kernel_rfl
  f28 := Tryz.func127.trans (congrArg some (by kernel_rfl))
  t0 := Tryz.underlying0
  a0 := Tryz.isAgg0
  z0 := Tryz.sizeOf0
  v0 := Tryz.zeroValue0
  i0 := by kernel_rfl
  t3 := Tryz.underlying3
  a3 := Tryz.isAgg3
  z3 := Tryz.sizeOf3
  v3 := Tryz.zeroValue3
  i3 := by kernel_rfl
  t4 := Tryz.underlying4
  a4 := Tryz.isAgg4
  z4 := Tryz.sizeOf4
  v4 := Tryz.zeroValue4
  i4 := by kernel_rfl
  t5 := Tryz.underlying5
  a5 := Tryz.isAgg5
  z5 := Tryz.sizeOf5
  v5 := Tryz.zeroValue5
  i5 := by kernel_rfl
  t25 := Tryz.underlying206
  a25 := Tryz.isAgg206
  z25 := Tryz.sizeOf206
  v25 := Tryz.zeroValue206
  i25 := by kernel_rfl
  t27 := Tryz.underlying181
  a27 := Tryz.isAgg181
  z27 := Tryz.sizeOf181
  v27 := Tryz.zeroValue181
  i27 := by kernel_rfl
  t53 := Tryz.underlying213
  a53 := Tryz.isAgg213
  z53 := Tryz.sizeOf213
  v53 := Tryz.zeroValue213
  i53 := by kernel_rfl
  g0 := by kernel_rfl }
def Tryz.lays29_ren : Go.Shelf.Ren := ⟨fun | 29 => 130 | n => n, fun | 22 => 139 | 3 => 3 | 4 => 4 | 25 => 206 | 54 => 214 | 0 => 0 | 5 => 5 | n => n, fun | 1 => 3 | n => n⟩
theorem Tryz.lays29 : Go.Proofs.Lays7.n29 Tryz.prog Tryz.lays29_ren := {
  mixed := by kernel_rfl
  f29 := Tryz.func130.trans (congrArg some (by kernel_rfl))
  t0 := Tryz.underlying0
  a0 := Tryz.isAgg0
  z0 := Tryz.sizeOf0
  v0 := Tryz.zeroValue0
  i0 := by kernel_rfl
  t3 := Tryz.underlying3
  a3 := Tryz.isAgg3
  z3 := Tryz.sizeOf3
  v3 := Tryz.zeroValue3
  i3 := by kernel_rfl
  t4 := Tryz.underlying4
  a4 := Tryz.isAgg4
  z4 := Tryz.sizeOf4
  v4 := Tryz.zeroValue4
  i4 := by kernel_rfl
  t5 := Tryz.underlying5
  a5 := Tryz.isAgg5
  z5 := Tryz.sizeOf5
  v5 := Tryz.zeroValue5
  i5 := by kernel_rfl
  t22 := Tryz.underlying139
  a22 := Tryz.isAgg139
  z22 := Tryz.sizeOf139
  v22 := Tryz.zeroValue139
  i22 := by kernel_rfl
  t25 := Tryz.underlying206
  a25 := Tryz.isAgg206
  z25 := Tryz.sizeOf206
  v25 := Tryz.zeroValue206
  i25 := by kernel_rfl
  t54 := Tryz.underlying214
  a54 := Tryz.isAgg214
  z54 := Tryz.sizeOf214
  g1 := by kernel_rfl }
end Go.Proofs
namespace Go.Proofs.YtakfineljffoaaaGreatDoor
open Go.RowKit Go.Lib

def tvo (b : Bool) : Int := if b = true then 1 else 0
theorem rtruth_o (b : Bool) (w : World) : Calls Tryz.prog 108 #[.bool b] w fun e w' => e = .returned (.int .i64 (tvo b)) ∧ w = w' := by
  cases b
  · go_enter Tryz.func108, Tryz.ntmps108
    go_wp2_with fail
    go_ret
    exact ⟨rfl, rfl⟩
  · go_enter Tryz.func108, Tryz.ntmps108
    go_wp2_with fail
    go_ret
    exact ⟨rfl, rfl⟩
theorem ptruth_o (b : Bool) (w : World) : Calls Tryz.prog 125 #[.bool b] w fun e w' => e = .returned (.int .i64 (tvo b)) ∧ w = w' := by
  cases b
  · go_enter Tryz.func125, Tryz.ntmps125
    go_wp2_with fail
    go_ret
    exact ⟨rfl, rfl⟩
  · go_enter Tryz.func125, Tryz.ntmps125
    go_wp2_with fail
    go_ret
    exact ⟨rfl, rfl⟩
def Tabs (w : World) : Prop := TabAt 2 deBruijn32tab w ∧ TabAt 3 deBruijn64tab w
theorem tabAt_below {g : Nat} {tab : List Nat} {w w' : World} (h : TabAt g tab w) (hb : Below w.heap.size w w') : TabAt g tab w' := by
  intro j hj
  have hc := h j hj
  have hlt : g < w.heap.size := by
    rcases Nat.lt_or_ge g w.heap.size with h' | h'
    · exact h'
    · simp [World.cell?, Array.getElem?_eq_none h'] at hc
  exact (hb.cell hlt).trans hc
theorem Tabs.below {w w' : World} (h : Tabs w) (hb : Below w.heap.size w w') : Tabs w' := ⟨tabAt_below h.1 hb, tabAt_below h.2 hb⟩
theorem lz32_any (x : Nat) (hx : x < 4294967296) (w : World) : Calls Tryz.prog 126 #[.int .u32 x] w fun e w' => e = .returned (.int .i64 (32 - (Lib.bitLen x : Int))) ∧ w' = w :=
  (Tryz.bits_LeadingZeros32 x w (by omega) (by omega)).mono (by rintro e w' ⟨rfl, rfl⟩; rw [Int.toNat_natCast]; exact ⟨rfl, rfl⟩)
theorem lz64_any (x : Nat) (hx : x < 18446744073709551616) (w : World) : Calls Tryz.prog 129 #[.int .u64 x] w fun e w' => e = .returned (.int .i64 (64 - (Lib.bitLen x : Int))) ∧ w' = w :=
  (Tryz.bits_LeadingZeros64 x w (by omega) (by omega)).mono (by rintro e w' ⟨rfl, rfl⟩; rw [Int.toNat_natCast]; exact ⟨rfl, rfl⟩)
theorem tz32_any (x : Nat) (hx : x < 4294967296) (w : World) (hT : Tabs w) : Calls Tryz.prog 127 #[.int .u32 x] w fun e w' => e = .returned (.int .i64 (Lib.ctz 32 x)) ∧ w' = w :=
  Any7.bits_TrailingZeros32 Tryz.lays28 x hx w (fun _ => hT.1)
theorem tz64_any (x : Nat) (hx : x < 18446744073709551616) (w : World) (hT : Tabs w) : Calls Tryz.prog 130 #[.int .u64 x] w fun e w' => e = .returned (.int .i64 (Lib.ctz 64 x)) ∧ w' = w :=
  Any7.bits_TrailingZeros64 Tryz.lays29 x hx w (fun _ => hT.2)

theorem o_toNat32 (a : Int) : a % 4294967296 = ((BitVec.ofInt 32 a).toNat : Int) := by
  rw [BitVec.toNat_ofInt]
  simp only [Nat.reducePow]
  omega
theorem o_toNat64 (a : Int) : a % 18446744073709551616 = ((BitVec.ofInt 64 a).toNat : Int) := by
  rw [BitVec.toNat_ofInt]
  simp only [Nat.reducePow]
  omega
theorem o_wp64 (z : Int) : IntKind.u64.wrap z = z % 18446744073709551616 := by simp [IntKind.wrap, IntKind.bits, IntKind.signed]
theorem o_zero32 (a : Int) : (wrap32 a == 0) = decide (BitVec.ofInt 32 a = 0#32) := by
  rw [Bool.eq_iff_iff, beq_iff_eq, decide_eq_true_iff]
  constructor
  · intro h
    apply BitVec.eq_of_toNat_eq
    have := o_toNat32 a
    unfold wrap32 at h
    simp
    omega
  · intro h
    have h2 := o_toNat32 a
    rw [h] at h2
    unfold wrap32
    simp at h2
    omega
theorem o_zero64 (a : Int) (h : -9223372036854775808 ≤ a ∧ a < 9223372036854775808) : (a == 0) = decide (BitVec.ofInt 64 a = 0#64) := by
  rw [Bool.eq_iff_iff, beq_iff_eq, decide_eq_true_iff]
  constructor
  · rintro rfl; rfl
  · intro h3
    have h2 := o_toNat64 a
    rw [h3] at h2
    simp at h2
    omega
theorem o_int8 (a : Int) : wrap64 (IntKind.i8.wrap a) = (BitVec.ofInt 8 a).toInt := by
  rw [BitVec.toInt_ofInt, Int.bmod_def]
  have e : IntKind.i8.wrap a = if a % 256 ≥ 128 then a % 256 - 256 else a % 256 := by simp [IntKind.wrap, IntKind.bits, IntKind.signed]
  rw [e]
  unfold wrap64
  simp only [Nat.reducePow]
  split <;> split <;> omega
theorem o_int16 (a : Int) : wrap64 (IntKind.i16.wrap a) = (BitVec.ofInt 16 a).toInt := by
  rw [BitVec.toInt_ofInt, Int.bmod_def]
  have e : IntKind.i16.wrap a = if a % 65536 ≥ 32768 then a % 65536 - 65536 else a % 65536 := by simp [IntKind.wrap, IntKind.bits, IntKind.signed]
  rw [e]
  unfold wrap64
  simp only [Nat.reducePow]
  split <;> split <;> omega
theorem o_int32 (a : Int) : wrap64 (wrap32 a) = (BitVec.ofInt 32 a).toInt := by
  rw [BitVec.toInt_ofInt, Int.bmod_def]
  unfold wrap64 wrap32
  simp only [Nat.reducePow]
  split <;> omega
theorem bl_cut {n m : Nat} (a : Int) (h : m ≤ n) : (bl (BitVec.ofInt n a)).take m = bl (BitVec.ofInt m a) := by
  apply bl_eq (by rw [List.length_take, bl_length]; omega)
  intro i hi
  rw [List.length_take, bl_length] at hi
  rw [List.getElem_take, bl_get]
  have e : BitVec.ofInt m a = (BitVec.ofInt n a).setWidth m := by
    apply BitVec.eq_of_toInt_eq
    rw [BitVec.toInt_setWidth, BitVec.toNat_ofInt, BitVec.toInt_ofInt]
    have hd : (2 : Int) ^ m ∣ 2 ^ n := ⟨2 ^ (n - m), by rw [← Int.pow_add]; congr 1; omega⟩
    have hp : (0 : Int) < 2 ^ n := Int.pow_pos (by decide)
    have h1 : (((a % ((2 ^ n : Nat) : Int)).toNat : Nat) : Int) = a % 2 ^ n := by
      rw [show ((2 ^ n : Nat) : Int) = (2 : Int) ^ n by push_cast; rfl, Int.toNat_of_nonneg (Int.emod_nonneg _ (by omega))]
    rw [h1, Int.bmod_def, Int.bmod_def]
    rw [show ((2 ^ m : Nat) : Int) = (2 : Int) ^ m by push_cast; rfl, Int.emod_emod_of_dvd _ hd]
  rw [e, BitVec.getLsbD_setWidth]
  have : i < m := by omega
  simp [this]
theorem own_all {n : Nat} {b : BitVec n} (h0 : 0 < n) {w : World} {base : Nat} {v : Value} (hv : OwnBW w base v (bl b)) : ∃ g cap, v = .slice (some ⟨g, 0, none⟩) n cap ∧ n ≤ cap ∧ cap ≤ 9223372036854775807 ∧ (∀ m, m ≤ n → Bools w (.slice (some ⟨g, 0, none⟩) m cap) ((bl b).take m)) := by
  have hlen := bl_length b
  have hs := own_sl (show w.ownsRow base 4 1 v (bl b).length ((bl b).map Value.bool) from hv)
  rcases hv.2 with ⟨_, hx⟩ | ⟨g, cap, cur, rfl, hbg, hh, hn, hc, hss, htk⟩
  · rw [bl_length] at hx
    omega
  · obtain ⟨ao2, cap2, e, hc2, hm2, _⟩ := hs
    simp only [Value.slice.injEq] at e
    obtain ⟨-, -, rfl⟩ := e
    refine ⟨g, cap, by rw [hlen], by omega, by omega, fun m hm => ?_⟩
    have h0 : w.ownsRow base 4 1 (.slice (some ⟨g, 0, none⟩) (bl b).length cap) (bl b).length ((bl b).map Value.bool) := hv
    have h1 := own_sl (own_prefix h0 m (by omega))
    rw [Nat.mul_one, ← List.map_take] at h1
    show Sl w _ ((bl b).take m).length _
    rw [List.length_take, Nat.min_eq_left (by omega)]
    exact h1
theorem pop_next {n : Nat} (b : BitVec n) (k : Nat) : popAux (k + 1) b.toNat = popAux k b.toNat + (if b.getLsbD k = true then 1 else 0) := by
  have h1 := popAux_add k 1 b.toNat
  have h2 := popAux_add k 0 b.toNat
  have e1 : popAux 1 (b.toNat / 2 ^ k) = b.toNat / 2 ^ k % 2 := by simp [popAux]
  rw [show popAux 0 (b.toNat / 2 ^ k) = 0 from rfl, Nat.add_zero, Nat.add_zero] at h2
  rw [h1, ← h2, e1]
  have h3 := div_stepW b.toNat k
  rw [BitVec.testBit_toNat] at h3
  rw [h3]
  split <;> omega

set_option maxRecDepth 100000 in
set_option maxHeartbeats 2000000 in
theorem pone_69 (a : Int) (_ha : -9223372036854775808 ≤ a ∧ a < 9223372036854775808) (w : World) (_hT : Tabs w) :
    Calls Tryz.prog 98 #[.int .u8 69, .int .i64 a] w fun e w' => e = .returned (.tuple #[.int .i64 (tvo (decide ((BitVec.ofInt 32 a) = 0#32))), .int .i64 0]) ∧ Below w.heap.size w w' := by
  have E := o_zero32 a
  rw [← E]
  have HC := hid (fun x w' => ptruth_o x w')
  clear E _hT
  go_enter Tryz.func98, Tryz.ntmps98
  go_wp2_with (go_at_call 125; refine (HC.out _ _).mono ?_; rintro r w1 ⟨rfl, rfl⟩)
  go_ret2
  exact ⟨by first | rfl | simp, Below.refl _ _⟩

set_option maxRecDepth 100000 in
set_option maxHeartbeats 2000000 in
theorem pone_80 (a : Int) (ha : -9223372036854775808 ≤ a ∧ a < 9223372036854775808) (w : World) (_hT : Tabs w) :
    Calls Tryz.prog 98 #[.int .u8 80, .int .i64 a] w fun e w' => e = .returned (.tuple #[.int .i64 (tvo (decide ((BitVec.ofInt 64 a) = 0#64))), .int .i64 0]) ∧ Below w.heap.size w w' := by
  have E := o_zero64 a ha
  rw [← E]
  have HC := hid (fun x w' => ptruth_o x w')
  clear E _hT
  go_enter Tryz.func98, Tryz.ntmps98
  go_wp2_with (go_at_call 125; refine (HC.out _ _).mono ?_; rintro r w1 ⟨rfl, rfl⟩)
  go_ret2
  exact ⟨by first | rfl | simp, Below.refl _ _⟩

set_option maxRecDepth 100000 in
set_option maxHeartbeats 2000000 in
theorem pone_103 (a : Int) (_ha : -9223372036854775808 ≤ a ∧ a < 9223372036854775808) (w : World) (_hT : Tabs w) :
    Calls Tryz.prog 98 #[.int .u8 103, .int .i64 a] w fun e w' => e = .returned (.tuple #[.int .i64 (32 - (Lib.bitLen (BitVec.ofInt 32 a).toNat : Int)), .int .i64 0]) ∧ Below w.heap.size w w' := by
  have HC : Hid (∀ z : Int, z = ((BitVec.ofInt 32 a).toNat : Int) → Calls Tryz.prog 126 #[.int .u32 z] w fun e w2 => e = .returned (.int .i64 (32 - (Lib.bitLen (BitVec.ofInt 32 a).toNat : Int))) ∧ w2 = w) := hid (by
    rintro z rfl
    exact lz32_any _ (by have := (BitVec.ofInt 32 a).isLt; simpa only [Nat.reducePow] using this) w)
  have EN := hid (o_toNat32 a)
  clear _hT
  generalize BitVec.ofInt 32 a = b at *
  go_enter Tryz.func98, Tryz.ntmps98
  go_wp2_with (go_at_call 126; refine (HC.out _ (by first | exact EN.out | (rw [o_wp64]; exact EN.out))).mono ?_; rintro r w1 ⟨rfl, hw1⟩; subst hw1)
  go_ret2
  exact ⟨rfl, Below.refl _ _⟩

set_option maxRecDepth 100000 in
set_option maxHeartbeats 2000000 in
theorem pone_104 (a : Int) (_ha : -9223372036854775808 ≤ a ∧ a < 9223372036854775808) (w : World) (hT : Tabs w) :
    Calls Tryz.prog 98 #[.int .u8 104, .int .i64 a] w fun e w' => e = .returned (.tuple #[.int .i64 ((Lib.ctz 32 (BitVec.ofInt 32 a).toNat : Nat)), .int .i64 0]) ∧ Below w.heap.size w w' := by
  have HC : Hid (∀ z : Int, z = ((BitVec.ofInt 32 a).toNat : Int) → Calls Tryz.prog 127 #[.int .u32 z] w fun e w2 => e = .returned (.int .i64 ((Lib.ctz 32 (BitVec.ofInt 32 a).toNat : Nat))) ∧ w2 = w) := hid (by
    rintro z rfl
    exact tz32_any _ (by have := (BitVec.ofInt 32 a).isLt; simpa only [Nat.reducePow] using this) w hT)
  have EN := hid (o_toNat32 a)
  clear hT
  generalize BitVec.ofInt 32 a = b at *
  go_enter Tryz.func98, Tryz.ntmps98
  go_wp2_with (go_at_call 127; refine (HC.out _ (by first | exact EN.out | (rw [o_wp64]; exact EN.out))).mono ?_; rintro r w1 ⟨rfl, hw1⟩; subst hw1)
  go_ret2
  exact ⟨rfl, Below.refl _ _⟩

set_option maxRecDepth 100000 in
set_option maxHeartbeats 2000000 in
theorem pone_105 (a : Int) (_ha : -9223372036854775808 ≤ a ∧ a < 9223372036854775808) (w : World) (_hT : Tabs w) :
    Calls Tryz.prog 98 #[.int .u8 105, .int .i64 a] w fun e w' => e = .returned (.tuple #[.int .i64 ((popAux 32 (BitVec.ofInt 32 a).toNat : Nat)), .int .i64 0]) ∧ Below w.heap.size w w' := by
  have HC : Hid (∀ z : Int, z = ((BitVec.ofInt 32 a).toNat : Int) → Calls Tryz.prog 128 #[.int .u32 z] w fun e w2 => e = .returned (.int .i64 ((popAux 32 (BitVec.ofInt 32 a).toNat : Nat))) ∧ Below w.heap.size w w2) := hid (by
    rintro z rfl
    exact ones32_any _ (by have := (BitVec.ofInt 32 a).isLt; simpa only [Nat.reducePow] using this) w)
  have EN := hid (o_toNat32 a)
  clear _hT
  generalize BitVec.ofInt 32 a = b at *
  go_enter Tryz.func98, Tryz.ntmps98
  go_wp2_with (go_at_call 128; refine (HC.out _ (by first | exact EN.out | (rw [o_wp64]; exact EN.out))).mono ?_; rintro r w1 ⟨rfl, hw1⟩; have B1 := hid hw1; clear hw1)
  go_ret2
  exact ⟨rfl, B1.out⟩

set_option maxRecDepth 100000 in
set_option maxHeartbeats 2000000 in
theorem pone_121 (a : Int) (_ha : -9223372036854775808 ≤ a ∧ a < 9223372036854775808) (w : World) (_hT : Tabs w) :
    Calls Tryz.prog 98 #[.int .u8 121, .int .i64 a] w fun e w' => e = .returned (.tuple #[.int .i64 (64 - (Lib.bitLen (BitVec.ofInt 64 a).toNat : Int)), .int .i64 0]) ∧ Below w.heap.size w w' := by
  have HC : Hid (∀ z : Int, z = ((BitVec.ofInt 64 a).toNat : Int) → Calls Tryz.prog 129 #[.int .u64 z] w fun e w2 => e = .returned (.int .i64 (64 - (Lib.bitLen (BitVec.ofInt 64 a).toNat : Int))) ∧ w2 = w) := hid (by
    rintro z rfl
    exact lz64_any _ (by have := (BitVec.ofInt 64 a).isLt; simpa only [Nat.reducePow] using this) w)
  have EN := hid (o_toNat64 a)
  clear _hT
  generalize BitVec.ofInt 64 a = b at *
  go_enter Tryz.func98, Tryz.ntmps98
  go_wp2_with (go_at_call 129; refine (HC.out _ (by first | exact EN.out | (rw [o_wp64]; exact EN.out))).mono ?_; rintro r w1 ⟨rfl, hw1⟩; subst hw1)
  go_ret2
  exact ⟨rfl, Below.refl _ _⟩

set_option maxRecDepth 100000 in
set_option maxHeartbeats 2000000 in
theorem pone_122 (a : Int) (_ha : -9223372036854775808 ≤ a ∧ a < 9223372036854775808) (w : World) (hT : Tabs w) :
    Calls Tryz.prog 98 #[.int .u8 122, .int .i64 a] w fun e w' => e = .returned (.tuple #[.int .i64 ((Lib.ctz 64 (BitVec.ofInt 64 a).toNat : Nat)), .int .i64 0]) ∧ Below w.heap.size w w' := by
  have HC : Hid (∀ z : Int, z = ((BitVec.ofInt 64 a).toNat : Int) → Calls Tryz.prog 130 #[.int .u64 z] w fun e w2 => e = .returned (.int .i64 ((Lib.ctz 64 (BitVec.ofInt 64 a).toNat : Nat))) ∧ w2 = w) := hid (by
    rintro z rfl
    exact tz64_any _ (by have := (BitVec.ofInt 64 a).isLt; simpa only [Nat.reducePow] using this) w hT)
  have EN := hid (o_toNat64 a)
  clear hT
  generalize BitVec.ofInt 64 a = b at *
  go_enter Tryz.func98, Tryz.ntmps98
  go_wp2_with (go_at_call 130; refine (HC.out _ (by first | exact EN.out | (rw [o_wp64]; exact EN.out))).mono ?_; rintro r w1 ⟨rfl, hw1⟩; subst hw1)
  go_ret2
  exact ⟨rfl, Below.refl _ _⟩

set_option maxRecDepth 100000 in
set_option maxHeartbeats 2000000 in
theorem pone_123 (a : Int) (_ha : -9223372036854775808 ≤ a ∧ a < 9223372036854775808) (w : World) (_hT : Tabs w) :
    Calls Tryz.prog 98 #[.int .u8 123, .int .i64 a] w fun e w' => e = .returned (.tuple #[.int .i64 ((popAux 64 (BitVec.ofInt 64 a).toNat : Nat)), .int .i64 0]) ∧ Below w.heap.size w w' := by
  have HC : Hid (∀ z : Int, z = ((BitVec.ofInt 64 a).toNat : Int) → Calls Tryz.prog 131 #[.int .u64 z] w fun e w2 => e = .returned (.int .i64 ((popAux 64 (BitVec.ofInt 64 a).toNat : Nat))) ∧ w = w2) := hid (by
    rintro z rfl
    exact ones64_any _ (by have := (BitVec.ofInt 64 a).isLt; simpa only [Nat.reducePow] using this) w)
  have EN := hid (o_toNat64 a)
  clear _hT
  generalize BitVec.ofInt 64 a = b at *
  go_enter Tryz.func98, Tryz.ntmps98
  go_wp2_with (go_at_call 131; refine (HC.out _ (by first | exact EN.out | (rw [o_wp64]; exact EN.out))).mono ?_; rintro r w1 ⟨rfl, hw1⟩; subst hw1)
  go_ret2
  exact ⟨rfl, Below.refl _ _⟩

set_option maxRecDepth 100000 in
set_option maxHeartbeats 2000000 in
theorem pone_192 (a : Int) (_ha : -9223372036854775808 ≤ a ∧ a < 9223372036854775808) (w : World) (_hT : Tabs w) :
    Calls Tryz.prog 98 #[.int .u8 192, .int .i64 a] w fun e w' => e = .returned (.tuple #[.int .i64 ((BitVec.ofInt 8 a).toInt), .int .i64 0]) ∧ Below w.heap.size w w' := by
  have E := hid (o_int8 a)
  clear _hT
  generalize (BitVec.ofInt 8 a).toInt = b at *
  go_enter Tryz.func98, Tryz.ntmps98
  go_wp2_with fail
  go_ret2
  exact ⟨by rw [← E.out]; first | rfl | (congr 5; unfold wrap64; omega), Below.refl _ _⟩

set_option maxRecDepth 100000 in
set_option maxHeartbeats 2000000 in
theorem pone_193 (a : Int) (_ha : -9223372036854775808 ≤ a ∧ a < 9223372036854775808) (w : World) (_hT : Tabs w) :
    Calls Tryz.prog 98 #[.int .u8 193, .int .i64 a] w fun e w' => e = .returned (.tuple #[.int .i64 ((BitVec.ofInt 16 a).toInt), .int .i64 0]) ∧ Below w.heap.size w w' := by
  have E := hid (o_int16 a)
  clear _hT
  generalize (BitVec.ofInt 16 a).toInt = b at *
  go_enter Tryz.func98, Tryz.ntmps98
  go_wp2_with fail
  go_ret2
  exact ⟨by rw [← E.out]; first | rfl | (congr 5; unfold wrap64; omega), Below.refl _ _⟩

set_option maxRecDepth 100000 in
set_option maxHeartbeats 2000000 in
theorem pone_194 (a : Int) (_ha : -9223372036854775808 ≤ a ∧ a < 9223372036854775808) (w : World) (_hT : Tabs w) :
    Calls Tryz.prog 98 #[.int .u8 194, .int .i64 a] w fun e w' => e = .returned (.tuple #[.int .i64 ((BitVec.ofInt 8 a).toInt), .int .i64 0]) ∧ Below w.heap.size w w' := by
  have E := hid (o_int8 a)
  clear _hT
  generalize (BitVec.ofInt 8 a).toInt = b at *
  go_enter Tryz.func98, Tryz.ntmps98
  go_wp2_with fail
  go_ret2
  exact ⟨by rw [← E.out]; first | rfl | (congr 5; unfold wrap64; omega), Below.refl _ _⟩

set_option maxRecDepth 100000 in
set_option maxHeartbeats 2000000 in
theorem pone_195 (a : Int) (_ha : -9223372036854775808 ≤ a ∧ a < 9223372036854775808) (w : World) (_hT : Tabs w) :
    Calls Tryz.prog 98 #[.int .u8 195, .int .i64 a] w fun e w' => e = .returned (.tuple #[.int .i64 ((BitVec.ofInt 16 a).toInt), .int .i64 0]) ∧ Below w.heap.size w w' := by
  have E := hid (o_int16 a)
  clear _hT
  generalize (BitVec.ofInt 16 a).toInt = b at *
  go_enter Tryz.func98, Tryz.ntmps98
  go_wp2_with fail
  go_ret2
  exact ⟨by rw [← E.out]; first | rfl | (congr 5; unfold wrap64; omega), Below.refl _ _⟩

set_option maxRecDepth 100000 in
set_option maxHeartbeats 2000000 in
theorem pone_196 (a : Int) (_ha : -9223372036854775808 ≤ a ∧ a < 9223372036854775808) (w : World) (_hT : Tabs w) :
    Calls Tryz.prog 98 #[.int .u8 196, .int .i64 a] w fun e w' => e = .returned (.tuple #[.int .i64 ((BitVec.ofInt 32 a).toInt), .int .i64 0]) ∧ Below w.heap.size w w' := by
  have E := hid (o_int32 a)
  clear _hT
  generalize (BitVec.ofInt 32 a).toInt = b at *
  go_enter Tryz.func98, Tryz.ntmps98
  go_wp2_with fail
  go_ret2
  exact ⟨by rw [← E.out]; first | rfl | (congr 5; unfold wrap64; omega), Below.refl _ _⟩

set_option maxRecDepth 100000 in
set_option maxHeartbeats 2000000 in
theorem pone_167 (a : Int) (_ha : -9223372036854775808 ≤ a ∧ a < 9223372036854775808) (w : World) (_hT : Tabs w) :
    Calls Tryz.prog 98 #[.int .u8 167, .int .i64 a] w fun e w' => e = .returned (.tuple #[.int .i64 ((BitVec.ofInt 32 a).toInt), .int .i64 0]) ∧ Below w.heap.size w w' := by
  have E := hid (o_int32 a)
  clear _hT
  generalize (BitVec.ofInt 32 a).toInt = b at *
  go_enter Tryz.func98, Tryz.ntmps98
  go_wp2_with fail
  go_ret2
  exact ⟨by rw [← E.out]; first | rfl | (congr 5; unfold wrap64; omega), Below.refl _ _⟩

set_option maxRecDepth 100000 in
set_option maxHeartbeats 2000000 in
theorem pone_172 (a : Int) (_ha : -9223372036854775808 ≤ a ∧ a < 9223372036854775808) (w : World) (_hT : Tabs w) :
    Calls Tryz.prog 98 #[.int .u8 172, .int .i64 a] w fun e w' => e = .returned (.tuple #[.int .i64 ((BitVec.ofInt 32 a).toInt), .int .i64 0]) ∧ Below w.heap.size w w' := by
  have E := hid (o_int32 a)
  clear _hT
  generalize (BitVec.ofInt 32 a).toInt = b at *
  go_enter Tryz.func98, Tryz.ntmps98
  go_wp2_with fail
  go_ret2
  exact ⟨by rw [← E.out]; first | rfl | (congr 5; unfold wrap64; omega), Below.refl _ _⟩

set_option maxRecDepth 100000 in
set_option maxHeartbeats 2000000 in
theorem pone_173 (a : Int) (_ha : -9223372036854775808 ≤ a ∧ a < 9223372036854775808) (w : World) (_hT : Tabs w) :
    Calls Tryz.prog 98 #[.int .u8 173, .int .i64 a] w fun e w' => e = .returned (.tuple #[.int .i64 ((BitVec.ofInt 32 a).toNat), .int .i64 0]) ∧ Below w.heap.size w w' := by
  have E := hid (o_toNat32 a)
  clear _hT
  generalize (BitVec.ofInt 32 a) = b at *
  go_enter Tryz.func98, Tryz.ntmps98
  go_wp2_with fail
  go_ret2
  exact ⟨by rw [← E.out]; first | rfl | (congr 5; unfold wrap64; omega), Below.refl _ _⟩

set_option maxRecDepth 100000 in
set_option maxHeartbeats 2000000 in
theorem pone_none (op : Nat) (hn : op ≠ 69 ∧ op ≠ 80 ∧ op ≠ 103 ∧ op ≠ 104 ∧ op ≠ 105 ∧ op ≠ 121 ∧ op ≠ 122 ∧ op ≠ 123 ∧ op ≠ 167 ∧ op ≠ 172 ∧ op ≠ 173 ∧ op ≠ 192 ∧ op ≠ 193 ∧ op ≠ 194 ∧ op ≠ 195 ∧ op ≠ 196) (a : Int) (w : World) :
    Calls Tryz.prog 98 #[.int .u8 op, .int .i64 a] w fun e w' => e = .returned (.tuple #[.int .i64 0, .int .i64 6]) ∧ Below w.heap.size w w' := by
  have q69 : ((op : Int) == 69) = false := by simp; omega
  have q80 : ((op : Int) == 80) = false := by simp; omega
  have q103 : ((op : Int) == 103) = false := by simp; omega
  have q104 : ((op : Int) == 104) = false := by simp; omega
  have q105 : ((op : Int) == 105) = false := by simp; omega
  have q121 : ((op : Int) == 121) = false := by simp; omega
  have q122 : ((op : Int) == 122) = false := by simp; omega
  have q123 : ((op : Int) == 123) = false := by simp; omega
  have q167 : ((op : Int) == 167) = false := by simp; omega
  have q172 : ((op : Int) == 172) = false := by simp; omega
  have q173 : ((op : Int) == 173) = false := by simp; omega
  have q192 : ((op : Int) == 192) = false := by simp; omega
  have q193 : ((op : Int) == 193) = false := by simp; omega
  have q194 : ((op : Int) == 194) = false := by simp; omega
  have q195 : ((op : Int) == 195) = false := by simp; omega
  have q196 : ((op : Int) == 196) = false := by simp; omega
  clear hn
  go_enter Tryz.func98, Tryz.ntmps98
  go_wp2_with fail
  go_ret2
  exact ⟨rfl, Below.refl _ _⟩

set_option maxRecDepth 100000 in
set_option maxHeartbeats 2000000 in
theorem rone_69 (a : Int) (w : World) :
    Calls Tryz.prog 77 #[.int .u8 69, .int .i64 a] w fun e w' => e = .returned (.tuple #[.int .i64 (tvo (decide ((BitVec.ofInt 32 a) = 0#32))), .int .i64 0]) ∧ Below w.heap.size w w' := by
  have HW := hid (wordOf_any a 32 (by decide) w)
  rw [show ((32 : Nat) : Int) = 32 from rfl] at HW
  have HN := hid (fun w' v h => none_any (BitVec.ofInt 32 a) (by decide) (by decide) w' v h)
  have HT := hid (fun x w' => rtruth_o x w')
  generalize BitVec.ofInt 32 a = b at *
  go_enter Tryz.func77, Tryz.ntmps77
  go_wp2_with fail
  refine HW.out.mono ?_
  rintro r w1 ⟨v1, rfl, ho1, hb1⟩
  have B1 := hid hb1
  have L1 := hid (O1.l1 ho1)
  clear ho1 hb1
  go_wp2_with (first | (go_at_call 109; refine (HN.out _ _ L1.out).mono ?_; rintro r w2 ⟨rfl, rfl⟩) | (go_at_call 108; refine (HT.out _ _).mono ?_; rintro r w3 ⟨rfl, rfl⟩))
  go_ret2
  exact ⟨rfl, B1.out⟩

set_option maxRecDepth 100000 in
set_option maxHeartbeats 2000000 in
theorem rone_80 (a : Int) (w : World) :
    Calls Tryz.prog 77 #[.int .u8 80, .int .i64 a] w fun e w' => e = .returned (.tuple #[.int .i64 (tvo (decide ((BitVec.ofInt 64 a) = 0#64))), .int .i64 0]) ∧ Below w.heap.size w w' := by
  have HW := hid (wordOf_any a 64 (by decide) w)
  rw [show ((64 : Nat) : Int) = 64 from rfl] at HW
  have HN := hid (fun w' v h => none_any (BitVec.ofInt 64 a) (by decide) (by decide) w' v h)
  have HT := hid (fun x w' => rtruth_o x w')
  generalize BitVec.ofInt 64 a = b at *
  go_enter Tryz.func77, Tryz.ntmps77
  go_wp2_with fail
  refine HW.out.mono ?_
  rintro r w1 ⟨v1, rfl, ho1, hb1⟩
  have B1 := hid hb1
  have L1 := hid (O1.l1 ho1)
  clear ho1 hb1
  go_wp2_with (first | (go_at_call 109; refine (HN.out _ _ L1.out).mono ?_; rintro r w2 ⟨rfl, rfl⟩) | (go_at_call 108; refine (HT.out _ _).mono ?_; rintro r w3 ⟨rfl, rfl⟩))
  go_ret2
  exact ⟨rfl, B1.out⟩

set_option maxRecDepth 100000 in
set_option maxHeartbeats 2000000 in
theorem rone_103 (a : Int) (w : World) :
    Calls Tryz.prog 77 #[.int .u8 103, .int .i64 a] w fun e w' => e = .returned (.tuple #[.int .i64 (32 - (Lib.bitLen (BitVec.ofInt 32 a).toNat : Int)), .int .i64 0]) ∧ Below w.heap.size w w' := by
  have HW := hid (wordOf_any a 32 (by decide) w)
  rw [show ((32 : Nat) : Int) = 32 from rfl] at HW
  have HN := hid (fun w' v h => countDn_any (BitVec.ofInt 32 a) (by decide) (by decide) w' v h 31 (by decide))
  generalize BitVec.ofInt 32 a = b at *
  go_enter Tryz.func77, Tryz.ntmps77
  go_wp2_with fail
  refine HW.out.mono ?_
  rintro r w1 ⟨v1, rfl, ho1, hb1⟩
  have B1 := hid hb1
  have L1 := hid (O1.l1 ho1)
  clear ho1 hb1
  go_wp2_with (go_at_call 110; refine (HN.out _ _ L1.out).mono ?_; rintro r w2 ⟨rfl, rfl⟩)
  go_ret2
  exact ⟨rfl, B1.out⟩

set_option maxRecDepth 100000 in
set_option maxHeartbeats 2000000 in
theorem rone_104 (a : Int) (w : World) :
    Calls Tryz.prog 77 #[.int .u8 104, .int .i64 a] w fun e w' => e = .returned (.tuple #[.int .i64 ((Lib.ctz 32 (BitVec.ofInt 32 a).toNat : Nat)), .int .i64 0]) ∧ Below w.heap.size w w' := by
  have HW := hid (wordOf_any a 32 (by decide) w)
  rw [show ((32 : Nat) : Int) = 32 from rfl] at HW
  have HN := hid (fun w' v h => countUp_any (BitVec.ofInt 32 a) (by decide) (by decide) w' v h)
  generalize BitVec.ofInt 32 a = b at *
  go_enter Tryz.func77, Tryz.ntmps77
  go_wp2_with fail
  refine HW.out.mono ?_
  rintro r w1 ⟨v1, rfl, ho1, hb1⟩
  have B1 := hid hb1
  have L1 := hid (O1.l1 ho1)
  clear ho1 hb1
  go_wp2_with (go_at_call 110; refine (HN.out _ _ L1.out).mono ?_; rintro r w2 ⟨rfl, rfl⟩)
  go_ret2
  exact ⟨rfl, B1.out⟩

set_option maxRecDepth 100000 in
set_option maxHeartbeats 2000000 in
theorem rone_105 (a : Int) (w : World) :
    Calls Tryz.prog 77 #[.int .u8 105, .int .i64 a] w fun e w' => e = .returned (.tuple #[.int .i64 ((popAux 32 (BitVec.ofInt 32 a).toNat : Nat)), .int .i64 0]) ∧ Below w.heap.size w w' := by
  have HW := hid (wordOf_any a 32 (by decide) w)
  rw [show ((32 : Nat) : Int) = 32 from rfl] at HW
  have HT := hid (fun x w' => rtruth_o x w')
  generalize BitVec.ofInt 32 a = b at *
  generalize hR : popAux 32 b.toNat = R
  have HR := hid hR
  clear hR
  go_enter Tryz.func77, Tryz.ntmps77
  go_wp2_with fail
  refine HW.out.mono ?_
  rintro r w1 ⟨v1, rfl, ho1, hb1⟩
  have B1 := hid hb1
  obtain ⟨g, off, cap, rfl, hcap, hm, HC⟩ := bools_open _ (by decide) (O1.l1 ho1)
  clear ho1 hb1
  clear HW
  go_wp2_with fail
  go_loop [48, 8] (fun i r => ∃ k q : Nat, k ≤ 32 ∧ q ≤ k ∧ i = .int .i64 k ∧ r = .int .i64 q ∧ Hid (popAux k b.toNat = q)) (fun i _ => 32 - (RowKit.intOf i).toNat)
  case atStart => exact ⟨0, 0, by decide, by decide, rfl, rfl, hid rfl⟩
  case round =>
    obtain ⟨k, q, hk, hq, rfl, rfl, hp⟩ := hrel
    by_cases hlt : k < 32
    · have hck := HC.out k hlt
      have hn := pop_next b k
      rw [hp.out] at hn
      have hkn : (k : Int) < 32 := by omega
      cases hbt : b.getLsbD k with
      | true =>
        rw [hbt] at hck hn
        have HN := hid (show popAux (k + 1) b.toNat = q + 1 from hn)
        have ht1 : tvo true = 1 := rfl
        clear hbt hn
        go_wp2_with (go_at_call 108; refine (HT.out _ _).mono ?_; rintro r w3 ⟨rfl, rfl⟩)
        go_round
        case rel => exact ⟨k + 1, q + 1, by omega, by omega, by go_num, by go_num, HN⟩
        case measure => simp [RowKit.intOf]; omega
      | false =>
        rw [hbt] at hck hn
        have HN := hid (show popAux (k + 1) b.toNat = q from hn)
        have ht1 : tvo false = 0 := rfl
        clear hbt hn
        go_wp2_with (go_at_call 108; refine (HT.out _ _).mono ?_; rintro r w3 ⟨rfl, rfl⟩)
        go_round
        case rel => exact ⟨k + 1, q, by omega, by omega, by go_num, by go_num, HN⟩
        case measure => simp [RowKit.intOf]; omega
    · obtain rfl : k = 32 := by omega
      go_wp2_with fail
      go_ret2
      exact ⟨by rw [← HR.out, hp.out]; rfl, B1.out⟩

set_option maxRecDepth 100000 in
set_option maxHeartbeats 2000000 in
theorem rone_121 (a : Int) (w : World) :
    Calls Tryz.prog 77 #[.int .u8 121, .int .i64 a] w fun e w' => e = .returned (.tuple #[.int .i64 (64 - (Lib.bitLen (BitVec.ofInt 64 a).toNat : Int)), .int .i64 0]) ∧ Below w.heap.size w w' := by
  have HW := hid (wordOf_any a 64 (by decide) w)
  rw [show ((64 : Nat) : Int) = 64 from rfl] at HW
  have HN := hid (fun w' v h => countDn_any (BitVec.ofInt 64 a) (by decide) (by decide) w' v h 63 (by decide))
  generalize BitVec.ofInt 64 a = b at *
  go_enter Tryz.func77, Tryz.ntmps77
  go_wp2_with fail
  refine HW.out.mono ?_
  rintro r w1 ⟨v1, rfl, ho1, hb1⟩
  have B1 := hid hb1
  have L1 := hid (O1.l1 ho1)
  clear ho1 hb1
  go_wp2_with (go_at_call 110; refine (HN.out _ _ L1.out).mono ?_; rintro r w2 ⟨rfl, rfl⟩)
  go_ret2
  exact ⟨rfl, B1.out⟩

set_option maxRecDepth 100000 in
set_option maxHeartbeats 2000000 in
theorem rone_122 (a : Int) (w : World) :
    Calls Tryz.prog 77 #[.int .u8 122, .int .i64 a] w fun e w' => e = .returned (.tuple #[.int .i64 ((Lib.ctz 64 (BitVec.ofInt 64 a).toNat : Nat)), .int .i64 0]) ∧ Below w.heap.size w w' := by
  have HW := hid (wordOf_any a 64 (by decide) w)
  rw [show ((64 : Nat) : Int) = 64 from rfl] at HW
  have HN := hid (fun w' v h => countUp_any (BitVec.ofInt 64 a) (by decide) (by decide) w' v h)
  generalize BitVec.ofInt 64 a = b at *
  go_enter Tryz.func77, Tryz.ntmps77
  go_wp2_with fail
  refine HW.out.mono ?_
  rintro r w1 ⟨v1, rfl, ho1, hb1⟩
  have B1 := hid hb1
  have L1 := hid (O1.l1 ho1)
  clear ho1 hb1
  go_wp2_with (go_at_call 110; refine (HN.out _ _ L1.out).mono ?_; rintro r w2 ⟨rfl, rfl⟩)
  go_ret2
  exact ⟨rfl, B1.out⟩

set_option maxRecDepth 100000 in
set_option maxHeartbeats 2000000 in
theorem rone_123 (a : Int) (w : World) :
    Calls Tryz.prog 77 #[.int .u8 123, .int .i64 a] w fun e w' => e = .returned (.tuple #[.int .i64 ((popAux 64 (BitVec.ofInt 64 a).toNat : Nat)), .int .i64 0]) ∧ Below w.heap.size w w' := by
  have HW := hid (wordOf_any a 64 (by decide) w)
  rw [show ((64 : Nat) : Int) = 64 from rfl] at HW
  have HT := hid (fun x w' => rtruth_o x w')
  generalize BitVec.ofInt 64 a = b at *
  generalize hR : popAux 64 b.toNat = R
  have HR := hid hR
  clear hR
  go_enter Tryz.func77, Tryz.ntmps77
  go_wp2_with fail
  refine HW.out.mono ?_
  rintro r w1 ⟨v1, rfl, ho1, hb1⟩
  have B1 := hid hb1
  obtain ⟨g, off, cap, rfl, hcap, hm, HC⟩ := bools_open _ (by decide) (O1.l1 ho1)
  clear ho1 hb1
  clear HW
  go_wp2_with fail
  go_loop [48, 8] (fun i r => ∃ k q : Nat, k ≤ 64 ∧ q ≤ k ∧ i = .int .i64 k ∧ r = .int .i64 q ∧ Hid (popAux k b.toNat = q)) (fun i _ => 64 - (RowKit.intOf i).toNat)
  case atStart => exact ⟨0, 0, by decide, by decide, rfl, rfl, hid rfl⟩
  case round =>
    obtain ⟨k, q, hk, hq, rfl, rfl, hp⟩ := hrel
    by_cases hlt : k < 64
    · have hck := HC.out k hlt
      have hn := pop_next b k
      rw [hp.out] at hn
      have hkn : (k : Int) < 64 := by omega
      cases hbt : b.getLsbD k with
      | true =>
        rw [hbt] at hck hn
        have HN := hid (show popAux (k + 1) b.toNat = q + 1 from hn)
        have ht1 : tvo true = 1 := rfl
        clear hbt hn
        go_wp2_with (go_at_call 108; refine (HT.out _ _).mono ?_; rintro r w3 ⟨rfl, rfl⟩)
        go_round
        case rel => exact ⟨k + 1, q + 1, by omega, by omega, by go_num, by go_num, HN⟩
        case measure => simp [RowKit.intOf]; omega
      | false =>
        rw [hbt] at hck hn
        have HN := hid (show popAux (k + 1) b.toNat = q from hn)
        have ht1 : tvo false = 0 := rfl
        clear hbt hn
        go_wp2_with (go_at_call 108; refine (HT.out _ _).mono ?_; rintro r w3 ⟨rfl, rfl⟩)
        go_round
        case rel => exact ⟨k + 1, q, by omega, by omega, by go_num, by go_num, HN⟩
        case measure => simp [RowKit.intOf]; omega
    · obtain rfl : k = 64 := by omega
      go_wp2_with fail
      go_ret2
      exact ⟨by rw [← HR.out, hp.out]; rfl, B1.out⟩

set_option maxRecDepth 100000 in
set_option maxHeartbeats 2000000 in
theorem rone_192 (a : Int) (w : World) :
    Calls Tryz.prog 77 #[.int .u8 192, .int .i64 a] w fun e w' => e = .returned (.tuple #[.int .i64 ((BitVec.ofInt 8 a).toInt), .int .i64 0]) ∧ Below w.heap.size w w' := by
  have HW := hid (wordOf_any a 32 (by decide) w)
  rw [show ((32 : Nat) : Int) = 32 from rfl] at HW
  have HN := hid (fun w' v h => value_any (BitVec.ofInt 8 a) (by decide) (by decide) w' v h)
  have HCUT := hid (bl_cut (n := 32) (m := 8) a (by decide))
  generalize BitVec.ofInt 8 a = b at *
  generalize BitVec.ofInt 32 a = c at *
  go_enter Tryz.func77, Tryz.ntmps77
  go_wp2_with fail
  refine HW.out.mono ?_
  rintro r w1 ⟨v1, rfl, ho1, hb1⟩
  have B1 := hid hb1
  obtain ⟨g, cap, rfl, hcap, hcm, hcut⟩ := own_all (by decide) ho1
  have L1 := hid (hcut 8 (by decide))
  rw [HCUT.out] at L1
  clear ho1 hb1 hcut HW
  go_wp2_with (go_at_call 111; refine (HN.out _ _ L1.out).mono ?_; rintro r w2 ⟨rfl, rfl⟩)
  go_ret2
  exact ⟨rfl, B1.out⟩

set_option maxRecDepth 100000 in
set_option maxHeartbeats 2000000 in
theorem rone_193 (a : Int) (w : World) :
    Calls Tryz.prog 77 #[.int .u8 193, .int .i64 a] w fun e w' => e = .returned (.tuple #[.int .i64 ((BitVec.ofInt 16 a).toInt), .int .i64 0]) ∧ Below w.heap.size w w' := by
  have HW := hid (wordOf_any a 32 (by decide) w)
  rw [show ((32 : Nat) : Int) = 32 from rfl] at HW
  have HN := hid (fun w' v h => value_any (BitVec.ofInt 16 a) (by decide) (by decide) w' v h)
  have HCUT := hid (bl_cut (n := 32) (m := 16) a (by decide))
  generalize BitVec.ofInt 16 a = b at *
  generalize BitVec.ofInt 32 a = c at *
  go_enter Tryz.func77, Tryz.ntmps77
  go_wp2_with fail
  refine HW.out.mono ?_
  rintro r w1 ⟨v1, rfl, ho1, hb1⟩
  have B1 := hid hb1
  obtain ⟨g, cap, rfl, hcap, hcm, hcut⟩ := own_all (by decide) ho1
  have L1 := hid (hcut 16 (by decide))
  rw [HCUT.out] at L1
  clear ho1 hb1 hcut HW
  go_wp2_with (go_at_call 111; refine (HN.out _ _ L1.out).mono ?_; rintro r w2 ⟨rfl, rfl⟩)
  go_ret2
  exact ⟨rfl, B1.out⟩

set_option maxRecDepth 100000 in
set_option maxHeartbeats 2000000 in
theorem rone_194 (a : Int) (w : World) :
    Calls Tryz.prog 77 #[.int .u8 194, .int .i64 a] w fun e w' => e = .returned (.tuple #[.int .i64 ((BitVec.ofInt 8 a).toInt), .int .i64 0]) ∧ Below w.heap.size w w' := by
  have HW := hid (wordOf_any a 64 (by decide) w)
  rw [show ((64 : Nat) : Int) = 64 from rfl] at HW
  have HN := hid (fun w' v h => value_any (BitVec.ofInt 8 a) (by decide) (by decide) w' v h)
  have HCUT := hid (bl_cut (n := 64) (m := 8) a (by decide))
  generalize BitVec.ofInt 8 a = b at *
  generalize BitVec.ofInt 64 a = c at *
  go_enter Tryz.func77, Tryz.ntmps77
  go_wp2_with fail
  refine HW.out.mono ?_
  rintro r w1 ⟨v1, rfl, ho1, hb1⟩
  have B1 := hid hb1
  obtain ⟨g, cap, rfl, hcap, hcm, hcut⟩ := own_all (by decide) ho1
  have L1 := hid (hcut 8 (by decide))
  rw [HCUT.out] at L1
  clear ho1 hb1 hcut HW
  go_wp2_with (go_at_call 111; refine (HN.out _ _ L1.out).mono ?_; rintro r w2 ⟨rfl, rfl⟩)
  go_ret2
  exact ⟨rfl, B1.out⟩

set_option maxRecDepth 100000 in
set_option maxHeartbeats 2000000 in
theorem rone_195 (a : Int) (w : World) :
    Calls Tryz.prog 77 #[.int .u8 195, .int .i64 a] w fun e w' => e = .returned (.tuple #[.int .i64 ((BitVec.ofInt 16 a).toInt), .int .i64 0]) ∧ Below w.heap.size w w' := by
  have HW := hid (wordOf_any a 64 (by decide) w)
  rw [show ((64 : Nat) : Int) = 64 from rfl] at HW
  have HN := hid (fun w' v h => value_any (BitVec.ofInt 16 a) (by decide) (by decide) w' v h)
  have HCUT := hid (bl_cut (n := 64) (m := 16) a (by decide))
  generalize BitVec.ofInt 16 a = b at *
  generalize BitVec.ofInt 64 a = c at *
  go_enter Tryz.func77, Tryz.ntmps77
  go_wp2_with fail
  refine HW.out.mono ?_
  rintro r w1 ⟨v1, rfl, ho1, hb1⟩
  have B1 := hid hb1
  obtain ⟨g, cap, rfl, hcap, hcm, hcut⟩ := own_all (by decide) ho1
  have L1 := hid (hcut 16 (by decide))
  rw [HCUT.out] at L1
  clear ho1 hb1 hcut HW
  go_wp2_with (go_at_call 111; refine (HN.out _ _ L1.out).mono ?_; rintro r w2 ⟨rfl, rfl⟩)
  go_ret2
  exact ⟨rfl, B1.out⟩

set_option maxRecDepth 100000 in
set_option maxHeartbeats 2000000 in
theorem rone_196 (a : Int) (w : World) :
    Calls Tryz.prog 77 #[.int .u8 196, .int .i64 a] w fun e w' => e = .returned (.tuple #[.int .i64 ((BitVec.ofInt 32 a).toInt), .int .i64 0]) ∧ Below w.heap.size w w' := by
  have HW := hid (wordOf_any a 64 (by decide) w)
  rw [show ((64 : Nat) : Int) = 64 from rfl] at HW
  have HN := hid (fun w' v h => value_any (BitVec.ofInt 32 a) (by decide) (by decide) w' v h)
  have HCUT := hid (bl_cut (n := 64) (m := 32) a (by decide))
  generalize BitVec.ofInt 32 a = b at *
  generalize BitVec.ofInt 64 a = c at *
  go_enter Tryz.func77, Tryz.ntmps77
  go_wp2_with fail
  refine HW.out.mono ?_
  rintro r w1 ⟨v1, rfl, ho1, hb1⟩
  have B1 := hid hb1
  obtain ⟨g, cap, rfl, hcap, hcm, hcut⟩ := own_all (by decide) ho1
  have L1 := hid (hcut 32 (by decide))
  rw [HCUT.out] at L1
  clear ho1 hb1 hcut HW
  go_wp2_with (go_at_call 111; refine (HN.out _ _ L1.out).mono ?_; rintro r w2 ⟨rfl, rfl⟩)
  go_ret2
  exact ⟨rfl, B1.out⟩

set_option maxRecDepth 100000 in
set_option maxHeartbeats 2000000 in
theorem rone_167 (a : Int) (w : World) :
    Calls Tryz.prog 77 #[.int .u8 167, .int .i64 a] w fun e w' => e = .returned (.tuple #[.int .i64 ((BitVec.ofInt 32 a).toInt), .int .i64 0]) ∧ Below w.heap.size w w' := by
  have HW := hid (wordOf_any a 64 (by decide) w)
  rw [show ((64 : Nat) : Int) = 64 from rfl] at HW
  have HN := hid (fun w' v h => value_any (BitVec.ofInt 32 a) (by decide) (by decide) w' v h)
  have HCUT := hid (bl_cut (n := 64) (m := 32) a (by decide))
  generalize BitVec.ofInt 32 a = b at *
  generalize BitVec.ofInt 64 a = c at *
  go_enter Tryz.func77, Tryz.ntmps77
  go_wp2_with fail
  refine HW.out.mono ?_
  rintro r w1 ⟨v1, rfl, ho1, hb1⟩
  have B1 := hid hb1
  obtain ⟨g, cap, rfl, hcap, hcm, hcut⟩ := own_all (by decide) ho1
  have L1 := hid (hcut 32 (by decide))
  rw [HCUT.out] at L1
  clear ho1 hb1 hcut HW
  go_wp2_with (go_at_call 111; refine (HN.out _ _ L1.out).mono ?_; rintro r w2 ⟨rfl, rfl⟩)
  go_ret2
  exact ⟨rfl, B1.out⟩

set_option maxRecDepth 100000 in
set_option maxHeartbeats 2000000 in
theorem rone_172 (a : Int) (w : World) :
    Calls Tryz.prog 77 #[.int .u8 172, .int .i64 a] w fun e w' => e = .returned (.tuple #[.int .i64 ((BitVec.ofInt 32 a).toInt), .int .i64 0]) ∧ Below w.heap.size w w' := by
  have HW := hid (wordOf_any a 32 (by decide) w)
  rw [show ((32 : Nat) : Int) = 32 from rfl] at HW
  have HN := hid (fun w' v h => value_any (BitVec.ofInt 32 a) (by decide) (by decide) w' v h)
  have HCUT := hid (bl_cut (n := 32) (m := 32) a (by decide))
  generalize BitVec.ofInt 32 a = b at *
  go_enter Tryz.func77, Tryz.ntmps77
  go_wp2_with fail
  refine HW.out.mono ?_
  rintro r w1 ⟨v1, rfl, ho1, hb1⟩
  have B1 := hid hb1
  obtain ⟨g, cap, rfl, hcap, hcm, hcut⟩ := own_all (by decide) ho1
  have L1 := hid (hcut 32 (by decide))
  rw [HCUT.out] at L1
  clear ho1 hb1 hcut HW
  go_wp2_with (go_at_call 111; refine (HN.out _ _ L1.out).mono ?_; rintro r w2 ⟨rfl, rfl⟩)
  go_ret2
  exact ⟨rfl, B1.out⟩

set_option maxRecDepth 100000 in
set_option maxHeartbeats 2000000 in
theorem rone_173 (a : Int) (w : World) :
    Calls Tryz.prog 77 #[.int .u8 173, .int .i64 a] w fun e w' => e = .returned (.tuple #[.int .i64 ((BitVec.ofInt 32 a).toNat), .int .i64 0]) ∧ Below w.heap.size w w' := by
  have HW := hid (wordOf_any a 32 (by decide) w)
  rw [show ((32 : Nat) : Int) = 32 from rfl] at HW
  have HN := hid (fun w' v h => plain_anyW (BitVec.ofInt 32 a) (by decide) (by decide) w' v h)
  have hlt := (BitVec.ofInt 32 a).isLt
  generalize BitVec.ofInt 32 a = b at *
  go_enter Tryz.func77, Tryz.ntmps77
  go_wp2_with fail
  refine HW.out.mono ?_
  rintro r w1 ⟨v1, rfl, ho1, hb1⟩
  have B1 := hid hb1
  have L1 := hid (O1.l1 ho1)
  clear ho1 hb1
  go_wp2_with (go_at_call 112; refine (HN.out _ _ L1.out).mono ?_; rintro r w2 ⟨rfl, rfl⟩)
  go_ret2
  exact ⟨by first | rfl | (congr 5; unfold wrap64; omega), B1.out⟩

set_option maxRecDepth 100000 in
set_option maxHeartbeats 2000000 in
theorem rone_none (op : Nat) (hn : op ≠ 69 ∧ op ≠ 80 ∧ op ≠ 103 ∧ op ≠ 104 ∧ op ≠ 105 ∧ op ≠ 121 ∧ op ≠ 122 ∧ op ≠ 123 ∧ op ≠ 167 ∧ op ≠ 172 ∧ op ≠ 173 ∧ op ≠ 192 ∧ op ≠ 193 ∧ op ≠ 194 ∧ op ≠ 195 ∧ op ≠ 196) (a : Int) (w : World) :
    Calls Tryz.prog 77 #[.int .u8 op, .int .i64 a] w fun e w' => e = .returned (.tuple #[.int .i64 0, .int .i64 6]) ∧ Below w.heap.size w w' := by
  have HW := hid (wordOf_any a 64 (by decide) w)
  rw [show ((64 : Nat) : Int) = 64 from rfl] at HW
  have q69 : ((op : Int) == 69) = false := by simp; omega
  have q80 : ((op : Int) == 80) = false := by simp; omega
  have q103 : ((op : Int) == 103) = false := by simp; omega
  have q104 : ((op : Int) == 104) = false := by simp; omega
  have q105 : ((op : Int) == 105) = false := by simp; omega
  have q121 : ((op : Int) == 121) = false := by simp; omega
  have q122 : ((op : Int) == 122) = false := by simp; omega
  have q123 : ((op : Int) == 123) = false := by simp; omega
  have q167 : ((op : Int) == 167) = false := by simp; omega
  have q172 : ((op : Int) == 172) = false := by simp; omega
  have q173 : ((op : Int) == 173) = false := by simp; omega
  have q192 : ((op : Int) == 192) = false := by simp; omega
  have q193 : ((op : Int) == 193) = false := by simp; omega
  have q194 : ((op : Int) == 194) = false := by simp; omega
  have q195 : ((op : Int) == 195) = false := by simp; omega
  have q196 : ((op : Int) == 196) = false := by simp; omega
  clear hn
  go_enter Tryz.func77, Tryz.ntmps77
  go_wp2_with fail
  refine HW.out.mono ?_
  rintro r w1 ⟨v1, rfl, ho1, hb1⟩
  have B1 := hid hb1
  clear ho1 hb1
  go_wp2_with fail
  go_ret2
  exact ⟨rfl, B1.out⟩
end Go.Proofs.YtakfineljffoaaaGreatDoor
