/-
  INSTRUCTIONS OF ONE NUMBER, both sides. Condition: math/bits' two tables hold what the library's text lays.
-/
import Derived.Test.YtomaiolhaenmhaaDoorOnw
import Derived.Test.YtomaiolhaenmhaaDoorFit
import Derived.Test.YtomaiolhaenmhaaDoorShelf
namespace Go.Proofs.YtomaiolhaenmhaaDoor
open Go.RowKit Go.Lib

def tvo (b : Bool) : Int := if b = true then 1 else 0
theorem rtruth_o (b : Bool) (w : World) : Calls Tryd.prog 27 #[.bool b] w fun e w' => e = .returned (.int .i64 (tvo b)) ∧ w = w' := by
  cases b
  · go_enter Tryd.func27, Tryd.ntmps27
    go_wp2_with fail
    go_ret
    exact ⟨rfl, rfl⟩
  · go_enter Tryd.func27, Tryd.ntmps27
    go_wp2_with fail
    go_ret
    exact ⟨rfl, rfl⟩
theorem ptruth_o (b : Bool) (w : World) : Calls Tryd.prog 19 #[.bool b] w fun e w' => e = .returned (.int .i64 (tvo b)) ∧ w = w' := by
  cases b
  · go_enter Tryd.func19, Tryd.ntmps19
    go_wp2_with fail
    go_ret
    exact ⟨rfl, rfl⟩
  · go_enter Tryd.func19, Tryd.ntmps19
    go_wp2_with fail
    go_ret
    exact ⟨rfl, rfl⟩
/-- the two tables of math/bits -/
def Tabs (w : World) : Prop := TabAt 2 deBruijn32tab w ∧ TabAt 3 deBruijn64tab w
theorem tabAt_below {g : Nat} {tab : List Nat} {w w' : World} (h : TabAt g tab w) (hb : Below w.heap.size w w') : TabAt g tab w' := by
  intro j hj
  have hc := h j hj
  have hlt : g < w.heap.size := by
    rcases Nat.lt_or_ge g w.heap.size with h' | h'
    · exact h'
    · simp [World.cell?, Array.getElem?_eq_none h'] at hc
  exact (hb.cell hlt).trans hc
theorem Tabs.below {w w' : World} (h : Tabs w) (hb : Below w.heap.size w w') : Tabs w' := ⟨tabAt_below h.1 hb, tabAt_below h.2 hb⟩
theorem lz32_any (x : Nat) (hx : x < 4294967296) (w : World) : Calls Tryd.prog 20 #[.int .u32 x] w fun e w' => e = .returned (.int .i64 (32 - (Lib.bitLen x : Int))) ∧ w' = w :=
  (Tryd.bits_LeadingZeros32 x w (by omega) (by omega)).mono (by rintro e w' ⟨rfl, rfl⟩; rw [Int.toNat_natCast]; exact ⟨rfl, rfl⟩)
theorem lz64_any (x : Nat) (hx : x < 18446744073709551616) (w : World) : Calls Tryd.prog 23 #[.int .u64 x] w fun e w' => e = .returned (.int .i64 (64 - (Lib.bitLen x : Int))) ∧ w' = w :=
  (Tryd.bits_LeadingZeros64 x w (by omega) (by omega)).mono (by rintro e w' ⟨rfl, rfl⟩; rw [Int.toNat_natCast]; exact ⟨rfl, rfl⟩)
theorem tz32_any (x : Nat) (hx : x < 4294967296) (w : World) (hT : Tabs w) : Calls Tryd.prog 21 #[.int .u32 x] w fun e w' => e = .returned (.int .i64 (Lib.ctz 32 x)) ∧ w' = w :=
  Any7.bits_TrailingZeros32 Tryd.lays28 x hx w (fun _ => hT.1)
theorem tz64_any (x : Nat) (hx : x < 18446744073709551616) (w : World) (hT : Tabs w) : Calls Tryd.prog 24 #[.int .u64 x] w fun e w' => e = .returned (.int .i64 (Lib.ctz 64 x)) ∧ w' = w :=
  Any7.bits_TrailingZeros64 Tryd.lays29 x hx w (fun _ => hT.2)

theorem o_toNat32 (a : Int) : a % 4294967296 = ((BitVec.ofInt 32 a).toNat : Int) := by
  rw [BitVec.toNat_ofInt]
  simp only [Nat.reducePow]
  omega
theorem o_toNat64 (a : Int) : a % 18446744073709551616 = ((BitVec.ofInt 64 a).toNat : Int) := by
  rw [BitVec.toNat_ofInt]
  simp only [Nat.reducePow]
  omega
theorem o_wp64 (z : Int) : IntKind.u64.wrap z = z % 18446744073709551616 := by simp [IntKind.wrap, IntKind.bits, IntKind.signed]
theorem o_zero32 (a : Int) : (wrap32 a == 0) = decide (BitVec.ofInt 32 a = 0#32) := by
  rw [Bool.eq_iff_iff, beq_iff_eq, decide_eq_true_iff]
  constructor
  · intro h
    apply BitVec.eq_of_toNat_eq
    have := o_toNat32 a
    unfold wrap32 at h
    simp
    omega
  · intro h
    have h2 := o_toNat32 a
    rw [h] at h2
    unfold wrap32
    simp at h2
    omega
theorem o_zero64 (a : Int) (h : -9223372036854775808 ≤ a ∧ a < 9223372036854775808) : (a == 0) = decide (BitVec.ofInt 64 a = 0#64) := by
  rw [Bool.eq_iff_iff, beq_iff_eq, decide_eq_true_iff]
  constructor
  · rintro rfl; rfl
  · intro h3
    have h2 := o_toNat64 a
    rw [h3] at h2
    simp at h2
    omega
theorem o_int8 (a : Int) : wrap64 (IntKind.i8.wrap a) = (BitVec.ofInt 8 a).toInt := by
  rw [BitVec.toInt_ofInt, Int.bmod_def]
  have e : IntKind.i8.wrap a = if a % 256 ≥ 128 then a % 256 - 256 else a % 256 := by simp [IntKind.wrap, IntKind.bits, IntKind.signed]
  rw [e]
  unfold wrap64
  simp only [Nat.reducePow]
  split <;> split <;> omega
theorem o_int16 (a : Int) : wrap64 (IntKind.i16.wrap a) = (BitVec.ofInt 16 a).toInt := by
  rw [BitVec.toInt_ofInt, Int.bmod_def]
  have e : IntKind.i16.wrap a = if a % 65536 ≥ 32768 then a % 65536 - 65536 else a % 65536 := by simp [IntKind.wrap, IntKind.bits, IntKind.signed]
  rw [e]
  unfold wrap64
  simp only [Nat.reducePow]
  split <;> split <;> omega
theorem o_int32 (a : Int) : wrap64 (wrap32 a) = (BitVec.ofInt 32 a).toInt := by
  rw [BitVec.toInt_ofInt, Int.bmod_def]
  unfold wrap64 wrap32
  simp only [Nat.reducePow]
  split <;> omega
theorem bl_cut {n m : Nat} (a : Int) (h : m ≤ n) : (bl (BitVec.ofInt n a)).take m = bl (BitVec.ofInt m a) := by
  apply bl_eq (by rw [List.length_take, bl_length]; omega)
  intro i hi
  rw [List.length_take, bl_length] at hi
  rw [List.getElem_take, bl_get]
  have e : BitVec.ofInt m a = (BitVec.ofInt n a).setWidth m := by
    apply BitVec.eq_of_toInt_eq
    rw [BitVec.toInt_setWidth, BitVec.toNat_ofInt, BitVec.toInt_ofInt]
    have hd : (2 : Int) ^ m ∣ 2 ^ n := ⟨2 ^ (n - m), by rw [← Int.pow_add]; congr 1; omega⟩
    have hp : (0 : Int) < 2 ^ n := Int.pow_pos (by decide)
    have h1 : (((a % ((2 ^ n : Nat) : Int)).toNat : Nat) : Int) = a % 2 ^ n := by
      rw [show ((2 ^ n : Nat) : Int) = (2 : Int) ^ n by push_cast; rfl, Int.toNat_of_nonneg (Int.emod_nonneg _ (by omega))]
    rw [h1, Int.bmod_def, Int.bmod_def]
    rw [show ((2 ^ m : Nat) : Int) = (2 : Int) ^ m by push_cast; rfl, Int.emod_emod_of_dvd _ hd]
  rw [e, BitVec.getLsbD_setWidth]
  have : i < m := by omega
  simp [this]
theorem own_all {n : Nat} {b : BitVec n} (h0 : 0 < n) {w : World} {base : Nat} {v : Value} (hv : OwnB w base v (bl b)) : ∃ g cap, v = .slice (some ⟨g, 0, none⟩) n cap ∧ n ≤ cap ∧ cap ≤ 9223372036854775807 ∧ (∀ m, m ≤ n → Bools w (.slice (some ⟨g, 0, none⟩) m cap) ((bl b).take m)) := by
  have hlen := bl_length b
  have hs := own_sl (show w.ownsRow base 4 1 v (bl b).length ((bl b).map Value.bool) from hv)
  rcases hv.2 with ⟨_, hx⟩ | ⟨g, cap, cur, rfl, hbg, hh, hn, hc, hss, htk⟩
  · rw [bl_length] at hx
    omega
  · obtain ⟨ao2, cap2, e, hc2, hm2, _⟩ := hs
    simp only [Value.slice.injEq] at e
    obtain ⟨-, -, rfl⟩ := e
    refine ⟨g, cap, by rw [hlen], by omega, by omega, fun m hm => ?_⟩
    have h0 : w.ownsRow base 4 1 (.slice (some ⟨g, 0, none⟩) (bl b).length cap) (bl b).length ((bl b).map Value.bool) := hv
    have h1 := own_sl (own_prefix h0 m (by omega))
    rw [Nat.mul_one, ← List.map_take] at h1
    show Sl w _ ((bl b).take m).length _
    rw [List.length_take, Nat.min_eq_left (by omega)]
    exact h1
theorem pop_next {n : Nat} (b : BitVec n) (k : Nat) : popAux (k + 1) b.toNat = popAux k b.toNat + (if b.getLsbD k = true then 1 else 0) := by
  have h1 := popAux_add k 1 b.toNat
  have h2 := popAux_add k 0 b.toNat
  have e1 : popAux 1 (b.toNat / 2 ^ k) = b.toNat / 2 ^ k % 2 := by simp [popAux]
  rw [show popAux 0 (b.toNat / 2 ^ k) = 0 from rfl, Nat.add_zero, Nat.add_zero] at h2
  rw [h1, ← h2, e1]
  have h3 := div_step b.toNat k
  rw [BitVec.testBit_toNat] at h3
  rw [h3]
  split <;> omega

set_option maxRecDepth 100000 in
set_option maxHeartbeats 2000000 in
theorem pone_69 (a : Int) (ha : -9223372036854775808 ≤ a ∧ a < 9223372036854775808) (w : World) (hT : Tabs w) :
    Calls Tryd.prog 9 #[.int .u8 69, .int .i64 a] w fun e w' => e = .returned (.tuple #[.int .i64 (tvo (decide ((BitVec.ofInt 32 a) = 0#32))), .int .i64 0]) ∧ Below w.heap.size w w' := by
  have E := o_zero32 a
  rw [← E]
  have HC := hid (fun x w' => ptruth_o x w')
  clear E hT
  go_enter Tryd.func9, Tryd.ntmps9
  go_wp2_with (go_at_call 19; refine (HC.out _ _).mono ?_; rintro r w1 ⟨rfl, rfl⟩)
  go_ret2
  exact ⟨by first | rfl | simp, Below.refl _ _⟩

set_option maxRecDepth 100000 in
set_option maxHeartbeats 2000000 in
theorem pone_80 (a : Int) (ha : -9223372036854775808 ≤ a ∧ a < 9223372036854775808) (w : World) (hT : Tabs w) :
    Calls Tryd.prog 9 #[.int .u8 80, .int .i64 a] w fun e w' => e = .returned (.tuple #[.int .i64 (tvo (decide ((BitVec.ofInt 64 a) = 0#64))), .int .i64 0]) ∧ Below w.heap.size w w' := by
  have E := o_zero64 a ha
  rw [← E]
  have HC := hid (fun x w' => ptruth_o x w')
  clear E hT
  go_enter Tryd.func9, Tryd.ntmps9
  go_wp2_with (go_at_call 19; refine (HC.out _ _).mono ?_; rintro r w1 ⟨rfl, rfl⟩)
  go_ret2
  exact ⟨by first | rfl | simp, Below.refl _ _⟩

set_option maxRecDepth 100000 in
set_option maxHeartbeats 2000000 in
theorem pone_103 (a : Int) (ha : -9223372036854775808 ≤ a ∧ a < 9223372036854775808) (w : World) (hT : Tabs w) :
    Calls Tryd.prog 9 #[.int .u8 103, .int .i64 a] w fun e w' => e = .returned (.tuple #[.int .i64 (32 - (Lib.bitLen (BitVec.ofInt 32 a).toNat : Int)), .int .i64 0]) ∧ Below w.heap.size w w' := by
  have HC : Hid (∀ z : Int, z = ((BitVec.ofInt 32 a).toNat : Int) → Calls Tryd.prog 20 #[.int .u32 z] w fun e w2 => e = .returned (.int .i64 (32 - (Lib.bitLen (BitVec.ofInt 32 a).toNat : Int))) ∧ w2 = w) := hid (by
    rintro z rfl
    exact lz32_any _ (by have := (BitVec.ofInt 32 a).isLt; simpa only [Nat.reducePow] using this) w)
  have EN := hid (o_toNat32 a)
  clear hT
  generalize BitVec.ofInt 32 a = b at *
  go_enter Tryd.func9, Tryd.ntmps9
  go_wp2_with (go_at_call 20; refine (HC.out _ (by first | exact EN.out | (rw [o_wp64]; exact EN.out))).mono ?_; rintro r w1 ⟨rfl, hw1⟩; subst hw1)
  go_ret2
  exact ⟨rfl, Below.refl _ _⟩

set_option maxRecDepth 100000 in
set_option maxHeartbeats 2000000 in
theorem pone_104 (a : Int) (ha : -9223372036854775808 ≤ a ∧ a < 9223372036854775808) (w : World) (hT : Tabs w) :
    Calls Tryd.prog 9 #[.int .u8 104, .int .i64 a] w fun e w' => e = .returned (.tuple #[.int .i64 ((Lib.ctz 32 (BitVec.ofInt 32 a).toNat : Nat)), .int .i64 0]) ∧ Below w.heap.size w w' := by
  have HC : Hid (∀ z : Int, z = ((BitVec.ofInt 32 a).toNat : Int) → Calls Tryd.prog 21 #[.int .u32 z] w fun e w2 => e = .returned (.int .i64 ((Lib.ctz 32 (BitVec.ofInt 32 a).toNat : Nat))) ∧ w2 = w) := hid (by
    rintro z rfl
    exact tz32_any _ (by have := (BitVec.ofInt 32 a).isLt; simpa only [Nat.reducePow] using this) w hT)
  have EN := hid (o_toNat32 a)
  clear hT
  generalize BitVec.ofInt 32 a = b at *
  go_enter Tryd.func9, Tryd.ntmps9
  go_wp2_with (go_at_call 21; refine (HC.out _ (by first | exact EN.out | (rw [o_wp64]; exact EN.out))).mono ?_; rintro r w1 ⟨rfl, hw1⟩; subst hw1)
  go_ret2
  exact ⟨rfl, Below.refl _ _⟩

set_option maxRecDepth 100000 in
set_option maxHeartbeats 2000000 in
theorem pone_105 (a : Int) (ha : -9223372036854775808 ≤ a ∧ a < 9223372036854775808) (w : World) (hT : Tabs w) :
    Calls Tryd.prog 9 #[.int .u8 105, .int .i64 a] w fun e w' => e = .returned (.tuple #[.int .i64 ((popAux 32 (BitVec.ofInt 32 a).toNat : Nat)), .int .i64 0]) ∧ Below w.heap.size w w' := by
  have HC : Hid (∀ z : Int, z = ((BitVec.ofInt 32 a).toNat : Int) → Calls Tryd.prog 22 #[.int .u32 z] w fun e w2 => e = .returned (.int .i64 ((popAux 32 (BitVec.ofInt 32 a).toNat : Nat))) ∧ Below w.heap.size w w2) := hid (by
    rintro z rfl
    exact ones32_any _ (by have := (BitVec.ofInt 32 a).isLt; simpa only [Nat.reducePow] using this) w)
  have EN := hid (o_toNat32 a)
  clear hT
  generalize BitVec.ofInt 32 a = b at *
  go_enter Tryd.func9, Tryd.ntmps9
  go_wp2_with (go_at_call 22; refine (HC.out _ (by first | exact EN.out | (rw [o_wp64]; exact EN.out))).mono ?_; rintro r w1 ⟨rfl, hw1⟩; have B1 := hid hw1; clear hw1)
  go_ret2
  exact ⟨rfl, B1.out⟩

set_option maxRecDepth 100000 in
set_option maxHeartbeats 2000000 in
theorem pone_121 (a : Int) (ha : -9223372036854775808 ≤ a ∧ a < 9223372036854775808) (w : World) (hT : Tabs w) :
    Calls Tryd.prog 9 #[.int .u8 121, .int .i64 a] w fun e w' => e = .returned (.tuple #[.int .i64 (64 - (Lib.bitLen (BitVec.ofInt 64 a).toNat : Int)), .int .i64 0]) ∧ Below w.heap.size w w' := by
  have HC : Hid (∀ z : Int, z = ((BitVec.ofInt 64 a).toNat : Int) → Calls Tryd.prog 23 #[.int .u64 z] w fun e w2 => e = .returned (.int .i64 (64 - (Lib.bitLen (BitVec.ofInt 64 a).toNat : Int))) ∧ w2 = w) := hid (by
    rintro z rfl
    exact lz64_any _ (by have := (BitVec.ofInt 64 a).isLt; simpa only [Nat.reducePow] using this) w)
  have EN := hid (o_toNat64 a)
  clear hT
  generalize BitVec.ofInt 64 a = b at *
  go_enter Tryd.func9, Tryd.ntmps9
  go_wp2_with (go_at_call 23; refine (HC.out _ (by first | exact EN.out | (rw [o_wp64]; exact EN.out))).mono ?_; rintro r w1 ⟨rfl, hw1⟩; subst hw1)
  go_ret2
  exact ⟨rfl, Below.refl _ _⟩

set_option maxRecDepth 100000 in
set_option maxHeartbeats 2000000 in
theorem pone_122 (a : Int) (ha : -9223372036854775808 ≤ a ∧ a < 9223372036854775808) (w : World) (hT : Tabs w) :
    Calls Tryd.prog 9 #[.int .u8 122, .int .i64 a] w fun e w' => e = .returned (.tuple #[.int .i64 ((Lib.ctz 64 (BitVec.ofInt 64 a).toNat : Nat)), .int .i64 0]) ∧ Below w.heap.size w w' := by
  have HC : Hid (∀ z : Int, z = ((BitVec.ofInt 64 a).toNat : Int) → Calls Tryd.prog 24 #[.int .u64 z] w fun e w2 => e = .returned (.int .i64 ((Lib.ctz 64 (BitVec.ofInt 64 a).toNat : Nat))) ∧ w2 = w) := hid (by
    rintro z rfl
    exact tz64_any _ (by have := (BitVec.ofInt 64 a).isLt; simpa only [Nat.reducePow] using this) w hT)
  have EN := hid (o_toNat64 a)
  clear hT
  generalize BitVec.ofInt 64 a = b at *
  go_enter Tryd.func9, Tryd.ntmps9
  go_wp2_with (go_at_call 24; refine (HC.out _ (by first | exact EN.out | (rw [o_wp64]; exact EN.out))).mono ?_; rintro r w1 ⟨rfl, hw1⟩; subst hw1)
  go_ret2
  exact ⟨rfl, Below.refl _ _⟩

set_option maxRecDepth 100000 in
set_option maxHeartbeats 2000000 in
theorem pone_123 (a : Int) (ha : -9223372036854775808 ≤ a ∧ a < 9223372036854775808) (w : World) (hT : Tabs w) :
    Calls Tryd.prog 9 #[.int .u8 123, .int .i64 a] w fun e w' => e = .returned (.tuple #[.int .i64 ((popAux 64 (BitVec.ofInt 64 a).toNat : Nat)), .int .i64 0]) ∧ Below w.heap.size w w' := by
  have HC : Hid (∀ z : Int, z = ((BitVec.ofInt 64 a).toNat : Int) → Calls Tryd.prog 25 #[.int .u64 z] w fun e w2 => e = .returned (.int .i64 ((popAux 64 (BitVec.ofInt 64 a).toNat : Nat))) ∧ w = w2) := hid (by
    rintro z rfl
    exact ones64_any _ (by have := (BitVec.ofInt 64 a).isLt; simpa only [Nat.reducePow] using this) w)
  have EN := hid (o_toNat64 a)
  clear hT
  generalize BitVec.ofInt 64 a = b at *
  go_enter Tryd.func9, Tryd.ntmps9
  go_wp2_with (go_at_call 25; refine (HC.out _ (by first | exact EN.out | (rw [o_wp64]; exact EN.out))).mono ?_; rintro r w1 ⟨rfl, hw1⟩; subst hw1)
  go_ret2
  exact ⟨rfl, Below.refl _ _⟩

set_option maxRecDepth 100000 in
set_option maxHeartbeats 2000000 in
theorem pone_192 (a : Int) (ha : -9223372036854775808 ≤ a ∧ a < 9223372036854775808) (w : World) (hT : Tabs w) :
    Calls Tryd.prog 9 #[.int .u8 192, .int .i64 a] w fun e w' => e = .returned (.tuple #[.int .i64 ((BitVec.ofInt 8 a).toInt), .int .i64 0]) ∧ Below w.heap.size w w' := by
  have E := hid (o_int8 a)
  clear hT
  generalize (BitVec.ofInt 8 a).toInt = b at *
  go_enter Tryd.func9, Tryd.ntmps9
  go_wp2_with fail
  go_ret2
  exact ⟨by rw [← E.out]; first | rfl | (congr 5; unfold wrap64; omega), Below.refl _ _⟩

set_option maxRecDepth 100000 in
set_option maxHeartbeats 2000000 in
theorem pone_193 (a : Int) (ha : -9223372036854775808 ≤ a ∧ a < 9223372036854775808) (w : World) (hT : Tabs w) :
    Calls Tryd.prog 9 #[.int .u8 193, .int .i64 a] w fun e w' => e = .returned (.tuple #[.int .i64 ((BitVec.ofInt 16 a).toInt), .int .i64 0]) ∧ Below w.heap.size w w' := by
  have E := hid (o_int16 a)
  clear hT
  generalize (BitVec.ofInt 16 a).toInt = b at *
  go_enter Tryd.func9, Tryd.ntmps9
  go_wp2_with fail
  go_ret2
  exact ⟨by rw [← E.out]; first | rfl | (congr 5; unfold wrap64; omega), Below.refl _ _⟩

set_option maxRecDepth 100000 in
set_option maxHeartbeats 2000000 in
theorem pone_194 (a : Int) (ha : -9223372036854775808 ≤ a ∧ a < 9223372036854775808) (w : World) (hT : Tabs w) :
    Calls Tryd.prog 9 #[.int .u8 194, .int .i64 a] w fun e w' => e = .returned (.tuple #[.int .i64 ((BitVec.ofInt 8 a).toInt), .int .i64 0]) ∧ Below w.heap.size w w' := by
  have E := hid (o_int8 a)
  clear hT
  generalize (BitVec.ofInt 8 a).toInt = b at *
  go_enter Tryd.func9, Tryd.ntmps9
  go_wp2_with fail
  go_ret2
  exact ⟨by rw [← E.out]; first | rfl | (congr 5; unfold wrap64; omega), Below.refl _ _⟩

set_option maxRecDepth 100000 in
set_option maxHeartbeats 2000000 in
theorem pone_195 (a : Int) (ha : -9223372036854775808 ≤ a ∧ a < 9223372036854775808) (w : World) (hT : Tabs w) :
    Calls Tryd.prog 9 #[.int .u8 195, .int .i64 a] w fun e w' => e = .returned (.tuple #[.int .i64 ((BitVec.ofInt 16 a).toInt), .int .i64 0]) ∧ Below w.heap.size w w' := by
  have E := hid (o_int16 a)
  clear hT
  generalize (BitVec.ofInt 16 a).toInt = b at *
  go_enter Tryd.func9, Tryd.ntmps9
  go_wp2_with fail
  go_ret2
  exact ⟨by rw [← E.out]; first | rfl | (congr 5; unfold wrap64; omega), Below.refl _ _⟩

set_option maxRecDepth 100000 in
set_option maxHeartbeats 2000000 in
theorem pone_196 (a : Int) (ha : -9223372036854775808 ≤ a ∧ a < 9223372036854775808) (w : World) (hT : Tabs w) :
    Calls Tryd.prog 9 #[.int .u8 196, .int .i64 a] w fun e w' => e = .returned (.tuple #[.int .i64 ((BitVec.ofInt 32 a).toInt), .int .i64 0]) ∧ Below w.heap.size w w' := by
  have E := hid (o_int32 a)
  clear hT
  generalize (BitVec.ofInt 32 a).toInt = b at *
  go_enter Tryd.func9, Tryd.ntmps9
  go_wp2_with fail
  go_ret2
  exact ⟨by rw [← E.out]; first | rfl | (congr 5; unfold wrap64; omega), Below.refl _ _⟩

set_option maxRecDepth 100000 in
set_option maxHeartbeats 2000000 in
theorem pone_167 (a : Int) (ha : -9223372036854775808 ≤ a ∧ a < 9223372036854775808) (w : World) (hT : Tabs w) :
    Calls Tryd.prog 9 #[.int .u8 167, .int .i64 a] w fun e w' => e = .returned (.tuple #[.int .i64 ((BitVec.ofInt 32 a).toInt), .int .i64 0]) ∧ Below w.heap.size w w' := by
  have E := hid (o_int32 a)
  clear hT
  generalize (BitVec.ofInt 32 a).toInt = b at *
  go_enter Tryd.func9, Tryd.ntmps9
  go_wp2_with fail
  go_ret2
  exact ⟨by rw [← E.out]; first | rfl | (congr 5; unfold wrap64; omega), Below.refl _ _⟩

set_option maxRecDepth 100000 in
set_option maxHeartbeats 2000000 in
theorem pone_172 (a : Int) (ha : -9223372036854775808 ≤ a ∧ a < 9223372036854775808) (w : World) (hT : Tabs w) :
    Calls Tryd.prog 9 #[.int .u8 172, .int .i64 a] w fun e w' => e = .returned (.tuple #[.int .i64 ((BitVec.ofInt 32 a).toInt), .int .i64 0]) ∧ Below w.heap.size w w' := by
  have E := hid (o_int32 a)
  clear hT
  generalize (BitVec.ofInt 32 a).toInt = b at *
  go_enter Tryd.func9, Tryd.ntmps9
  go_wp2_with fail
  go_ret2
  exact ⟨by rw [← E.out]; first | rfl | (congr 5; unfold wrap64; omega), Below.refl _ _⟩

set_option maxRecDepth 100000 in
set_option maxHeartbeats 2000000 in
theorem pone_173 (a : Int) (ha : -9223372036854775808 ≤ a ∧ a < 9223372036854775808) (w : World) (hT : Tabs w) :
    Calls Tryd.prog 9 #[.int .u8 173, .int .i64 a] w fun e w' => e = .returned (.tuple #[.int .i64 ((BitVec.ofInt 32 a).toNat), .int .i64 0]) ∧ Below w.heap.size w w' := by
  have E := hid (o_toNat32 a)
  clear hT
  generalize (BitVec.ofInt 32 a) = b at *
  go_enter Tryd.func9, Tryd.ntmps9
  go_wp2_with fail
  go_ret2
  exact ⟨by rw [← E.out]; first | rfl | (congr 5; unfold wrap64; omega), Below.refl _ _⟩

set_option maxRecDepth 100000 in
set_option maxHeartbeats 2000000 in
theorem pone_none (op : Nat) (hn : op ≠ 69 ∧ op ≠ 80 ∧ op ≠ 103 ∧ op ≠ 104 ∧ op ≠ 105 ∧ op ≠ 121 ∧ op ≠ 122 ∧ op ≠ 123 ∧ op ≠ 167 ∧ op ≠ 172 ∧ op ≠ 173 ∧ op ≠ 192 ∧ op ≠ 193 ∧ op ≠ 194 ∧ op ≠ 195 ∧ op ≠ 196) (a : Int) (w : World) :
    Calls Tryd.prog 9 #[.int .u8 op, .int .i64 a] w fun e w' => e = .returned (.tuple #[.int .i64 0, .int .i64 6]) ∧ Below w.heap.size w w' := by
  have q69 : ((op : Int) == 69) = false := by simp; omega
  have q80 : ((op : Int) == 80) = false := by simp; omega
  have q103 : ((op : Int) == 103) = false := by simp; omega
  have q104 : ((op : Int) == 104) = false := by simp; omega
  have q105 : ((op : Int) == 105) = false := by simp; omega
  have q121 : ((op : Int) == 121) = false := by simp; omega
  have q122 : ((op : Int) == 122) = false := by simp; omega
  have q123 : ((op : Int) == 123) = false := by simp; omega
  have q167 : ((op : Int) == 167) = false := by simp; omega
  have q172 : ((op : Int) == 172) = false := by simp; omega
  have q173 : ((op : Int) == 173) = false := by simp; omega
  have q192 : ((op : Int) == 192) = false := by simp; omega
  have q193 : ((op : Int) == 193) = false := by simp; omega
  have q194 : ((op : Int) == 194) = false := by simp; omega
  have q195 : ((op : Int) == 195) = false := by simp; omega
  have q196 : ((op : Int) == 196) = false := by simp; omega
  clear hn
  go_enter Tryd.func9, Tryd.ntmps9
  go_wp2_with fail
  go_ret2
  exact ⟨rfl, Below.refl _ _⟩

set_option maxRecDepth 100000 in
set_option maxHeartbeats 2000000 in
theorem rone_69 (a : Int) (w : World) :
    Calls Tryd.prog 10 #[.int .u8 69, .int .i64 a] w fun e w' => e = .returned (.tuple #[.int .i64 (tvo (decide ((BitVec.ofInt 32 a) = 0#32))), .int .i64 0]) ∧ Below w.heap.size w w' := by
  have HW := hid (wordOf_any a 32 (by decide) w)
  rw [show ((32 : Nat) : Int) = 32 from rfl] at HW
  have HN := hid (fun w' v h => none_any (BitVec.ofInt 32 a) (by decide) (by decide) w' v h)
  have HT := hid (fun x w' => rtruth_o x w')
  generalize BitVec.ofInt 32 a = b at *
  go_enter Tryd.func10, Tryd.ntmps10
  go_wp2_with fail
  refine HW.out.mono ?_
  rintro r w1 ⟨v1, rfl, ho1, hb1⟩
  have B1 := hid hb1
  have L1 := hid (O1.l1 ho1)
  clear ho1 hb1
  go_wp2_with (first | (go_at_call 28; refine (HN.out _ _ L1.out).mono ?_; rintro r w2 ⟨rfl, rfl⟩) | (go_at_call 27; refine (HT.out _ _).mono ?_; rintro r w3 ⟨rfl, rfl⟩))
  go_ret2
  exact ⟨rfl, B1.out⟩

set_option maxRecDepth 100000 in
set_option maxHeartbeats 2000000 in
theorem rone_80 (a : Int) (w : World) :
    Calls Tryd.prog 10 #[.int .u8 80, .int .i64 a] w fun e w' => e = .returned (.tuple #[.int .i64 (tvo (decide ((BitVec.ofInt 64 a) = 0#64))), .int .i64 0]) ∧ Below w.heap.size w w' := by
  have HW := hid (wordOf_any a 64 (by decide) w)
  rw [show ((64 : Nat) : Int) = 64 from rfl] at HW
  have HN := hid (fun w' v h => none_any (BitVec.ofInt 64 a) (by decide) (by decide) w' v h)
  have HT := hid (fun x w' => rtruth_o x w')
  generalize BitVec.ofInt 64 a = b at *
  go_enter Tryd.func10, Tryd.ntmps10
  go_wp2_with fail
  refine HW.out.mono ?_
  rintro r w1 ⟨v1, rfl, ho1, hb1⟩
  have B1 := hid hb1
  have L1 := hid (O1.l1 ho1)
  clear ho1 hb1
  go_wp2_with (first | (go_at_call 28; refine (HN.out _ _ L1.out).mono ?_; rintro r w2 ⟨rfl, rfl⟩) | (go_at_call 27; refine (HT.out _ _).mono ?_; rintro r w3 ⟨rfl, rfl⟩))
  go_ret2
  exact ⟨rfl, B1.out⟩

set_option maxRecDepth 100000 in
set_option maxHeartbeats 2000000 in
theorem rone_103 (a : Int) (w : World) :
    Calls Tryd.prog 10 #[.int .u8 103, .int .i64 a] w fun e w' => e = .returned (.tuple #[.int .i64 (32 - (Lib.bitLen (BitVec.ofInt 32 a).toNat : Int)), .int .i64 0]) ∧ Below w.heap.size w w' := by
  have HW := hid (wordOf_any a 32 (by decide) w)
  rw [show ((32 : Nat) : Int) = 32 from rfl] at HW
  have HN := hid (fun w' v h => countDn_any (BitVec.ofInt 32 a) (by decide) (by decide) w' v h 31 (by decide))
  generalize BitVec.ofInt 32 a = b at *
  go_enter Tryd.func10, Tryd.ntmps10
  go_wp2_with fail
  refine HW.out.mono ?_
  rintro r w1 ⟨v1, rfl, ho1, hb1⟩
  have B1 := hid hb1
  have L1 := hid (O1.l1 ho1)
  clear ho1 hb1
  go_wp2_with (go_at_call 29; refine (HN.out _ _ L1.out).mono ?_; rintro r w2 ⟨rfl, rfl⟩)
  go_ret2
  exact ⟨rfl, B1.out⟩

set_option maxRecDepth 100000 in
set_option maxHeartbeats 2000000 in
theorem rone_104 (a : Int) (w : World) :
    Calls Tryd.prog 10 #[.int .u8 104, .int .i64 a] w fun e w' => e = .returned (.tuple #[.int .i64 ((Lib.ctz 32 (BitVec.ofInt 32 a).toNat : Nat)), .int .i64 0]) ∧ Below w.heap.size w w' := by
  have HW := hid (wordOf_any a 32 (by decide) w)
  rw [show ((32 : Nat) : Int) = 32 from rfl] at HW
  have HN := hid (fun w' v h => countUp_any (BitVec.ofInt 32 a) (by decide) (by decide) w' v h)
  generalize BitVec.ofInt 32 a = b at *
  go_enter Tryd.func10, Tryd.ntmps10
  go_wp2_with fail
  refine HW.out.mono ?_
  rintro r w1 ⟨v1, rfl, ho1, hb1⟩
  have B1 := hid hb1
  have L1 := hid (O1.l1 ho1)
  clear ho1 hb1
  go_wp2_with (go_at_call 29; refine (HN.out _ _ L1.out).mono ?_; rintro r w2 ⟨rfl, rfl⟩)
  go_ret2
  exact ⟨rfl, B1.out⟩

set_option maxRecDepth 100000 in
set_option maxHeartbeats 2000000 in
theorem rone_105 (a : Int) (w : World) :
    Calls Tryd.prog 10 #[.int .u8 105, .int .i64 a] w fun e w' => e = .returned (.tuple #[.int .i64 ((popAux 32 (BitVec.ofInt 32 a).toNat : Nat)), .int .i64 0]) ∧ Below w.heap.size w w' := by
  have HW := hid (wordOf_any a 32 (by decide) w)
  rw [show ((32 : Nat) : Int) = 32 from rfl] at HW
  have HT := hid (fun x w' => rtruth_o x w')
  generalize BitVec.ofInt 32 a = b at *
  generalize hR : popAux 32 b.toNat = R
  have HR := hid hR
  clear hR
  go_enter Tryd.func10, Tryd.ntmps10
  go_wp2_with fail
  refine HW.out.mono ?_
  rintro r w1 ⟨v1, rfl, ho1, hb1⟩
  have B1 := hid hb1
  obtain ⟨g, off, cap, rfl, hcap, hm, HC⟩ := bools_open _ (by decide) (O1.l1 ho1)
  clear ho1 hb1
  clear HW
  go_wp2_with fail
  go_loop [48, 8] (fun i r => ∃ k q : Nat, k ≤ 32 ∧ q ≤ k ∧ i = .int .i64 k ∧ r = .int .i64 q ∧ Hid (popAux k b.toNat = q)) (fun i _ => 32 - (RowKit.intOf i).toNat)
  case atStart => exact ⟨0, 0, by decide, by decide, rfl, rfl, hid rfl⟩
  case round =>
    obtain ⟨k, q, hk, hq, rfl, rfl, hp⟩ := hrel
    by_cases hlt : k < 32
    · have hck := HC.out k hlt
      have hn := pop_next b k
      rw [hp.out] at hn
      have hkn : (k : Int) < 32 := by omega
      cases hbt : b.getLsbD k with
      | true =>
        rw [hbt] at hck hn
        have HN := hid (show popAux (k + 1) b.toNat = q + 1 from hn)
        have ht1 : tvo true = 1 := rfl
        clear hbt hn
        go_wp2_with (go_at_call 27; refine (HT.out _ _).mono ?_; rintro r w3 ⟨rfl, rfl⟩)
        go_round
        case rel => exact ⟨k + 1, q + 1, by omega, by omega, by go_num, by go_num, HN⟩
        case measure => simp [RowKit.intOf]; omega
      | false =>
        rw [hbt] at hck hn
        have HN := hid (show popAux (k + 1) b.toNat = q from hn)
        have ht1 : tvo false = 0 := rfl
        clear hbt hn
        go_wp2_with (go_at_call 27; refine (HT.out _ _).mono ?_; rintro r w3 ⟨rfl, rfl⟩)
        go_round
        case rel => exact ⟨k + 1, q, by omega, by omega, by go_num, by go_num, HN⟩
        case measure => simp [RowKit.intOf]; omega
    · obtain rfl : k = 32 := by omega
      go_wp2_with fail
      go_ret2
      exact ⟨by rw [← HR.out, hp.out]; rfl, B1.out⟩

set_option maxRecDepth 100000 in
set_option maxHeartbeats 2000000 in
theorem rone_121 (a : Int) (w : World) :
    Calls Tryd.prog 10 #[.int .u8 121, .int .i64 a] w fun e w' => e = .returned (.tuple #[.int .i64 (64 - (Lib.bitLen (BitVec.ofInt 64 a).toNat : Int)), .int .i64 0]) ∧ Below w.heap.size w w' := by
  have HW := hid (wordOf_any a 64 (by decide) w)
  rw [show ((64 : Nat) : Int) = 64 from rfl] at HW
  have HN := hid (fun w' v h => countDn_any (BitVec.ofInt 64 a) (by decide) (by decide) w' v h 63 (by decide))
  generalize BitVec.ofInt 64 a = b at *
  go_enter Tryd.func10, Tryd.ntmps10
  go_wp2_with fail
  refine HW.out.mono ?_
  rintro r w1 ⟨v1, rfl, ho1, hb1⟩
  have B1 := hid hb1
  have L1 := hid (O1.l1 ho1)
  clear ho1 hb1
  go_wp2_with (go_at_call 29; refine (HN.out _ _ L1.out).mono ?_; rintro r w2 ⟨rfl, rfl⟩)
  go_ret2
  exact ⟨rfl, B1.out⟩

set_option maxRecDepth 100000 in
set_option maxHeartbeats 2000000 in
theorem rone_122 (a : Int) (w : World) :
    Calls Tryd.prog 10 #[.int .u8 122, .int .i64 a] w fun e w' => e = .returned (.tuple #[.int .i64 ((Lib.ctz 64 (BitVec.ofInt 64 a).toNat : Nat)), .int .i64 0]) ∧ Below w.heap.size w w' := by
  have HW := hid (wordOf_any a 64 (by decide) w)
  rw [show ((64 : Nat) : Int) = 64 from rfl] at HW
  have HN := hid (fun w' v h => countUp_any (BitVec.ofInt 64 a) (by decide) (by decide) w' v h)
  generalize BitVec.ofInt 64 a = b at *
  go_enter Tryd.func10, Tryd.ntmps10
  go_wp2_with fail
  refine HW.out.mono ?_
  rintro r w1 ⟨v1, rfl, ho1, hb1⟩
  have B1 := hid hb1
  have L1 := hid (O1.l1 ho1)
  clear ho1 hb1
  go_wp2_with (go_at_call 29; refine (HN.out _ _ L1.out).mono ?_; rintro r w2 ⟨rfl, rfl⟩)
  go_ret2
  exact ⟨rfl, B1.out⟩

set_option maxRecDepth 100000 in
set_option maxHeartbeats 2000000 in
theorem rone_123 (a : Int) (w : World) :
    Calls Tryd.prog 10 #[.int .u8 123, .int .i64 a] w fun e w' => e = .returned (.tuple #[.int .i64 ((popAux 64 (BitVec.ofInt 64 a).toNat : Nat)), .int .i64 0]) ∧ Below w.heap.size w w' := by
  have HW := hid (wordOf_any a 64 (by decide) w)
  rw [show ((64 : Nat) : Int) = 64 from rfl] at HW
  have HT := hid (fun x w' => rtruth_o x w')
  generalize BitVec.ofInt 64 a = b at *
  generalize hR : popAux 64 b.toNat = R
  have HR := hid hR
  clear hR
  go_enter Tryd.func10, Tryd.ntmps10
  go_wp2_with fail
  refine HW.out.mono ?_
  rintro r w1 ⟨v1, rfl, ho1, hb1⟩
  have B1 := hid hb1
  obtain ⟨g, off, cap, rfl, hcap, hm, HC⟩ := bools_open _ (by decide) (O1.l1 ho1)
  clear ho1 hb1
  clear HW
  go_wp2_with fail
  go_loop [48, 8] (fun i r => ∃ k q : Nat, k ≤ 64 ∧ q ≤ k ∧ i = .int .i64 k ∧ r = .int .i64 q ∧ Hid (popAux k b.toNat = q)) (fun i _ => 64 - (RowKit.intOf i).toNat)
  case atStart => exact ⟨0, 0, by decide, by decide, rfl, rfl, hid rfl⟩
  case round =>
    obtain ⟨k, q, hk, hq, rfl, rfl, hp⟩ := hrel
    by_cases hlt : k < 64
    · have hck := HC.out k hlt
      have hn := pop_next b k
      rw [hp.out] at hn
      have hkn : (k : Int) < 64 := by omega
      cases hbt : b.getLsbD k with
      | true =>
        rw [hbt] at hck hn
        have HN := hid (show popAux (k + 1) b.toNat = q + 1 from hn)
        have ht1 : tvo true = 1 := rfl
        clear hbt hn
        go_wp2_with (go_at_call 27; refine (HT.out _ _).mono ?_; rintro r w3 ⟨rfl, rfl⟩)
        go_round
        case rel => exact ⟨k + 1, q + 1, by omega, by omega, by go_num, by go_num, HN⟩
        case measure => simp [RowKit.intOf]; omega
      | false =>
        rw [hbt] at hck hn
        have HN := hid (show popAux (k + 1) b.toNat = q from hn)
        have ht1 : tvo false = 0 := rfl
        clear hbt hn
        go_wp2_with (go_at_call 27; refine (HT.out _ _).mono ?_; rintro r w3 ⟨rfl, rfl⟩)
        go_round
        case rel => exact ⟨k + 1, q, by omega, by omega, by go_num, by go_num, HN⟩
        case measure => simp [RowKit.intOf]; omega
    · obtain rfl : k = 64 := by omega
      go_wp2_with fail
      go_ret2
      exact ⟨by rw [← HR.out, hp.out]; rfl, B1.out⟩

set_option maxRecDepth 100000 in
set_option maxHeartbeats 2000000 in
theorem rone_192 (a : Int) (w : World) :
    Calls Tryd.prog 10 #[.int .u8 192, .int .i64 a] w fun e w' => e = .returned (.tuple #[.int .i64 ((BitVec.ofInt 8 a).toInt), .int .i64 0]) ∧ Below w.heap.size w w' := by
  have HW := hid (wordOf_any a 32 (by decide) w)
  rw [show ((32 : Nat) : Int) = 32 from rfl] at HW
  have HN := hid (fun w' v h => value_any (BitVec.ofInt 8 a) (by decide) (by decide) w' v h)
  have HCUT := hid (bl_cut (n := 32) (m := 8) a (by decide))
  generalize BitVec.ofInt 8 a = b at *
  generalize BitVec.ofInt 32 a = c at *
  go_enter Tryd.func10, Tryd.ntmps10
  go_wp2_with fail
  refine HW.out.mono ?_
  rintro r w1 ⟨v1, rfl, ho1, hb1⟩
  have B1 := hid hb1
  obtain ⟨g, cap, rfl, hcap, hcm, hcut⟩ := own_all (by decide) ho1
  have L1 := hid (hcut 8 (by decide))
  rw [HCUT.out] at L1
  clear ho1 hb1 hcut HW
  go_wp2_with (go_at_call 30; refine (HN.out _ _ L1.out).mono ?_; rintro r w2 ⟨rfl, rfl⟩)
  go_ret2
  exact ⟨rfl, B1.out⟩

set_option maxRecDepth 100000 in
set_option maxHeartbeats 2000000 in
theorem rone_193 (a : Int) (w : World) :
    Calls Tryd.prog 10 #[.int .u8 193, .int .i64 a] w fun e w' => e = .returned (.tuple #[.int .i64 ((BitVec.ofInt 16 a).toInt), .int .i64 0]) ∧ Below w.heap.size w w' := by
  have HW := hid (wordOf_any a 32 (by decide) w)
  rw [show ((32 : Nat) : Int) = 32 from rfl] at HW
  have HN := hid (fun w' v h => value_any (BitVec.ofInt 16 a) (by decide) (by decide) w' v h)
  have HCUT := hid (bl_cut (n := 32) (m := 16) a (by decide))
  generalize BitVec.ofInt 16 a = b at *
  generalize BitVec.ofInt 32 a = c at *
  go_enter Tryd.func10, Tryd.ntmps10
  go_wp2_with fail
  refine HW.out.mono ?_
  rintro r w1 ⟨v1, rfl, ho1, hb1⟩
  have B1 := hid hb1
  obtain ⟨g, cap, rfl, hcap, hcm, hcut⟩ := own_all (by decide) ho1
  have L1 := hid (hcut 16 (by decide))
  rw [HCUT.out] at L1
  clear ho1 hb1 hcut HW
  go_wp2_with (go_at_call 30; refine (HN.out _ _ L1.out).mono ?_; rintro r w2 ⟨rfl, rfl⟩)
  go_ret2
  exact ⟨rfl, B1.out⟩

set_option maxRecDepth 100000 in
set_option maxHeartbeats 2000000 in
theorem rone_194 (a : Int) (w : World) :
    Calls Tryd.prog 10 #[.int .u8 194, .int .i64 a] w fun e w' => e = .returned (.tuple #[.int .i64 ((BitVec.ofInt 8 a).toInt), .int .i64 0]) ∧ Below w.heap.size w w' := by
  have HW := hid (wordOf_any a 64 (by decide) w)
  rw [show ((64 : Nat) : Int) = 64 from rfl] at HW
  have HN := hid (fun w' v h => value_any (BitVec.ofInt 8 a) (by decide) (by decide) w' v h)
  have HCUT := hid (bl_cut (n := 64) (m := 8) a (by decide))
  generalize BitVec.ofInt 8 a = b at *
  generalize BitVec.ofInt 64 a = c at *
  go_enter Tryd.func10, Tryd.ntmps10
  go_wp2_with fail
  refine HW.out.mono ?_
  rintro r w1 ⟨v1, rfl, ho1, hb1⟩
  have B1 := hid hb1
  obtain ⟨g, cap, rfl, hcap, hcm, hcut⟩ := own_all (by decide) ho1
  have L1 := hid (hcut 8 (by decide))
  rw [HCUT.out] at L1
  clear ho1 hb1 hcut HW
  go_wp2_with (go_at_call 30; refine (HN.out _ _ L1.out).mono ?_; rintro r w2 ⟨rfl, rfl⟩)
  go_ret2
  exact ⟨rfl, B1.out⟩

set_option maxRecDepth 100000 in
set_option maxHeartbeats 2000000 in
theorem rone_195 (a : Int) (w : World) :
    Calls Tryd.prog 10 #[.int .u8 195, .int .i64 a] w fun e w' => e = .returned (.tuple #[.int .i64 ((BitVec.ofInt 16 a).toInt), .int .i64 0]) ∧ Below w.heap.size w w' := by
  have HW := hid (wordOf_any a 64 (by decide) w)
  rw [show ((64 : Nat) : Int) = 64 from rfl] at HW
  have HN := hid (fun w' v h => value_any (BitVec.ofInt 16 a) (by decide) (by decide) w' v h)
  have HCUT := hid (bl_cut (n := 64) (m := 16) a (by decide))
  generalize BitVec.ofInt 16 a = b at *
  generalize BitVec.ofInt 64 a = c at *
  go_enter Tryd.func10, Tryd.ntmps10
  go_wp2_with fail
  refine HW.out.mono ?_
  rintro r w1 ⟨v1, rfl, ho1, hb1⟩
  have B1 := hid hb1
  obtain ⟨g, cap, rfl, hcap, hcm, hcut⟩ := own_all (by decide) ho1
  have L1 := hid (hcut 16 (by decide))
  rw [HCUT.out] at L1
  clear ho1 hb1 hcut HW
  go_wp2_with (go_at_call 30; refine (HN.out _ _ L1.out).mono ?_; rintro r w2 ⟨rfl, rfl⟩)
  go_ret2
  exact ⟨rfl, B1.out⟩

set_option maxRecDepth 100000 in
set_option maxHeartbeats 2000000 in
theorem rone_196 (a : Int) (w : World) :
    Calls Tryd.prog 10 #[.int .u8 196, .int .i64 a] w fun e w' => e = .returned (.tuple #[.int .i64 ((BitVec.ofInt 32 a).toInt), .int .i64 0]) ∧ Below w.heap.size w w' := by
  have HW := hid (wordOf_any a 64 (by decide) w)
  rw [show ((64 : Nat) : Int) = 64 from rfl] at HW
  have HN := hid (fun w' v h => value_any (BitVec.ofInt 32 a) (by decide) (by decide) w' v h)
  have HCUT := hid (bl_cut (n := 64) (m := 32) a (by decide))
  generalize BitVec.ofInt 32 a = b at *
  generalize BitVec.ofInt 64 a = c at *
  go_enter Tryd.func10, Tryd.ntmps10
  go_wp2_with fail
  refine HW.out.mono ?_
  rintro r w1 ⟨v1, rfl, ho1, hb1⟩
  have B1 := hid hb1
  obtain ⟨g, cap, rfl, hcap, hcm, hcut⟩ := own_all (by decide) ho1
  have L1 := hid (hcut 32 (by decide))
  rw [HCUT.out] at L1
  clear ho1 hb1 hcut HW
  go_wp2_with (go_at_call 30; refine (HN.out _ _ L1.out).mono ?_; rintro r w2 ⟨rfl, rfl⟩)
  go_ret2
  exact ⟨rfl, B1.out⟩

set_option maxRecDepth 100000 in
set_option maxHeartbeats 2000000 in
theorem rone_167 (a : Int) (w : World) :
    Calls Tryd.prog 10 #[.int .u8 167, .int .i64 a] w fun e w' => e = .returned (.tuple #[.int .i64 ((BitVec.ofInt 32 a).toInt), .int .i64 0]) ∧ Below w.heap.size w w' := by
  have HW := hid (wordOf_any a 64 (by decide) w)
  rw [show ((64 : Nat) : Int) = 64 from rfl] at HW
  have HN := hid (fun w' v h => value_any (BitVec.ofInt 32 a) (by decide) (by decide) w' v h)
  have HCUT := hid (bl_cut (n := 64) (m := 32) a (by decide))
  generalize BitVec.ofInt 32 a = b at *
  generalize BitVec.ofInt 64 a = c at *
  go_enter Tryd.func10, Tryd.ntmps10
  go_wp2_with fail
  refine HW.out.mono ?_
  rintro r w1 ⟨v1, rfl, ho1, hb1⟩
  have B1 := hid hb1
  obtain ⟨g, cap, rfl, hcap, hcm, hcut⟩ := own_all (by decide) ho1
  have L1 := hid (hcut 32 (by decide))
  rw [HCUT.out] at L1
  clear ho1 hb1 hcut HW
  go_wp2_with (go_at_call 30; refine (HN.out _ _ L1.out).mono ?_; rintro r w2 ⟨rfl, rfl⟩)
  go_ret2
  exact ⟨rfl, B1.out⟩

set_option maxRecDepth 100000 in
set_option maxHeartbeats 2000000 in
theorem rone_172 (a : Int) (w : World) :
    Calls Tryd.prog 10 #[.int .u8 172, .int .i64 a] w fun e w' => e = .returned (.tuple #[.int .i64 ((BitVec.ofInt 32 a).toInt), .int .i64 0]) ∧ Below w.heap.size w w' := by
  have HW := hid (wordOf_any a 32 (by decide) w)
  rw [show ((32 : Nat) : Int) = 32 from rfl] at HW
  have HN := hid (fun w' v h => value_any (BitVec.ofInt 32 a) (by decide) (by decide) w' v h)
  have HCUT := hid (bl_cut (n := 32) (m := 32) a (by decide))
  generalize BitVec.ofInt 32 a = b at *
  go_enter Tryd.func10, Tryd.ntmps10
  go_wp2_with fail
  refine HW.out.mono ?_
  rintro r w1 ⟨v1, rfl, ho1, hb1⟩
  have B1 := hid hb1
  obtain ⟨g, cap, rfl, hcap, hcm, hcut⟩ := own_all (by decide) ho1
  have L1 := hid (hcut 32 (by decide))
  rw [HCUT.out] at L1
  clear ho1 hb1 hcut HW
  go_wp2_with (go_at_call 30; refine (HN.out _ _ L1.out).mono ?_; rintro r w2 ⟨rfl, rfl⟩)
  go_ret2
  exact ⟨rfl, B1.out⟩

set_option maxRecDepth 100000 in
set_option maxHeartbeats 2000000 in
theorem rone_173 (a : Int) (w : World) :
    Calls Tryd.prog 10 #[.int .u8 173, .int .i64 a] w fun e w' => e = .returned (.tuple #[.int .i64 ((BitVec.ofInt 32 a).toNat), .int .i64 0]) ∧ Below w.heap.size w w' := by
  have HW := hid (wordOf_any a 32 (by decide) w)
  rw [show ((32 : Nat) : Int) = 32 from rfl] at HW
  have HN := hid (fun w' v h => plain_any (BitVec.ofInt 32 a) (by decide) (by decide) w' v h)
  have hlt := (BitVec.ofInt 32 a).isLt
  generalize BitVec.ofInt 32 a = b at *
  go_enter Tryd.func10, Tryd.ntmps10
  go_wp2_with fail
  refine HW.out.mono ?_
  rintro r w1 ⟨v1, rfl, ho1, hb1⟩
  have B1 := hid hb1
  have L1 := hid (O1.l1 ho1)
  clear ho1 hb1
  go_wp2_with (go_at_call 31; refine (HN.out _ _ L1.out).mono ?_; rintro r w2 ⟨rfl, rfl⟩)
  go_ret2
  exact ⟨by first | rfl | (congr 5; unfold wrap64; omega), B1.out⟩

set_option maxRecDepth 100000 in
set_option maxHeartbeats 2000000 in
theorem rone_none (op : Nat) (hn : op ≠ 69 ∧ op ≠ 80 ∧ op ≠ 103 ∧ op ≠ 104 ∧ op ≠ 105 ∧ op ≠ 121 ∧ op ≠ 122 ∧ op ≠ 123 ∧ op ≠ 167 ∧ op ≠ 172 ∧ op ≠ 173 ∧ op ≠ 192 ∧ op ≠ 193 ∧ op ≠ 194 ∧ op ≠ 195 ∧ op ≠ 196) (a : Int) (w : World) :
    Calls Tryd.prog 10 #[.int .u8 op, .int .i64 a] w fun e w' => e = .returned (.tuple #[.int .i64 0, .int .i64 6]) ∧ Below w.heap.size w w' := by
  have HW := hid (wordOf_any a 64 (by decide) w)
  rw [show ((64 : Nat) : Int) = 64 from rfl] at HW
  have q69 : ((op : Int) == 69) = false := by simp; omega
  have q80 : ((op : Int) == 80) = false := by simp; omega
  have q103 : ((op : Int) == 103) = false := by simp; omega
  have q104 : ((op : Int) == 104) = false := by simp; omega
  have q105 : ((op : Int) == 105) = false := by simp; omega
  have q121 : ((op : Int) == 121) = false := by simp; omega
  have q122 : ((op : Int) == 122) = false := by simp; omega
  have q123 : ((op : Int) == 123) = false := by simp; omega
  have q167 : ((op : Int) == 167) = false := by simp; omega
  have q172 : ((op : Int) == 172) = false := by simp; omega
  have q173 : ((op : Int) == 173) = false := by simp; omega
  have q192 : ((op : Int) == 192) = false := by simp; omega
  have q193 : ((op : Int) == 193) = false := by simp; omega
  have q194 : ((op : Int) == 194) = false := by simp; omega
  have q195 : ((op : Int) == 195) = false := by simp; omega
  have q196 : ((op : Int) == 196) = false := by simp; omega
  clear hn
  go_enter Tryd.func10, Tryd.ntmps10
  go_wp2_with fail
  refine HW.out.mono ?_
  rintro r w1 ⟨v1, rfl, ho1, hb1⟩
  have B1 := hid hb1
  clear ho1 hb1
  go_wp2_with fail
  go_ret2
  exact ⟨rfl, B1.out⟩
/-- both sides give the same -/
theorem one_both (op : Nat) (a : Int) (ha : -9223372036854775808 ≤ a ∧ a < 9223372036854775808) : ∃ x y : Int,
    (∀ w : World, Tabs w → Calls Tryd.prog 9 #[.int .u8 op, .int .i64 a] w fun e w' => e = .returned (.tuple #[.int .i64 x, .int .i64 y]) ∧ Below w.heap.size w w') ∧
    (∀ w : World, Calls Tryd.prog 10 #[.int .u8 op, .int .i64 a] w fun e w' => e = .returned (.tuple #[.int .i64 x, .int .i64 y]) ∧ Below w.heap.size w w') := by
  by_cases hn : op ≠ 69 ∧ op ≠ 80 ∧ op ≠ 103 ∧ op ≠ 104 ∧ op ≠ 105 ∧ op ≠ 121 ∧ op ≠ 122 ∧ op ≠ 123 ∧ op ≠ 167 ∧ op ≠ 172 ∧ op ≠ 173 ∧ op ≠ 192 ∧ op ≠ 193 ∧ op ≠ 194 ∧ op ≠ 195 ∧ op ≠ 196
  · exact ⟨_, _, fun w _ => pone_none op hn a w, fun w => rone_none op hn a w⟩
  · rcases (by omega : op = 69 ∨ op = 80 ∨ op = 103 ∨ op = 104 ∨ op = 105 ∨ op = 121 ∨ op = 122 ∨ op = 123 ∨ op = 192 ∨ op = 193 ∨ op = 194 ∨ op = 195 ∨ op = 196 ∨ op = 167 ∨ op = 172 ∨ op = 173) with rfl | rfl | rfl | rfl | rfl | rfl | rfl | rfl | rfl | rfl | rfl | rfl | rfl | rfl | rfl | rfl
    · exact ⟨_, _, fun w h => pone_69 a ha w h, fun w => rone_69 a w⟩
    · exact ⟨_, _, fun w h => pone_80 a ha w h, fun w => rone_80 a w⟩
    · exact ⟨_, _, fun w h => pone_103 a ha w h, fun w => rone_103 a w⟩
    · exact ⟨_, _, fun w h => pone_104 a ha w h, fun w => rone_104 a w⟩
    · exact ⟨_, _, fun w h => pone_105 a ha w h, fun w => rone_105 a w⟩
    · exact ⟨_, _, fun w h => pone_121 a ha w h, fun w => rone_121 a w⟩
    · exact ⟨_, _, fun w h => pone_122 a ha w h, fun w => rone_122 a w⟩
    · exact ⟨_, _, fun w h => pone_123 a ha w h, fun w => rone_123 a w⟩
    · exact ⟨_, _, fun w h => pone_192 a ha w h, fun w => rone_192 a w⟩
    · exact ⟨_, _, fun w h => pone_193 a ha w h, fun w => rone_193 a w⟩
    · exact ⟨_, _, fun w h => pone_194 a ha w h, fun w => rone_194 a w⟩
    · exact ⟨_, _, fun w h => pone_195 a ha w h, fun w => rone_195 a w⟩
    · exact ⟨_, _, fun w h => pone_196 a ha w h, fun w => rone_196 a w⟩
    · exact ⟨_, _, fun w h => pone_167 a ha w h, fun w => rone_167 a w⟩
    · exact ⟨_, _, fun w h => pone_172 a ha w h, fun w => rone_172 a w⟩
    · exact ⟨_, _, fun w h => pone_173 a ha w h, fun w => rone_173 a w⟩
end Go.Proofs.YtomaiolhaenmhaaDoor
