/-
  HOW MANY BITS ARE SET: math/bits' OnesCount64 and OnesCount32. Condition: the number is of its kind.
-/
import Derived.Test.YtomaiolhaenmhaaDoorOnp
import Derived.Laws.Bits64b
import Derived.Laws.BitsAllLaws
namespace Go.Proofs.YtomaiolhaenmhaaDoor
open Go.RowKit Go.Lib

theorem and_low7 (n : Int) : bits .and .i64 n 127 = n % 128 := by
  simp only [bits, BitVec.toNat_and]
  have e2 : (BitVec.ofInt (IntKind.i64.bits) (127 : Int)).toNat = 127 := by decide
  rw [e2, show (127 : Nat) = 2 ^ 7 - 1 by decide, Nat.and_two_pow_sub_one_eq_mod, BitVec.toNat_ofInt]
  have h : (((n % ((2 ^ IntKind.i64.bits : Nat) : Int)).toNat % 2 ^ 7 : Nat) : Int) = n % 128 := by
    show (((n % 18446744073709551616).toNat % 128 : Nat) : Int) = n % 128
    omega
  rw [h, IntKind.wrap_i64]
  omega

theorem low7 (c : Nat) : wrap64 (c : Int) % 128 = ((c % 128 : Nat) : Int) := by unfold wrap64; omega
set_option maxRecDepth 100000 in
set_option maxHeartbeats 2000000 in
theorem ones64_any (x : Nat) (hx : x < 18446744073709551616) (w : World) :
    Calls Tryd.prog 25 #[.int .u64 x] w fun e w' => e = .returned (.int .i64 (popAux 64 x : Nat)) ∧ w = w' := by
  obtain ⟨A1, hA1⟩ : ∃ A, A = x / 2 &&& 6148914691236517205 := ⟨_, rfl⟩
  obtain ⟨B1, hB1⟩ : ∃ A, A = x &&& 6148914691236517205 := ⟨_, rfl⟩
  have f1 : bits .and .u64 ((x : Int) / 2) 6148914691236517205 = (A1 : Int) := by
    rw [hA1, ← bits_and_u64_nat _ _ (by omega) (by omega)]; rfl
  have f2 : bits .and .u64 (x : Int) 6148914691236517205 = (B1 : Int) := by
    rw [hB1, ← bits_and_u64_nat _ _ (by omega) (by omega)]; rfl
  have l1 : A1 ≤ 6148914691236517205 := by rw [hA1]; exact Nat.and_le_right
  have l2 : B1 ≤ 6148914691236517205 := by rw [hB1]; exact Nat.and_le_right
  obtain ⟨y1, hy1⟩ : ∃ A, A = A1 + B1 := ⟨_, rfl⟩
  have w1 : IntKind.u64.wrap ((A1 : Int) + (B1 : Int)) = (y1 : Int) := by rw [IntKind.wrap_u64]; omega
  obtain ⟨A2, hA2⟩ : ∃ A, A = y1 / 4 &&& 3689348814741910323 := ⟨_, rfl⟩
  obtain ⟨B2, hB2⟩ : ∃ A, A = y1 &&& 3689348814741910323 := ⟨_, rfl⟩
  have f3 : bits .and .u64 ((y1 : Int) / 4) 3689348814741910323 = (A2 : Int) := by
    rw [hA2, ← bits_and_u64_nat _ _ (by omega) (by omega)]; rfl
  have f4 : bits .and .u64 (y1 : Int) 3689348814741910323 = (B2 : Int) := by
    rw [hB2, ← bits_and_u64_nat _ _ (by omega) (by omega)]; rfl
  have l3 : A2 ≤ 3689348814741910323 := by rw [hA2]; exact Nat.and_le_right
  have l4 : B2 ≤ 3689348814741910323 := by rw [hB2]; exact Nat.and_le_right
  obtain ⟨y2, hy2⟩ : ∃ A, A = A2 + B2 := ⟨_, rfl⟩
  have w2 : IntKind.u64.wrap ((A2 : Int) + (B2 : Int)) = (y2 : Int) := by rw [IntKind.wrap_u64]; omega
  obtain ⟨y3, hy3⟩ : ∃ A, A = y2 / 16 + y2 := ⟨_, rfl⟩
  have w3 : IntKind.u64.wrap ((y2 : Int) / 16 + (y2 : Int)) = (y3 : Int) := by rw [IntKind.wrap_u64]; omega
  obtain ⟨z, hz⟩ : ∃ A, A = y3 &&& 1085102592571150095 := ⟨_, rfl⟩
  have f5 : bits .and .u64 (y3 : Int) 1085102592571150095 = (z : Int) := by
    rw [hz, ← bits_and_u64_nat _ _ (by omega) (by omega)]; rfl
  have ez : z = t3 8 (t2 8 (t1 8 x)) := by
    have m0 : om 85 8 = 6148914691236517205 := by decide
    have m1 : om 51 8 = 3689348814741910323 := by decide
    have m2 : om 15 8 = 1085102592571150095 := by decide
    unfold t1 t2 t3
    rw [m0, m1, m2, hz, hy3, hy2, hA2, hB2, hy1, hA1, hB1]
  obtain ⟨a, ha⟩ : ∃ A, A = z + z / 256 := ⟨_, rfl⟩
  obtain ⟨b, hb⟩ : ∃ A, A = a + a / 65536 := ⟨_, rfl⟩
  obtain ⟨c, hc⟩ : ∃ A, A = b + b / 4294967296 := ⟨_, rfl⟩
  obtain ⟨k1, k2, k3, k4⟩ := ones_end x hx z ez a b c ha hb hc
  have w4 : IntKind.u64.wrap ((z : Int) + (z : Int) / 256) = (a : Int) := by rw [IntKind.wrap_u64]; omega
  have w5 : IntKind.u64.wrap ((a : Int) + (a : Int) / 65536) = (b : Int) := by rw [IntKind.wrap_u64]; omega
  have w6 : IntKind.u64.wrap ((b : Int) + (b : Int) / 4294967296) = (c : Int) := by rw [IntKind.wrap_u64]; omega
  have K := hid (show bits .and .i64 (wrap64 (c : Int)) 127 = ((popAux 64 x : Nat) : Int) by rw [and_low7, ← k4]; exact low7 c)
  clear hA1 hB1 hy1 hA2 hB2 hy2 hy3 hz ez ha hb hc k4 k1 k2 k3 l1 l2 l3 l4
  go_enter Tryd.func25, Tryd.ntmps25
  go_wp2_with fail
  go_ret
  exact ⟨ret1 K.out, rfl⟩

theorem pop_byte (b : Nat) (hb : b < 256) : pop8 (b : Int) = ((popAux 8 b : Nat) : Int) := by
  have h := pop8_eq ⟨b, hb⟩
  rw [← ones_byte b hb]
  exact h
set_option maxRecDepth 100000 in
set_option maxHeartbeats 2000000 in
theorem ones32_any (x : Nat) (hx : x < 4294967296) (w : World) :
    Calls Tryd.prog 22 #[.int .u32 x] w fun e w' => e = .returned (.int .i64 (popAux 32 x : Nat)) ∧ Below w.heap.size w w' := by
  have g1 : bits .and .u32 ((x : Int) / 65536) 255 = ((x / 65536 % 256 : Nat) : Int) := by
    have h := u32_and_nat (x / 65536) 255 (by omega) (by omega)
    rw [show (255 : Nat) = 2 ^ 8 - 1 by decide, Nat.and_two_pow_sub_one_eq_mod] at h
    exact h
  have g2 : bits .and .u32 ((x : Int) / 256) 255 = ((x / 256 % 256 : Nat) : Int) := by
    have h := u32_and_nat (x / 256) 255 (by omega) (by omega)
    rw [show (255 : Nat) = 2 ^ 8 - 1 by decide, Nat.and_two_pow_sub_one_eq_mod] at h
    exact h
  have g3 : bits .and .u32 (x : Int) 255 = ((x % 256 : Nat) : Int) := by
    have h := u32_and_nat x 255 (by omega) (by omega)
    rw [show (255 : Nat) = 2 ^ 8 - 1 by decide, Nat.and_two_pow_sub_one_eq_mod] at h
    exact h
  have hs := (ones_four x hx).1
  rw [(ones_four x hx).2] at hs
  have g0 : (x : Int) / 16777216 = ((x / 16777216 : Nat) : Int) := by rfl
  have b0 : x / 16777216 < 256 := by omega
  have b1 : x / 65536 % 256 < 256 := by omega
  have b2 : x / 256 % 256 < 256 := by omega
  have b3 : x % 256 < 256 := by omega
  have e0 := pop_byte _ b0
  have e1 := pop_byte _ b1
  have e2 := pop_byte _ b2
  have e3 := pop_byte _ b3
  have l0 := popAux_le 8 (x / 16777216)
  have l1 := popAux_le 8 (x / 65536 % 256)
  have l2 := popAux_le 8 (x / 256 % 256)
  have l3 := popAux_le 8 (x % 256)
  generalize x / 16777216 = q0 at *
  generalize x / 65536 % 256 = q1 at *
  generalize x / 256 % 256 = q2 at *
  generalize x % 256 = q3 at *
  generalize popAux 8 q0 = p0 at *
  generalize popAux 8 q1 = p1 at *
  generalize popAux 8 q2 = p2 at *
  generalize popAux 8 q3 = p3 at *
  generalize popAux 32 x = R at *
  have HS := hid hs
  clear hs
  have i0 : (q0 : Int) ≤ 255 := by omega
  have i1 : (q1 : Int) ≤ 255 := by omega
  have i2 : (q2 : Int) ≤ 255 := by omega
  have i3 : (q3 : Int) ≤ 255 := by omega
  have j0 : (0 : Int) ≤ q0 := by omega
  have j1 : (0 : Int) ≤ q1 := by omega
  have j2 : (0 : Int) ≤ q2 := by omega
  have j3 : (0 : Int) ≤ q3 := by omega
  go_enter Tryd.func22, Tryd.ntmps22
  go_wp2_with fail
  simp only [List.append_eq, List.cons_append, List.nil_append, Lib.fold_pop8tab]
  go_quiet (fail)
  go_wp2_with fail
  trace_state
  go_ret
  exact ⟨ret1 (by have h := HS.out; omega), drew_bel' (n := nq) (Below.refl _ _)⟩
end Go.Proofs.YtomaiolhaenmhaaDoor
