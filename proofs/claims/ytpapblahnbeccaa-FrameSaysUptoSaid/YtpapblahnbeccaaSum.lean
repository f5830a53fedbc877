/-
  THE CHECK SUM: frame.Sum and the reference's FrameSum over the plain law of XCrc. Condition: the text's length is in the form's reach.
-/
import Derived.Test.YtpapblahnbeccaaCrc
import Derived.Test.YtpapblahnbeccaaBytes
import Derived.Laws.BitsAllLaws
namespace Go.Proofs.Ytpapblahnbeccaa
open Go.RowKit

def u32V (r : BitVec 32) : Value := .int .u32 (r.toNat : Int)

theorem bv_wrap (b : BitVec 32) : IntKind.u32.wrap (b.toNat : Int) = b.toNat := by
  have := b.isLt
  rw [IntKind.wrap_u32']; omega
theorem bv_xor (x y : Int) : bits .xor .u32 x y = ((BitVec.ofInt 32 x ^^^ BitVec.ofInt 32 y).toNat : Int) := bv_wrap _
theorem bv_and (x y : Int) : bits .and .u32 x y = ((BitVec.ofInt 32 x &&& BitVec.ofInt 32 y).toNat : Int) := bv_wrap _
theorem bv_or (x y : Int) : bits .or .u32 x y = ((BitVec.ofInt 32 x ||| BitVec.ofInt 32 y).toNat : Int) := bv_wrap _
theorem bv_of (b : BitVec 32) : BitVec.ofInt 32 (b.toNat : Int) = b := by rw [BitVec.ofInt_natCast, BitVec.ofNat_toNat]; simp
theorem bv_mod (x : Int) : BitVec.ofInt 32 (x % 4294967296) = BitVec.ofInt 32 x := by
  apply BitVec.eq_of_toInt_eq
  rw [BitVec.toInt_ofInt, BitVec.toInt_ofInt]
  exact Int.emod_bmod (n := 4294967296) x
theorem bv_shr (b : BitVec 32) : BitVec.ofInt 32 ((b.toNat : Int) / 2) = b >>> 1 := by
  have e : ((b.toNat : Int) / 2) = ((b >>> 1).toNat : Int) := by
    rw [BitVec.toNat_ushiftRight, Nat.shiftRight_eq_div_pow]; omega
  exact (congrArg _ e).trans (bv_of _)
theorem bv_low (b : BitVec 32) : b &&& 1#32 = if b.getLsbD 0 then 1#32 else 0#32 := by
  apply BitVec.eq_of_getLsbD_eq
  intro i hi
  rw [BitVec.getLsbD_and]
  have e1 : (1#32).getLsbD i = decide (i = 0) := by simp [hi]
  rw [e1]
  by_cases h : i = 0
  · subst h; cases b.getLsbD 0 <;> simp
  · cases b.getLsbD 0 <;> simp [h, BitVec.getLsbD_one]

theorem in_byte (b : BitVec 32) (c : UInt8) : bits .xor .u32 (b.toNat : Int) ((c.toNat : Int) % 4294967296) = ((inByte b c).toNat : Int) := by
  rw [bv_xor, bv_of, bv_mod, BitVec.ofInt_natCast]
  unfold inByte
  have e : BitVec.ofNat 32 c.toNat = c.toBitVec.setWidth 32 := by
    apply BitVec.eq_of_toNat_eq
    have := c.toNat_lt
    rw [BitVec.toNat_ofNat, BitVec.toNat_setWidth]; rfl
  rw [e]
theorem one_step (b : BitVec 32) : bits .xor .u32 ((b.toNat : Int) / 2) (bits .and .u32 3988292384 (-bits .and .u32 (b.toNat : Int) 1 % 4294967296)) = ((step1 b).toNat : Int) := by
  rw [bv_xor, bv_shr, bv_and, bv_of, bv_mod, bv_and, bv_of, BitVec.ofInt_neg, bv_of, show BitVec.ofInt 32 1 = 1#32 from rfl, show BitVec.ofInt 32 3988292384 = poly from rfl, bv_low]
  unfold step1
  cases b.getLsbD 0
  · rfl
  · rfl

set_option maxRecDepth 100000 in
set_option maxHeartbeats 1000000 in
theorem sum_any (s : ByteArray) (w : World) (hs : s.size ≤ 140737488351232) :
    Calls Try.prog 149 #[.string s] w fun e w' => e = .returned (u32V (crcF s.data.toList)) ∧ w = w' := by
  go_enter Try.func149, Try.ntmps149
  go_wp2
  go_loop [3, 8] (fun x i => ∃ (k : Nat) (r : Int), k ≤ s.size ∧ i = .int .i64 k ∧ x = .int .u32 r ∧ 0 ≤ r ∧ r < 4294967296 ∧ Hid (∃ b : BitVec 32, r = b.toNat ∧ crcF s.data.toList = ~~~ (crcL b (s.data.toList.drop k)))) (fun _ i => s.size - (intOf i).toNat)
  case atStart => exact ⟨0, 4294967295, Nat.zero_le _, rfl, rfl, by omega, by omega, BitVec.allOnes 32, rfl, rfl⟩
  case round =>
    obtain ⟨k, r, hk, rfl, rfl, hr0, hr1, hb⟩ := hrel
    by_cases hlt : k < s.size
    · go_wp2
      go_loop [3, 17] (fun x j => ∃ (t : Nat) (q : Int), t ≤ 8 ∧ j = .int .i64 t ∧ x = .int .u32 q ∧ 0 ≤ q ∧ q < 4294967296 ∧ Hid (∃ b : BitVec 32, q = b.toNat ∧ crcF s.data.toList = ~~~ (crcL (steps b (8 - t)) (s.data.toList.drop (k + 1))))) (fun _ j => 8 - (intOf j).toNat)
      case atStart =>
        obtain ⟨b, rfl, h2⟩ := hb.out
        have hl : k < s.data.toList.length := by simpa using hlt
        rw [drop_cons _ k hl, crcL] at h2
        have e := in_byte b s[k]
        have hb2 := (inByte b s[k]).isLt
        exact ⟨0, _, by omega, rfl, by rw [e], by omega, by omega, inByte b s[k], rfl, h2⟩
      case round =>
        obtain ⟨t, q, ht, rfl, rfl, hq0, hq1, hc⟩ := hrel
        by_cases ht8 : t < 8
        · go_wp2
          go_round
          case rel =>
            obtain ⟨b, rfl, h2⟩ := hc.out
            have hb2 := (step1 b).isLt
            have e8 : 8 - t = (8 - (t + 1)) + 1 := by omega
            rw [e8, steps] at h2
            exact ⟨t + 1, _, by omega, by go_num, by rw [one_step], by omega, by omega, step1 b, rfl, h2⟩
          case measure => simp [intOf]; omega
        · obtain rfl : t = 8 := by omega
          go_wp2
          go_round
          case rel =>
            obtain ⟨b, rfl, h2⟩ := hc.out
            exact ⟨k + 1, _, by omega, by go_num, rfl, hq0, hq1, b, rfl, h2⟩
          case measure => simp [intOf]; omega
    · obtain rfl : k = s.size := by omega
      go_wp2
      go_ret
      obtain ⟨b, rfl, h2⟩ := hb.out
      refine ⟨ret1 (k := .u32) ?_, rfl⟩
      have e : bits .xor .u32 IntKind.u32.max (b.toNat : Int) = ((~~~ b).toNat : Int) := by
        rw [bv_xor, bv_of]
        congr 2
      rw [e, h2, List.drop_of_length_le (by simp), crcL]
end Go.Proofs.Ytpapblahnbeccaa
