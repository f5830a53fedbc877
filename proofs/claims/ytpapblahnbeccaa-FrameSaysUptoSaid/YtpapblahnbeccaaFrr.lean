/-
  FRAMES: low; what a text reads as. Condition: none beside the text's length.
-/
import Derived.Test.YtpapblahnbeccaaFrw
import Derived.Laws.BitsAllLaws
import Derived.Lib.Strings
import Derived.Lib.IndexBytes
namespace Go.Proofs.Ytpapblahnbeccaa
open Go.RowKit Go.Lib
attribute [local go_sem ↓] Go.wp_at_zero Go.wp_at_succ

def beN (l : List UInt8) : Nat := l.foldl (fun a b => a * 256 + b.toNat) 0
theorem beN_snoc (l : List UInt8) (b : UInt8) : beN (l ++ [b]) = beN l * 256 + b.toNat := by simp [beN, List.foldl_append]
theorem beN_take {l : List UInt8} {k : Nat} (h : k < l.length) : beN (l.take (k + 1)) = beN (l.take k) * 256 + l[k].toNat := by
  rw [List.take_succ_eq_append_getElem h, beN_snoc]
theorem beN_lt (l : List UInt8) : beN l < 256 ^ l.length := by
  have key : ∀ (l : List UInt8) (a n : Nat), a < 256 ^ n → l.foldl (fun a b => a * 256 + b.toNat) a < 256 ^ (n + l.length) := by
    intro l
    induction l with
    | nil => intro a n h; simpa using h
    | cons x r ih =>
      intro a n h
      rw [List.foldl_cons, List.length_cons, show n + (r.length + 1) = (n + 1) + r.length from by omega]
      refine ih _ _ ?_
      have := x.toNat_lt
      rw [Nat.pow_succ]
      omega
  have := key l 0 0 (by rw [Nat.pow_zero]; omega)
  rwa [Nat.zero_add] at this
theorem or_be (a b : Nat) (hb : b < 256) (h : a * 256 + b < 18446744073709551616) : bits .or .u64 ((a : Int) * 256) (b : Int) = (a : Int) * 256 + b := by
  have e : ((a : Int) * 256) = ((a * 256 : Nat) : Int) := by omega
  have h0 := u64_or_nat (a * 256) b (Nat.lt_of_le_of_lt (Nat.le_add_right _ _) h) (Nat.lt_trans hb (by decide))
  rw [e, h0]
  have h1 := Nat.two_pow_add_eq_or_of_lt (i := 8) (b := b) (by omega) a
  have e2 : a * 256 = 2 ^ 8 * a := by rw [Nat.mul_comm]
  rw [e2, ← h1, ← e2]
  omega
set_option maxRecDepth 100000 in
set_option maxHeartbeats 2000000 in
theorem low_any (s : ByteArray) (w : World) (hs : s.size ≤ 8) : Calls Try.prog 83 #[.string s] w fun e w' => e = .returned (.int .u64 (beN s.data.toList)) ∧ w = w' := by
  have hl : s.data.toList.length = s.size := by simp
  go_enter Try.func83, Try.ntmps83
  go_wp2_with fail
  go_loop [3, 7] (fun n i => ∃ k : Nat, k ≤ s.size ∧ i = .int .i64 k ∧ n = .int .u64 (beN (s.data.toList.take k))) (fun _ i => s.size - (intOf i).toNat)
  case atStart => exact ⟨0, Nat.zero_le _, rfl, rfl⟩
  case round =>
    obtain ⟨k, hk, rfl, rfl⟩ := hrel
    by_cases hlt : k < s.size
    · have hkl : k < s.data.toList.length := by rw [hl]; exact hlt
      have hn := beN_take hkl
      have hb := beN_lt (s.data.toList.take k)
      rw [List.length_take, Nat.min_eq_left (by omega)] at hb
      have hp : 256 ^ k ≤ 256 ^ 7 := Nat.pow_le_pow_right (by decide) (by omega)
      rw [show (256 : Nat) ^ 7 = 72057594037927936 from rfl] at hp
      have hx := s.data.toList[k].toNat_lt
      have hor := or_be (beN (s.data.toList.take k)) s.data.toList[k].toNat hx (by omega)
      have hget : s[k] = s.data.toList[k] := rfl
      have HN := hid hn
      generalize beN (s.data.toList.take k) = n at *
      have hn2 : n < 72057594037927936 := by omega
      rw [← hget] at hor HN
      rw [← hget] at hx
      clear hb hp hn hget
      go_wp2_with fail
      go_round
      case rel => exact ⟨k + 1, by omega, by go_num, by rw [HN.out]; simp⟩
      case measure => simp [intOf]; omega
    · obtain rfl : k = s.size := by omega
      go_wp2_with fail
      go_ret
      exact ⟨ret1 (by rw [List.take_of_length_le (by omega)]), rfl⟩
end Go.Proofs.Ytpapblahnbeccaa
