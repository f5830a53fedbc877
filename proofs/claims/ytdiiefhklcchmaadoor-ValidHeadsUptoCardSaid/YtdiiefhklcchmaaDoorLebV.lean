/-
  THE WALKS of the LEB128 writers. No condition beside the kinds' bounds.
-/
import Derived.Test.YtdiiefhklcchmaaDoorLebP
import Derived.Test.YtdiiefhklcchmaaDoorBytes
namespace Go.Proofs.YtdiiefhklcchmaaDoor
open Go.RowKit

/-- the bytes of a number, seven bits at a time (f: how many more there may be) -/
def encU : Nat → Nat → List UInt8
  | 0, n => [byteOf n]
  | f + 1, n => if n < 128 then [byteOf n] else byteOf ((n : Int) % 128 + 128) :: encU f (n / 128)

set_option maxRecDepth 100000 in
theorem fitsU (n : Int) (w : World) : Calls Tryd.prog 59 #[.int .u64 n] w fun e w' => e = .returned (.bool (decide (n < 128))) ∧ w = w' := by
  go_enter Tryd.func59, Tryd.ntmps59
  go_wp2
  go_ret
  exact ⟨rfl, rfl⟩

theorem u64_and127 (n : Nat) (h : n < 18446744073709551616) : bits .and .u64 (n : Int) 127 = ((n % 128 : Nat) : Int) := by
  have h := bits_mask .u64 64 (by decide) (fun x h0 h1 => by rw [Go.IntKind.wrap_u64]; omega) 7 (by decide) (n : Int) (by omega) (by omega)
  have e : ((2 : Int) ^ 7 - 1) = 127 := by decide
  rw [e] at h
  rw [h]; simp
theorem u8_or128' (c : Nat) (h : c < 128) : bits .or .u8 (c : Int) 128 = ((c + 128 : Nat) : Int) := by
  have := or_add .u8 (c : Int) 128 7 (by decide) (by omega) (by omega) (by decide)
  rw [this, Go.IntKind.wrap_u8]; omega

theorem encU_len (f n : Nat) : (encU f n).length ≤ f + 1 := by
  induction f generalizing n with
  | zero => simp [encU]
  | succ f ih =>
    rw [encU]
    split
    · simp
    · have := ih (n / 128); simp; omega
theorem encU_last {f m : Nat} (h : m < 128) : encU f m = [byteOf m] := by
  cases f <;> simp [encU, h]
theorem encU_lt {f m : Nat} (h : Hid (m < 128 ^ (f + 1 + 1))) (_ : ¬ m < 128) : Hid (m / 128 < 128 ^ (f + 1)) := by
  have := h.out
  rw [Nat.pow_succ] at this
  exact Nat.div_lt_of_lt_mul (by rw [Nat.mul_comm]; exact this)
theorem encU_next {f m n : Nat} {xs : List Int} (h : Hid ((xs.map fun n => UInt8.ofNat n.toNat) ++ encU (f + 1) m = encU 9 n)) (hm : ¬ m < 128) :
    Hid (((xs ++ [((m % 128 + 128 : Nat) : Int)]).map fun n => UInt8.ofNat n.toNat) ++ encU f (m / 128) = encU 9 n) := by
  rw [← h.out, encU, if_neg hm]
  show _ = _
  simp only [List.map_append, List.map_cons, List.map_nil, List.append_assoc, List.cons_append, List.nil_append]
  congr 2
  rw [byteOf]
  congr 1
  omega

set_option maxRecDepth 100000 in
set_option maxHeartbeats 1000000 in
theorem writeU (n : Nat) (w : World) (hn : n < 18446744073709551616) :
    Calls Tryd.prog 58 #[.int .u64 n, .func (.func 59) #[] #[]] w fun e w' => e = .returned (.string (S (encU 9 n))) ∧ Below w.heap.size w w' := by
  go_enter Tryd.func58, Tryd.ntmps58
  go_wp2_with fail
  go_loopw [0, 5] (fun t v wr => ∃ (m f : Nat) (xs : List Int), t = .int .u64 m ∧ m < 18446744073709551616 ∧ f ≤ 9 ∧ OwnI wr w.heap.size .u8 5 v xs ∧ Below w.heap.size w wr ∧ xs.length = 9 - f ∧ Hid (m < 128 ^ (f + 1)) ∧ Hid ((xs.map fun n => UInt8.ofNat n.toNat) ++ encU f m = encU 9 n)) (fun t _ _ => (intOf t).toNat)
  case atStart => exact ⟨n, 9, [], rfl, hn, by omega, OwnI.nil _ _ _ _, Below.refl _ _, rfl, by show _ < _; omega, by simp [Hid]⟩
  case round =>
    obtain ⟨m, f, xs, rfl, hm, hf, hown, hb, hxl, hmf, henc⟩ := hrel
    by_cases hlt : m < 128
    · have hd : decide ((m : Int) < 128) = true := by simp; omega
      have hsz := hb.size
      go_wp2_with (first | (go_at_call 59; refine (fitsU _ _).mono ?_; rintro e w' ⟨rfl, rfl⟩) | (at_builtin; refine app_int elem_u8 (base := w.heap.size) rfl (.tmp 19) (.tmp 23) rfl rfl rfl (by simp) hown (by omega) (by omega) hsz ?_; intro v' w' ho hbel _; have hcv := conv_bytes ho.ints))
      go_ret
      refine ⟨?_, hb.trans hbel⟩
      rw [← henc.out, encU_last hlt]
      exact retS (by rw [u64_and127 _ hm, byteOf]; congr 4; omega)
    · have hd : decide ((m : Int) < 128) = false := by simp; omega
      have hsz := hb.size
      go_wp2_with (first | (go_at_call 59; refine (fitsU _ _).mono ?_; rintro e w' ⟨rfl, rfl⟩) | (at_builtin; refine app_int elem_u8 (base := w.heap.size) rfl (.tmp 10) (.tmp 15) rfl rfl rfl (by simp) hown (by omega) (by omega) hsz ?_; intro v' w' ho hbel _))
      cases f with
      | zero => exact absurd hmf.out (by omega)
      | succ f =>
        go_roundw
        case rel => exact ⟨m / 128, f, xs ++ [((m % 128 + 128 : Nat) : Int)], by simp, by omega, by omega, by rw [u64_and127 _ hm, show (((m % 128 : Nat) : Int) % 256) = ((m % 128 : Nat) : Int) by omega, u8_or128' _ (Nat.mod_lt _ (by decide))] at ho; exact ho, hb.trans hbel, by simp; omega, encU_lt hmf hlt, encU_next henc hlt⟩
        case measure => simp [intOf]; omega

set_option maxRecDepth 100000 in
set_option maxHeartbeats 1000000 in
theorem lebU_any (n : Nat) (w : World) (hn : n < 18446744073709551616) :
    Calls Tryd.prog 50 #[.int .u64 n] w fun e w' => e = .returned (.string (S (encU 9 n))) ∧ Below w.heap.size w w' := by
  go_enter Tryd.func50, Tryd.ntmps50
  go_wp2_with (go_at_call 58; refine (writeU n _ hn).mono ?_; rintro e w' ⟨rfl, hb⟩)
  go_ret
  exact ⟨rfl, hb⟩
end Go.Proofs.YtdiiefhklcchmaaDoor
