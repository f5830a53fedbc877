/-
  INSTRUCTIONS, the reference's: digits, InsWidth, takes, beside. Conditions: the number is a byte; the variable of the library that strings.Contains reads holds some number.
-/
import Derived.Test.YtakfineljffoaaaGreatDoorGFoldSays4
import Derived.Test.YtakfineljffoaaaGreatDoorGFoldSays6
import Derived.IntWalk
import Derived.Deep.RegionHeld3
namespace Go.Proofs.YtakfineljffoaaaGreatDoor
open Go.RowKit Go.Lib

def decN : Nat → Nat → List UInt8
  | 0, n => [byteOf ((48 + n % 10 : Nat) : Int)]
  | f + 1, n => if n / 10 = 0 then [byteOf ((48 + n % 10 : Nat) : Int)] else decN f (n / 10) ++ [byteOf ((48 + n % 10 : Nat) : Int)]
theorem decN_len : ∀ (f n : Nat), (decN f n).length ≤ f + 1
  | 0, n => by simp [decN]
  | f + 1, n => by
    unfold decN
    split
    · simp
    · have := decN_len f (n / 10)
      simp
      omega

set_option maxRecDepth 100000 in
set_option maxHeartbeats 2000000 in
theorem digits_any (n : Nat) (hn : n < 9223372036854775808) (w : World) :
    Calls Tryz.prog 169 #[.int .i64 n] w fun e w' => e = .returned (.string (S (decN 20 n))) ∧ Below w.heap.size w w' := by
  have hpos : ¬ (n : Int) < 0 := by omega
  have hlt : (n : Int) < 18446744073709551616 := by omega
  have hp : n < 10 ^ 21 := by
    have : (9223372036854775808 : Nat) < 10 ^ 21 := by decide
    omega
  generalize hR : decN 20 n = R
  have HR := hid hR
  have HP := hid hp
  clear hR hp
  go_enter Tryz.func169, Tryz.ntmps169
  go_wp2_with fail
  go_loopw [3, 5] (fun u o wr => ∃ (m f : Nat) (out : List UInt8), f ≤ 20 ∧ u = .int .u64 m ∧ m < 18446744073709551616 ∧ Hid (m < 10 ^ (f + 1)) ∧ o = .string (S out) ∧ Hid (decN f m ++ out = R) ∧ out.length + f ≤ 20 ∧ Hid (Below w.heap.size w wr)) (fun u _ _ => (RowKit.intOf u).toNat)
  case atStart => exact ⟨n, 20, [], Nat.le_refl _, rfl, by omega, HP, rfl, hid (by rw [HR.out, List.append_nil]), by simp, hid (Below.refl _ _)⟩
  case round =>
    obtain ⟨m, f, out, hf, rfl, hm, hmp, rfl, hd, hlen, HB⟩ := hrel
    have hd2 : decN f m = if f = 0 ∨ m / 10 = 0 then [byteOf ((48 + m % 10 : Nat) : Int)] else decN (f - 1) (m / 10) ++ [byteOf ((48 + m % 10 : Nat) : Int)] := by
      cases f with
      | zero => rfl
      | succ f =>
        conv => lhs; unfold decN
        by_cases h0 : m / 10 = 0
        · rw [if_pos h0, if_pos (.inr h0)]
        · rw [if_neg h0, if_neg (by omega), Nat.add_sub_cancel]
    have hf0 : f = 0 → m / 10 = 0 := fun e => by
      have h1 := hmp.out
      rw [e, show (10 : Nat) ^ (0 + 1) = 10 from rfl] at h1
      omega
    have hp2 := hid (show 0 < f → m / 10 < 10 ^ (f - 1 + 1) from fun h => by
      have h1 := hmp.out
      rw [show f - 1 + 1 = f by omega]
      rw [Nat.pow_succ] at h1
      omega)
    obtain ⟨q, hq⟩ : ∃ q, q = 48 + m % 10 := ⟨_, rfl⟩
    obtain ⟨r, hr⟩ : ∃ r, r = m % 10 := ⟨_, rfl⟩
    obtain ⟨d, hdd⟩ : ∃ d, d = m / 10 := ⟨_, rfl⟩
    have c1 : (m : Int).tmod 10 = (r : Int) := by rw [hr, Int.ofNat_tmod]; rfl
    have c1' : (m : Int) % 10 = (r : Int) := by omega
    have c2 : (48 : Int) + (r : Int) = (q : Int) := by omega
    have c3 : (q : Int) < 18446744073709551616 := by omega
    have c4 : (m : Int).tdiv 10 = (d : Int) := by rw [hdd, Int.ofNat_tdiv]; rfl
    have c4' : (m : Int) / 10 = (d : Int) := by omega
    have c5 : q < 100 := by omega
    have HC := hid (fun w' => chr_any (q : Int) w')
    rw [← hq, ← hdd] at hd2
    rw [← hdd] at hf0 hp2
    have hdm : d < m ∨ d = 0 := by omega
    have hdl : d < 18446744073709551616 := by omega
    clear hq hr hdd
    have hS : (S [byteOf (q : Int)]).size = 1 := S_size _
    have hS2 : (S out).size = out.length := S_size _
    have hcat : ¬ 9223372036854775807 < (S [byteOf (q : Int)]).size + (S out).size := by omega
    have hSR := hid (S_append [byteOf (q : Int)] out)
    by_cases h0 : d = 0
    · subst h0
      have hend : byteOf (q : Int) :: out = R := by
        rw [← hd.out, hd2, if_pos (.inr rfl)]; rfl
      have HSR := hid (show S [byteOf (q : Int)] ++ S out = S R by rw [hSR.out, ← hend]; rfl)
      clear hend hd2 hf0 hSR hS hS2
      generalize S [byteOf (q : Int)] = C at *
      generalize S out = O at *
      go_wp2_with (go_at_call 175; refine (HC.out _).mono ?_; rintro r w1 ⟨rfl, hb1⟩; have B1 := hid (HB.out.trans (hb1.mono HB.out.size)); clear hb1)
      go_ret
      exact ⟨by show Ending.returned (.string (⟨#[]⟩ ++ (C ++ O))) = _; rw [HSR.out, ← S_nil, S_append]; rfl, B1.out⟩
    · have hf1 : 0 < f := by omega
      have hnext := hid (show decN (f - 1) d ++ (byteOf (q : Int) :: out) = R by
        rw [← hd.out, hd2, if_neg (by omega), List.append_assoc]; rfl)
      have hne : ((d : Int) == 0) = false := by simpa using h0
      have HSR := hid (show S [byteOf (q : Int)] ++ S out = S (byteOf (q : Int) :: out) from hSR.out)
      have HPN := hid (hp2.out hf1)
      clear hd2 hf0 hSR hS hS2 hp2
      generalize S [byteOf (q : Int)] = C at *
      generalize hO : S out = O at *
      clear hO
      go_wp2_with (go_at_call 175; refine (HC.out _).mono ?_; rintro r w1 ⟨rfl, hb1⟩; have B1 := hid (HB.out.trans (hb1.mono HB.out.size)); clear hb1)
      go_roundw
      case rel => exact ⟨d, f - 1, byteOf (q : Int) :: out, by omega, rfl, hdl, HPN, by rw [HSR.out], hnext, by rw [List.length_cons]; omega, B1⟩
      case measure => simp [RowKit.intOf]; omega

def wRow (i : Nat) : Nat × List UInt8 := match i with
  | 0 => (1, [44, 52, 52, 44, 52, 53, 44, 52, 56, 44, 52, 57, 44, 53, 56, 44, 54, 48, 44])
  | 1 => (2, [44, 52, 54, 44, 52, 55, 44, 53, 48, 44, 53, 49, 44, 53, 57, 44, 54, 49, 44])
  | 2 => (4, [44, 52, 48, 44, 53, 50, 44, 53, 51, 44, 53, 52, 44, 54, 50, 44])
  | _ => (8, [44, 52, 49, 44, 53, 53, 44])
def wSub (op : Nat) : List UInt8 := 44 :: (decN 20 op ++ [44])
theorem w_row : ∀ op : Fin 256, ∀ i : Fin 4, Lib.contains (wRow i.val).2 (wSub op.val) = decide (tW op.val = (wRow i.val).1) := by decide +kernel
theorem w_none : ∀ op : Fin 256, (tW op.val ≠ 1 ∧ tW op.val ≠ 2 ∧ tW op.val ≠ 4 ∧ tW op.val ≠ 8) → tW op.val = 0 := by decide +kernel
def MaxL (w : World) : Prop := ∃ m, w.cell? ⟨4, 0, none⟩ = some (.int .i64 m)
theorem MaxL.below {w w' : World} (h : MaxL w) (hb : Below w.heap.size w w') : MaxL w' := by
  obtain ⟨m, hm⟩ := h
  refine ⟨m, (hb.cell ?_).trans hm⟩
  rcases Nat.lt_or_ge 4 w.heap.size with h' | h'
  · exact h'
  · simp [World.cell?, Array.getElem?_eq_none h'] at hm
theorem contains_any (s sub : List UInt8) (w : World) (hs : s.length < 4294967281) (h : MaxL w) :
    Calls Tryz.prog 168 #[.string (S s), .string (S sub)] w fun e w' => e = .returned (.bool (Lib.contains s sub)) ∧ w = w' := by
  obtain ⟨m, hm⟩ := h
  refine (Tryz.strings_Contains (S s) (S sub) m w (by rw [S_size]; exact hs) hm).mono ?_
  rintro e w' ⟨rfl, rfl⟩
  rw [S_data, S_data]
  exact ⟨rfl, rfl⟩
theorem row_any (op : Nat) (hop : op < 256) (i : Nat) (hi : i < 4) (sub : ByteArray) (hsub : sub = S (wSub op)) (s : ByteArray) (hs : s = S (wRow i).2) (w : World) (h : MaxL w) :
    Calls Tryz.prog 168 #[.string s, .string sub] w fun e w' => e = .returned (.bool (decide (tW op = (wRow i).1))) ∧ w = w' := by
  subst hsub hs
  have := contains_any (wRow i).2 (wSub op) w (by rcases (by omega : i = 0 ∨ i = 1 ∨ i = 2 ∨ i = 3) with rfl | rfl | rfl | rfl <;> decide) h
  rw [w_row ⟨op, hop⟩ ⟨i, hi⟩] at this
  exact this


end Go.Proofs.YtakfineljffoaaaGreatDoor
