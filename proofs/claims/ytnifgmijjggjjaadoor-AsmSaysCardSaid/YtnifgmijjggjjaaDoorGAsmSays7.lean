/-
  NUMBERS AS DIGITS: digits at every number, FormatInt. Conditions: a number of 64 bits; the library's table of tens holds what the row lists.
-/
import Derived.Test.YtnifgmijjggjjaaDoorInB
import Derived.Lib.ItoaNum
namespace Go.Proofs.YtnifgmijjggjjaaDoor
open Go.RowKit Go.Lib

set_option maxRecDepth 100000 in
set_option maxHeartbeats 2000000 in
theorem digits_neg (n : Nat) (hn : n ≤ 9223372036854775808) (h0n : 0 < n) (w : World) :
    Calls Tryd.prog 11 #[.int .i64 (-(n : Int))] w fun e w' => e = .returned (.string (S (45 :: decN 20 n))) ∧ Below w.heap.size w w' := by
  have hneg : -(n : Int) < 0 := by omega
  have u2 : IntKind.u64.wrap (-IntKind.u64.wrap (-(n : Int))) = (n : Int) := by rw [IntKind.wrap_u64, IntKind.wrap_u64]; omega
  have hlt : (n : Int) < 18446744073709551616 := by omega
  have hp : n < 10 ^ 21 := by
    have : (9223372036854775808 : Nat) < 10 ^ 21 := by decide
    omega
  generalize hR : decN 20 n = R
  have HR := hid hR
  have HP := hid hp
  clear hR hp
  go_enter Tryd.func11, Tryd.ntmps11
  go_wp2_with fail
  go_loopw [3, 5] (fun u o wr => ∃ (m f : Nat) (out : List UInt8), f ≤ 20 ∧ u = .int .u64 m ∧ m < 18446744073709551616 ∧ Hid (m < 10 ^ (f + 1)) ∧ o = .string (S out) ∧ Hid (decN f m ++ out = R) ∧ out.length + f ≤ 20 ∧ Hid (Below w.heap.size w wr)) (fun u _ _ => (RowKit.intOf u).toNat)
  case atStart => exact ⟨n, 20, [], Nat.le_refl _, rfl, by omega, HP, rfl, hid (by rw [HR.out, List.append_nil]), by simp, hid (Below.refl _ _)⟩
  case round =>
    obtain ⟨m, f, out, hf, rfl, hm, hmp, rfl, hd, hlen, HB⟩ := hrel
    have hd2 : decN f m = if f = 0 ∨ m / 10 = 0 then [byteOf ((48 + m % 10 : Nat) : Int)] else decN (f - 1) (m / 10) ++ [byteOf ((48 + m % 10 : Nat) : Int)] := by
      cases f with
      | zero => rfl
      | succ f =>
        conv => lhs; unfold decN
        by_cases h0 : m / 10 = 0
        · rw [if_pos h0, if_pos (.inr h0)]
        · rw [if_neg h0, if_neg (by omega), Nat.add_sub_cancel]
    have hf0 : f = 0 → m / 10 = 0 := fun e => by
      have h1 := hmp.out
      rw [e, show (10 : Nat) ^ (0 + 1) = 10 from rfl] at h1
      omega
    have hp2 := hid (show 0 < f → m / 10 < 10 ^ (f - 1 + 1) from fun h => by
      have h1 := hmp.out
      rw [show f - 1 + 1 = f by omega]
      rw [Nat.pow_succ] at h1
      omega)
    obtain ⟨q, hq⟩ : ∃ q, q = 48 + m % 10 := ⟨_, rfl⟩
    obtain ⟨r, hr⟩ : ∃ r, r = m % 10 := ⟨_, rfl⟩
    obtain ⟨d, hdd⟩ : ∃ d, d = m / 10 := ⟨_, rfl⟩
    have c1 : (m : Int).tmod 10 = (r : Int) := by rw [hr, Int.ofNat_tmod]; rfl
    have c1' : (m : Int) % 10 = (r : Int) := by omega
    have c2 : (48 : Int) + (r : Int) = (q : Int) := by omega
    have c3 : (q : Int) < 18446744073709551616 := by omega
    have c4 : (m : Int).tdiv 10 = (d : Int) := by rw [hdd, Int.ofNat_tdiv]; rfl
    have c4' : (m : Int) / 10 = (d : Int) := by omega
    have c5 : q < 100 := by omega
    have HC := hid (fun w' => chr_any (q : Int) w')
    rw [← hq, ← hdd] at hd2
    rw [← hdd] at hf0 hp2
    have hdm : d < m ∨ d = 0 := by omega
    have hdl : d < 18446744073709551616 := by omega
    clear hq hr hdd
    have hS : (S [byteOf (q : Int)]).size = 1 := S_size _
    have hS2 : (S out).size = out.length := S_size _
    have hcat : ¬ 9223372036854775807 < (S [byteOf (q : Int)]).size + (S out).size := by omega
    have hcat2 : ¬ 9223372036854775807 < 1 + ((S [byteOf (q : Int)]).size + (S out).size) := by omega
    have hSR := hid (S_append [byteOf (q : Int)] out)
    by_cases h0 : d = 0
    · subst h0
      have hend : byteOf (q : Int) :: out = R := by
        rw [← hd.out, hd2, if_pos (.inr rfl)]; rfl
      have HSR := hid (show S [byteOf (q : Int)] ++ S out = S R by rw [hSR.out, ← hend]; rfl)
      clear hend hd2 hf0 hSR hS hS2
      generalize S [byteOf (q : Int)] = C at *
      generalize S out = O at *
      go_wp2_with (go_at_call 22; refine (HC.out _).mono ?_; rintro r w1 ⟨rfl, hb1⟩; have B1 := hid (HB.out.trans (hb1.mono HB.out.size)); clear hb1)
      go_ret
      exact ⟨by show Ending.returned (.string (⟨#[45]⟩ ++ (C ++ O))) = _; rw [HSR.out, show (⟨#[45]⟩ : ByteArray) = S [45] from rfl, S_append]; rfl, B1.out⟩
    · have hf1 : 0 < f := by omega
      have hnext := hid (show decN (f - 1) d ++ (byteOf (q : Int) :: out) = R by
        rw [← hd.out, hd2, if_neg (by omega), List.append_assoc]; rfl)
      have hne : ((d : Int) == 0) = false := by simpa using h0
      have HSR := hid (show S [byteOf (q : Int)] ++ S out = S (byteOf (q : Int) :: out) from hSR.out)
      have HPN := hid (hp2.out hf1)
      clear hd2 hf0 hSR hS hS2 hp2
      generalize S [byteOf (q : Int)] = C at *
      generalize hO : S out = O at *
      clear hO
      go_wp2_with (go_at_call 22; refine (HC.out _).mono ?_; rintro r w1 ⟨rfl, hb1⟩; have B1 := hid (HB.out.trans (hb1.mono HB.out.size)); clear hb1)
      go_roundw
      case rel => exact ⟨d, f - 1, byteOf (q : Int) :: out, by omega, rfl, hdl, HPN, by rw [HSR.out], hnext, by rw [List.length_cons]; omega, B1⟩
      case measure => simp [RowKit.intOf]; omega
theorem decD (f : Nat) : ∀ u : Nat, u < 10 ^ (f + 1) → decDigits u = decN f u := by
  have hb : ∀ x : Nat, UInt8.ofNat (48 + x % 10) = byteOf ((48 + x % 10 : Nat) : Int) := fun x => by unfold byteOf; congr 1; omega
  induction f with
  | zero =>
    intro u hu
    have hu2 : u < 10 := hu
    rw [decDigits, dif_pos hu2]
    unfold decN
    rw [← hb u, Nat.mod_eq_of_lt hu2]
  | succ f ih =>
    intro u hu
    by_cases h : u < 10
    · rw [decDigits, dif_pos h]
      unfold decN
      rw [if_pos (by omega), ← hb u, Nat.mod_eq_of_lt h]
    · rw [decDigits, dif_neg h, ih (u / 10) (by rw [Nat.pow_succ] at hu; omega)]
      conv => rhs; unfold decN
      rw [if_neg (by omega), hb u]
/-- a number as the library writes it is as the reference does -/
def itL (n : Int) : List UInt8 := if n < 0 then 45 :: decN 20 n.natAbs else decN 20 n.natAbs
theorem itoa_eq (n : Int) (h : -9223372036854775808 ≤ n ∧ n ≤ 9223372036854775807) : Lib.itoa n = itL n := by
  have hp : n.natAbs < 10 ^ 21 := by
    have : (9223372036854775809 : Nat) < 10 ^ 21 := by decide
    omega
  unfold Lib.itoa itL
  rw [decD 20 _ hp]
  split
  · rfl
  · rw [show n.toNat = n.natAbs by omega, decD 20 _ hp]
theorem itL_len (n : Int) : (itL n).length ≤ 22 := by
  unfold itL
  have := decN_len 20 n.natAbs
  split
  · simp; omega
  · omega
theorem digits_all (n : Int) (h : -9223372036854775808 ≤ n ∧ n ≤ 9223372036854775807) (w : World) :
    Calls Tryd.prog 11 #[.int .i64 n] w fun e w' => e = .returned (.string (S (itL n))) ∧ Below w.heap.size w w' := by
  unfold itL
  by_cases hn : n < 0
  · rw [if_pos hn]
    obtain ⟨m, hm⟩ : ∃ m : Nat, n = -(m : Int) := ⟨n.natAbs, by omega⟩
    subst hm
    rw [show (-(m : Int)).natAbs = m by omega]
    exact digits_neg m (by omega) (by omega) w
  · rw [if_neg hn]
    obtain ⟨m, hm⟩ : ∃ m : Nat, n = (m : Int) := ⟨n.natAbs, by omega⟩
    subst hm
    rw [show ((m : Int)).natAbs = m by omega]
    exact digits_any m (by omega) w
/-- the library's table of tens -/
def TenT (w : World) : Prop := Lib.TabIs Tryd.prog w "internal/strconv.uint64pow10" .u64 Lib.pow10Tab
theorem grow_bel (w : World) (k : Nat) (os : Array Obj) : Below w.heap.size w («Sort».grow (w.drewN k) os) := by
  have h := Below.refl w.heap.size w
  refine ⟨h.os, h.tape, h.output, ?_, ?_⟩
  · simp [«Sort».grow, World.drewN]
  · intro j hj
    show (w.heap ++ os)[j]? = _
    exact Array.getElem?_append_left hj
set_option maxRecDepth 100000 in
theorem format_any (n : Int) (h : -9223372036854775808 ≤ n ∧ n ≤ 9223372036854775807) (w : World) (hT : TenT w) :
    Calls Tryd.prog 31 #[.int .i64 n, .int .i64 10] w fun e w' => e = .returned (.string (S (itL n))) ∧ Below w.heap.size w w' := by
  have H := hid (Tryd.internal_strconv_FormatInt_10 n h.1 h.2 w hT)
  have HE := hid (itoa_eq n h)
  clear hT
  go_enter Tryd.func31, Tryd.ntmps31
  go_wp2_with fail
  refine H.out.mono ?_
  rintro r w1 ⟨rfl, k, os, rfl⟩
  go_wp2_with fail
  go_ret
  rw [HE.out]
  exact ⟨rfl, grow_bel _ _ _⟩
end Go.Proofs.YtnifgmijjggjjaaDoor
