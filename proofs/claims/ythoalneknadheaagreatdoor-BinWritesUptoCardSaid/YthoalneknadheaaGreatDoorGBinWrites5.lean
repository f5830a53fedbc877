/-
  THE WALKS of the LEB128 writers. No condition beside the kinds' bounds.
-/
import Derived.Test.YthoalneknadheaaGreatDoorGBinWrites4
namespace Go.Proofs.YthoalneknadheaaGreatDoor
open Go.RowKit

set_option maxRecDepth 100000 in
set_option maxHeartbeats 1000000 in
theorem refLebU (f : Nat) : ∀ (n : Nat) (w : World), n < 18446744073709551616 → n < 128 ^ (f + 1) → f ≤ 9 →
    Calls Tryz.prog 101 #[.int .u64 n] w fun e w' => e = .returned (.string (S (encU f n))) ∧ Below w.heap.size w w' := by
  induction f with
  | zero =>
    intro n w hn hf _
    have hlt : (n : Int) < 128 := by omega
    go_enter Tryz.func101, Tryz.ntmps101
    go_wp2_with (go_at_call 34; refine (chr_any _ _).mono ?_; rintro e w' ⟨rfl, hb⟩)
    go_ret
    exact ⟨retS (by rw [encU]), hb⟩
  | succ f ih =>
    intro n w hn hf h9
    by_cases hlt : n < 128
    · have hlt' : (n : Int) < 128 := by omega
      go_enter Tryz.func101, Tryz.ntmps101
      go_wp2_with (go_at_call 34; refine (chr_any _ _).mono ?_; rintro e w' ⟨rfl, hb⟩)
      go_ret
      exact ⟨retS (by rw [encU, if_pos hlt]), hb⟩
    · have hlt' : (128 : Int) ≤ (n : Int) := by omega
      have hlen : (S (encU f (n / 128))).size ≤ 10 := by rw [S_size]; exact Nat.le_trans (encU_len f _) (by omega)
      have hone : (S [byteOf ((n : Int) % 128 + 128)]).size = 1 := by rw [S_size]; rfl
      have hdiv : n / 128 < 128 ^ (f + 1) := by
        rw [Nat.pow_succ] at hf
        exact Nat.div_lt_of_lt_mul (by rw [Nat.mul_comm]; exact hf)
      have hih : ∀ w, Calls Tryz.prog 101 #[.int .u64 ((n : Int) / 128)] w fun e w' => e = .returned (.string (S (encU f (n / 128)))) ∧ Below w.heap.size w w' := by
        intro w
        have := ih (n / 128) w (by omega) hdiv (by omega)
        rwa [Int.natCast_ediv] at this
      have IH := hid hih
      clear ih hdiv hf hih
      go_enter Tryz.func101, Tryz.ntmps101
      go_wp2_with fail
      refine (chr_any _ _).mono ?_
      rintro e w1 ⟨rfl, hb1⟩
      go_wp2_with fail
      refine (IH.out _).mono ?_
      rintro e w2 ⟨rfl, hb2⟩
      go_wp2_with fail
      go_ret
      exact ⟨retSS (by rw [encU, if_neg hlt]; rfl), hb1.trans (hb2.mono hb1.size)⟩

def encS : Nat → Int → List UInt8
  | 0, n => [byteOf (n % 128)]
  | f + 1, n => if -64 ≤ n ∧ n < 64 then [byteOf (n % 128)] else byteOf (n % 128 + 128) :: encS f (n / 128)

set_option maxRecDepth 100000 in
theorem fitsS (n : Int) (w : World) (b : Bool) (hb : b = decide (-64 ≤ n ∧ n < 64)) : Calls Tryz.prog 86 #[.int .i64 n] w fun e w' => e = .returned (.bool b) ∧ w = w' := by
  subst hb
  by_cases h1 : -64 ≤ n
  · by_cases h2 : n < 64
    · go_enter Tryz.func86, Tryz.ntmps86
      go_wp2
      go_ret
      exact ⟨retB (by simp [h1, h2]), rfl⟩
    · go_enter Tryz.func86, Tryz.ntmps86
      go_wp2
      go_ret
      exact ⟨retB (by simp; omega), rfl⟩
  · go_enter Tryz.func86, Tryz.ntmps86
    go_wp2
    go_ret
    exact ⟨retB (by simp; omega), rfl⟩

theorem i64_and127' (n : Int) : bits .and .i64 n 127 = n % 128 := by
  have e : (127 : Int) = ((127 : Nat) : Int) := rfl
  simp only [bits, BitVec.toNat_and]
  have e2 : (BitVec.ofInt (IntKind.i64.bits) (127 : Int)).toNat = 127 := by decide
  rw [e2, show (127 : Nat) = 2 ^ 7 - 1 by decide, Nat.and_two_pow_sub_one_eq_mod, BitVec.toNat_ofInt]
  have h : (((n % ((2 ^ IntKind.i64.bits : Nat) : Int)).toNat % 2 ^ 7 : Nat) : Int) = n % 128 := by
    show (((n % 18446744073709551616).toNat % 128 : Nat) : Int) = n % 128
    omega
  rw [h, wrap_i64', wrap64_small (by omega) (by omega)]

theorem encS_last {f : Nat} {n : Int} (h : -64 ≤ n ∧ n < 64) : encS f n = [byteOf (n % 128)] := by
  cases f <;> simp [encS, h]
theorem encS_lt {f : Nat} {m : Int} (h : Hid (-(64 * 128 ^ (f + 1)) ≤ m ∧ m < 64 * 128 ^ (f + 1))) : Hid (-(64 * 128 ^ f) ≤ m / 128 ∧ m / 128 < 64 * 128 ^ f) := by
  have h := h.out
  rw [Int.pow_succ] at h
  show _ ∧ _
  omega
theorem encS_next {f : Nat} {m n : Int} {xs : List Int} (h : Hid ((xs.map fun n => UInt8.ofNat n.toNat) ++ encS (f + 1) m = encS 9 n)) (hm : ¬ (-64 ≤ m ∧ m < 64)) :
    Hid (((xs ++ [m % 128 + 128]).map fun n => UInt8.ofNat n.toNat) ++ encS f (m / 128) = encS 9 n) := by
  rw [← h.out, encS, if_neg hm]
  show _ = _
  simp only [List.map_append, List.map_cons, List.map_nil, List.append_assoc, List.cons_append, List.nil_append]
  congr 2
  rw [byteOf]
  congr 2
  omega

set_option maxRecDepth 100000 in
set_option maxHeartbeats 1000000 in
theorem writeS (n : Int) (w : World) (h1 : -9223372036854775808 ≤ n) (h2 : n < 9223372036854775808) :
    Calls Tryz.prog 85 #[.int .i64 n, .func (.func 86) #[] #[]] w fun e w' => e = .returned (.string (S (encS 9 n))) ∧ Below w.heap.size w w' := by
  go_enter Tryz.func85, Tryz.ntmps85
  go_wp2_with fail
  go_loopw [0, 5] (fun t v wr => ∃ (m : Int) (f : Nat) (xs : List Int), t = .int .i64 m ∧ -9223372036854775808 ≤ m ∧ m < 9223372036854775808 ∧ f ≤ 9 ∧ OwnI wr w.heap.size .u8 5 v xs ∧ Below w.heap.size w wr ∧ xs.length = 9 - f ∧ Hid (-(64 * 128 ^ f) ≤ m ∧ m < 64 * 128 ^ f) ∧ Hid ((xs.map fun n => UInt8.ofNat n.toNat) ++ encS f m = encS 9 n)) (fun t _ _ => (intOf t).natAbs)
  case atStart => exact ⟨n, 9, [], rfl, h1, h2, by omega, OwnI.nil _ _ _ _, Below.refl _ _, rfl, ⟨by omega, by omega⟩, by simp [Hid]⟩
  case round =>
    obtain ⟨m, f, xs, rfl, hm1, hm2, hf, hown, hb, hxl, hmf, henc⟩ := hrel
    have hsz := hb.size
    by_cases hlt : -64 ≤ m ∧ m < 64
    · have hd : true = decide (-64 ≤ m ∧ m < 64) := by simp; omega
      have HD := hid hd
      have HL := hid hlt
      clear hd hlt
      go_wp2_with (first | (go_at_call 86; refine (fitsS _ _ _ HD.out).mono ?_; rintro e w' ⟨rfl, rfl⟩) | (at_builtin; refine app_int elem_u8 (base := w.heap.size) rfl (.tmp 19) (.tmp 23) rfl rfl rfl (by simp) hown (by omega) (by omega) hsz ?_; intro v' w' ho hbel _; have hcv := conv_bytes ho.ints))
      go_ret
      refine ⟨?_, hb.trans hbel⟩
      rw [← henc.out, encS_last HL.out]
      exact retS (by rw [i64_and127', byteOf])
    · have hd : false = decide (-64 ≤ m ∧ m < 64) := by simp; omega
      have HD := hid hd
      have HL := hid hlt
      clear hd hlt
      cases f with
      | zero => exact absurd hmf.out (by have := HL.out; omega)
      | succ f =>
        go_wp2_with (first | (go_at_call 86; refine (fitsS _ _ _ HD.out).mono ?_; rintro e w' ⟨rfl, rfl⟩) | (at_builtin; refine app_int elem_u8 (base := w.heap.size) rfl (.tmp 10) (.tmp 15) rfl rfl rfl (by simp) hown (by omega) (by omega) hsz ?_; intro v' w' ho hbel _))
        go_roundw
        case rel => exact ⟨m / 128, f, xs ++ [m % 128 + 128], rfl, by omega, by omega, by omega, by rw [i64_and127', show m % 128 % 256 = (((m % 128).toNat : Nat) : Int) by omega, u8_or128' _ (by omega), show (((m % 128).toNat + 128 : Nat) : Int) = m % 128 + 128 by omega] at ho; exact ho, hb.trans hbel, by simp; omega, encS_lt hmf, encS_next henc HL.out⟩
        case measure => have := HL.out; simp [intOf]; omega

set_option maxRecDepth 100000 in
set_option maxHeartbeats 1000000 in
theorem lebS_any (n : Int) (w : World) (h1 : -9223372036854775808 ≤ n) (h2 : n < 9223372036854775808) :
    Calls Tryz.prog 28 #[.int .i64 n] w fun e w' => e = .returned (.string (S (encS 9 n))) ∧ Below w.heap.size w w' := by
  go_enter Tryz.func28, Tryz.ntmps28
  go_wp2_with (go_at_call 85; refine (writeS n _ h1 h2).mono ?_; rintro e w' ⟨rfl, hb⟩)
  go_ret
  exact ⟨rfl, hb⟩

def kS : Nat → Nat → Int → Nat
  | 0, k, _ => k
  | f + 1, k, n => if n / 2 ^ (7 * k - 1) = 0 ∨ n / 2 ^ (7 * k - 1) = -1 then k else kS f (k + 1) n
theorem kS_le (f k : Nat) (n : Int) : k ≤ kS f k n ∧ kS f k n ≤ k + f := by
  induction f generalizing k with
  | zero => simp [kS]
  | succ f ih =>
    rw [kS]
    split
    · omega
    · have := ih (k + 1); omega
def byteS (n : Int) (k i : Nat) : UInt8 := byteOf (n / 2 ^ (7 * i) % 128 + if i + 1 < k then 128 else 0)

theorem byteS_mark {n : Int} {k j : Nat} (h : j + 1 < k) : byteS n k j = byteOf (wrap64 (bits .and .i64 (n / 2 ^ (7 * j)) 127 + 128)) := by
  rw [i64_and127', wrap64_small (by omega) (by omega), byteS, if_pos h]
theorem byteS_bare {n : Int} {k j : Nat} (h : ¬ j + 1 < k) : byteS n k j = byteOf (bits .and .i64 (n / 2 ^ (7 * j)) 127) := by
  rw [i64_and127', byteS, if_neg h, Int.add_zero]
theorem kS_stop {k : Nat} {n : Int} (h : Hid (kS (10 - k) k n = kS 9 1 n)) (hk : 10 ≤ k ∨ n / 2 ^ (7 * k - 1) = 0 ∨ n / 2 ^ (7 * k - 1) = -1) (hk10 : k ≤ 10) : kS 9 1 n = k := by
  rw [← h.out]
  by_cases hk' : k = 10
  · subst hk'; rfl
  · obtain ⟨q, hq⟩ : ∃ q, 10 - k = q + 1 := ⟨9 - k, by omega⟩
    rw [hq, kS, if_pos (by omega)]
theorem kS_go {k : Nat} {n : Int} (h : Hid (kS (10 - k) k n = kS 9 1 n)) (hk10 : k < 10) (h1 : n / 2 ^ (7 * k - 1) ≠ 0) (h2 : n / 2 ^ (7 * k - 1) ≠ -1) : Hid (kS (10 - (k + 1)) (k + 1) n = kS 9 1 n) := by
  rw [← h.out]
  obtain ⟨q, hq⟩ : ∃ q, 10 - k = q + 1 := ⟨9 - k, by omega⟩
  rw [hq, kS, if_neg (by omega), show 10 - (k + 1) = q by omega]
  exact rfl

set_option maxRecDepth 100000 in
set_option maxHeartbeats 1000000 in
theorem refLebS (n : Int) (w : World) :
    Calls Tryz.prog 99 #[.int .i64 n] w fun e w' => e = .returned (.string (S ((List.range (kS 9 1 n)).map (byteS n (kS 9 1 n))))) ∧ Below w.heap.size w w' := by
  go_enter Tryz.func99, Tryz.ntmps99
  go_wp2_with fail
  go_loop [3] (fun i => ∃ k : Nat, 1 ≤ k ∧ k ≤ 10 ∧ i = .int .i64 k ∧ Hid (kS (10 - k) k n = kS 9 1 n)) (fun i => 10 - (intOf i).toNat)
  case atStart => exact ⟨1, by omega, by omega, rfl, rfl⟩
  case round =>
    obtain ⟨k, hk1, hk, rfl, hr⟩ := hrel
    by_cases hgo : k < 10 ∧ n / 2 ^ (7 * k - 1) ≠ 0 ∧ n / 2 ^ (7 * k - 1) ≠ -1
    · obtain ⟨hk10, hz1, hz2⟩ := hgo
      have b1 : (n / 2 ^ (7 * k - 1) != 0) = true := by simpa using hz1
      have b2 : (n / 2 ^ (7 * k - 1) != -1) = true := by simpa using hz2
      have HZ := hid (And.intro hz1 hz2)
      clear hz1 hz2
      have e1 : (7 * (k : Int) - 1).toNat = 7 * k - 1 := by omega
      go_wp2_with fail
      go_round
      case rel => exact ⟨k + 1, by omega, by omega, by go_num, kS_go hr hk10 HZ.out.1 HZ.out.2⟩
      case measure => simp [intOf]; omega
    · have hK : kS 9 1 n = k := kS_stop hr (by omega) hk
      have hb : (k < 10 ∧ (n / 2 ^ (7 * k - 1) != 0) = false) ∨ (k < 10 ∧ (n / 2 ^ (7 * k - 1) != 0) = true ∧ (n / 2 ^ (7 * k - 1) != -1) = false) ∨ 10 ≤ k := by
        by_cases h10 : k < 10
        · by_cases hz : n / 2 ^ (7 * k - 1) = 0
          · exact .inl ⟨h10, by simp [hz]⟩
          · have hz2 : n / 2 ^ (7 * k - 1) = -1 := Classical.byContradiction fun h => hgo ⟨h10, hz, h⟩
            exact .inr (.inl ⟨h10, by simpa using hz, by simp [hz2]⟩)
        · exact .inr (.inr (by omega))
      have HK := hid hK
      clear hgo hK hr
      rcases hb with ⟨h10, hb1⟩ | ⟨h10, hb1, hb2⟩ | h10
      all_goals
        go_wp2_with fail
        go_loopw [4, 28] (fun o i wr => ∃ (j : Nat) (l : List UInt8), j ≤ k ∧ i = .int .i64 j ∧ o = .string (S l) ∧ (S l).size = j ∧ Hid (l = (List.range j).map (byteS n k)) ∧ Below w.heap.size w wr) (fun _ i _ => k - (intOf i).toNat)
        case atStart => exact ⟨0, [], by omega, rfl, rfl, by simp [S_size], rfl, Below.refl _ _⟩
        case round =>
          obtain ⟨j, l, hj, rfl, rfl, hl, hlist, hbel⟩ := hrel
          by_cases hjk : j < k
          · by_cases hlast : j + 1 < k
            · have hx : (j : Int) < (k : Int) - 1 := by omega
              go_wp2_with fail
              refine (chr_any _ _).mono ?_
              rintro e w1 ⟨rfl, hb1⟩
              have hone : ∀ b, (S [b]).size = 1 := fun b => by rw [S_size]; rfl
              go_wp2_with fail
              go_roundw
              case rel => exact ⟨j + 1, l ++ [byteS n k j], by omega, by go_num, valSS (by rw [byteS_mark hlast]), by rw [S_size, List.length_append, ← S_size l, hl]; rfl, by rw [hlist.out, List.range_succ, List.map_append]; rfl, hbel.trans (hb1.mono hbel.size)⟩
              case measure => simp [intOf]; omega
            · have hx : (k : Int) - 1 ≤ (j : Int) := by omega
              go_wp2_with fail
              refine (chr_any _ _).mono ?_
              rintro e w1 ⟨rfl, hb1⟩
              have hone : ∀ b, (S [b]).size = 1 := fun b => by rw [S_size]; rfl
              go_wp2_with fail
              go_roundw
              case rel => exact ⟨j + 1, l ++ [byteS n k j], by omega, by go_num, valSS (by rw [byteS_bare hlast]), by rw [S_size, List.length_append, ← S_size l, hl]; rfl, by rw [hlist.out, List.range_succ, List.map_append]; rfl, hbel.trans (hb1.mono hbel.size)⟩
              case measure => simp [intOf]; omega
          · obtain rfl : j = k := by omega
            go_wp2_with fail
            go_ret
            exact ⟨retS (by rw [hlist.out, HK.out]), hbel⟩
end Go.Proofs.YthoalneknadheaaGreatDoor
