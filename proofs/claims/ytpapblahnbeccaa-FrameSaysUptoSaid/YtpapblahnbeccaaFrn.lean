/-
  NUMBERS AS BYTES, the highest first, and four bytes of a sum, the lowest first: both sides. No condition beside lengths.
-/
import Derived.Test.YtpapblahnbeccaaFrc
import Derived.Test.YtpapblahnbeccaaSum
import Derived.Test.YtpapblahnbeccaaFsum
import Derived.Test.YtpapblahnbeccaaBits
import Derived.Test.YtpapblahnbeccaaRowK
namespace Go.Proofs.Ytpapblahnbeccaa
open Go.RowKit Go.Lib

def beB : Nat → Nat → List UInt8
  | _, 0 => []
  | n, m + 1 => beB (n / 256) m ++ [UInt8.ofNat n]
theorem beB_step (n k j : Nat) : beB (n / 256 ^ k) (j + 1) = beB (n / 256 ^ (k + 1)) j ++ [UInt8.ofNat (n / 256 ^ k)] := by
  rw [beB, Nat.div_div_eq_div_mul, Nat.pow_succ]
theorem beB_len (m : Nat) : ∀ n, (beB n m).length = m := by
  induction m with
  | zero => intro n; rfl
  | succ m ih => intro n; rw [beB, List.length_append, ih]; rfl
def numsL (l : List UInt8) : List Int := l.map fun b => (b.toNat : Int)

set_option maxRecDepth 100000 in
set_option maxHeartbeats 2000000 in
theorem high_any (w : World) (base : Nat) (v : Value) (xs : List Int) (n : Nat) (hn : n < 18446744073709551616) (ho : OwnI w base .u8 5 v xs) (hl : xs.length ≤ 1000) (hb : base ≤ w.heap.size) :
    Calls Try.prog 77 #[v, .int .u64 n, .int .i64 8] w fun e w' => ∃ v', e = .returned v' ∧ OwnI w' base .u8 5 v' (xs ++ numsL (beB n 8)) ∧ Below base w w' := by
  go_enter Try.func77, Try.ntmps77
  go_wp2_with fail
  go_loopw [0, 7] (fun o i wr => ∃ k : Nat, k ≤ 8 ∧ i = .int .i64 ((k : Int) - 1) ∧ OwnI wr base .u8 5 o (xs ++ numsL (beB (n / 256 ^ k) (8 - k))) ∧ Below base w wr) (fun _ i _ => (intOf i + 1).toNat)
  case atStart => exact ⟨8, Nat.le_refl _, rfl, by simpa [numsL, beB] using ho, Below.refl _ _⟩
  case round =>
    obtain ⟨k, hk, rfl, hown, hbel⟩ := hrel
    cases k with
    | succ j =>
      rw [show ((j + 1 : Nat) : Int) - 1 = (j : Int) from by omega]
      have hj : j ≤ 7 := by omega
      have hln : (xs ++ numsL (beB (n / 256 ^ (j + 1)) (8 - (j + 1)))).length = xs.length + (8 - (j + 1)) := by unfold numsL; rw [List.length_append, List.length_map, beB_len]
      have hst : xs ++ numsL (beB (n / 256 ^ (j + 1)) (8 - (j + 1))) ++ [(n : Int) / 2 ^ (8 * j) % 256] = xs ++ numsL (beB (n / 256 ^ j) (8 - j)) := by
        rw [show 8 - j = (8 - (j + 1)) + 1 from by omega, beB_step]
        unfold numsL
        rw [List.map_append, List.append_assoc]
        congr 2
        simp only [List.map_cons, List.map_nil, UInt8.toNat_ofNat', List.cons.injEq, and_true]
        rw [show (256 : Nat) = 2 ^ 8 from rfl, ← Nat.pow_mul]
        push_cast
        rfl
      have HLN := hid hln
      have HST := hid hst
      have hsz := hbel.size
      have hw : base ≤ wr.heap.size := by omega
      clear hln hst
      go_wp2_with (at_builtin; go_must (refine app_int elem_u8 (y := (n : Int) / 2 ^ (8 * j) % 256) rfl _ _ rfl rfl rfl rfl hown (by rw [HLN.out]; omega) (by rw [HLN.out]; omega) hw ?_); intro v' w' ho hbel2 _)
      go_roundw
      case rel => exact ⟨j, by omega, rfl, by rw [← HST.out]; exact ho, hbel.trans hbel2⟩
      case measure => simp [intOf]
    | zero =>
      rw [show ((0 : Nat) : Int) - 1 = -1 from rfl]
      rw [Nat.pow_zero, Nat.div_one] at hown
      go_wp2_with fail
      go_ret
      exact ⟨_, rfl, hown, hbel⟩

/-- the reference's big -/
theorem u64_div (n : Nat) : ((n : Int) / 256).toNat = n / 256 := by omega
set_option maxRecDepth 100000 in
set_option maxHeartbeats 2000000 in
theorem big_any (m : Nat) : ∀ (n : Nat) (w : World), n < 18446744073709551616 → m ≤ 8 →
    Calls Try.prog 80 #[.int .u64 n, .int .i64 m] w fun e w' => e = .returned (.string (S (beB n m))) ∧ Below w.heap.size w w' := by
  induction m with
  | zero =>
    intro n w hn hm
    go_enter Try.func80, Try.ntmps80
    go_wp2_with fail
    go_ret
    exact ⟨rfl, Below.refl _ _⟩
  | succ m ih =>
    intro n w hn hm
    have h1 := ih (n / 256) w (by omega) (by omega)
    have H1 := hid h1
    have hz : (((m + 1 : Nat) : Int) == 0) = false := by simp; omega
    have hz2 : ((m : Int) + 1 == 0) = false := by simp; omega
    have hs1 : (S (beB (n / 256) m)).size = m := by rw [S_size, beB_len]
    have hs2 : ∀ n, (S [byteOf n]).size = 1 := fun n => rfl
    have hs3 : ¬ (9223372036854775807 < m + 1) := by omega
    clear ih h1
    go_enter Try.func80, Try.ntmps80
    go_wp2_with fail
    rw [show (n : Int) / 256 = ((n / 256 : Nat) : Int) from by omega]
    refine H1.out.mono ?_
    rintro e w1 ⟨rfl, hb1⟩
    have HB1 := hid hb1
    clear hb1
    go_wp2_with fail
    refine (chr_any _ _).mono ?_
    rintro e w2 ⟨rfl, hb2⟩
    have HB2 := hid hb2
    clear hb2
    go_wp2_with fail
    go_ret
    exact ⟨retSS (by unfold byteOf; rw [beB]; congr 2; apply UInt8.toNat_inj.1; simp; omega), HB1.out.trans (HB2.out.mono HB1.out.size)⟩

/-- four bytes, the lowest first -/
def leB : Nat → Nat → List UInt8
  | _, 0 => []
  | n, m + 1 => UInt8.ofNat n :: leB (n / 256) m
theorem leB_len (m : Nat) : ∀ n, (leB n m).length = m := by
  induction m with
  | zero => intro n; rfl
  | succ m ih => intro n; rw [leB, List.length_cons, ih]
theorem leB_step (n j k : Nat) (_ : j < k) : leB n j ++ leB (n / 256 ^ j) (k - j) = leB n j ++ [UInt8.ofNat (n / 256 ^ j)] ++ leB (n / 256 ^ (j + 1)) (k - (j + 1)) := by
  rw [show k - j = (k - (j + 1)) + 1 from by omega, leB, Nat.div_div_eq_div_mul, ← Nat.pow_succ]
  simp
set_option maxRecDepth 100000 in
set_option maxHeartbeats 2000000 in
theorem little_any (r : BitVec 32) (w : World) : Calls Try.prog 81 #[u32V r] w fun e w' => e = .returned (.string (S (leB r.toNat 4))) ∧ Below w.heap.size w w' := by
  have hr := r.isLt
  unfold u32V
  generalize r.toNat = n at *
  go_enter Try.func81, Try.ntmps81
  go_wp2_with fail
  go_loopw [0, 3, 4] (fun a o i wr => ∃ (k : Nat) (l : List UInt8), k ≤ 4 ∧ i = .int .i64 k ∧ a = .int .u32 ((n / 256 ^ k : Nat) : Int) ∧ o = .string (S l) ∧ (S l).size = k ∧ Hid (l ++ leB (n / 256 ^ k) (4 - k) = leB n 4) ∧ Below w.heap.size w wr) (fun _ _ i _ => 4 - (intOf i).toNat)
  case atStart => exact ⟨0, [], Nat.zero_le _, rfl, by simp, rfl, rfl, by simp [Hid], Below.refl _ _⟩
  case round =>
    obtain ⟨k, l, hk, rfl, rfl, rfl, hsz, hl, hbel⟩ := hrel
    by_cases hlt : k < 4
    · have hl2 : l ++ [byteOf (((n / 256 ^ k : Nat) : Int) % 256)] ++ leB (n / 256 ^ (k + 1)) (4 - (k + 1)) = leB n 4 := by
        rw [← hl.out, show 4 - k = (4 - (k + 1)) + 1 from by omega, leB, Nat.div_div_eq_div_mul, ← Nat.pow_succ, List.append_assoc]
        congr 1
        rw [List.singleton_append]
        congr 1
        unfold byteOf
        generalize n / 256 ^ k = q
        apply UInt8.toNat_inj.1
        simp
        omega
      have hdv : n / 256 ^ (k + 1) = n / 256 ^ k / 256 := by rw [Nat.div_div_eq_div_mul, ← Nat.pow_succ]
      have hm : n / 256 ^ k < 4294967296 := Nat.lt_of_le_of_lt (Nat.div_le_self _ _) hr
      have HL2 := hid hl2
      have HDV := hid hdv
      generalize hq : n / 256 ^ k = q at *
      have HQ := hid hq
      have hs2 : ∀ n, (S [byteOf n]).size = 1 := fun n => rfl
      clear hl2 hdv hl hq
      go_wp2_with (go_at_call 79; refine (chr_any _ _).mono ?_; rintro e w2 ⟨rfl, hb2⟩; have HB2 := hid hb2; clear hb2)
      go_roundw
      case rel => exact ⟨k + 1, l ++ [byteOf ((q : Int) % 256)], by omega, by go_num, by rw [HDV.out]; simp, by rw [S_append], by rw [S_size, List.length_append, ← S_size, hsz]; rfl, HL2.out, hbel.trans (HB2.out.mono hbel.size)⟩
      case measure => simp [intOf]; omega
    · obtain rfl : k = 4 := by omega
      go_wp2_with fail
      go_ret
      exact ⟨retS (by rw [← hl.out]; simp [leB]), hbel⟩
set_option maxRecDepth 100000 in
set_option maxHeartbeats 2000000 in
theorem ending_any (s : ByteArray) (w : World) (hs : s.size ≤ 140737488351232) : Calls Try.prog 78 #[.string s] w fun e w' => e = .returned (.string (S (leB (crcF s.data.toList).toNat 4))) ∧ Below w.heap.size w w' := by
  have hsum := sum_any s w hs
  generalize crcF s.data.toList = r at *
  have hr := r.isLt
  unfold u32V at hsum
  generalize r.toNat = n at *
  have HS := hid hsum
  have hc := conv_bytes (Ints.made' w .u8 5 [(n : Int) % 256, (n : Int) / 256 % 256, (n : Int) / 65536 % 256, (n : Int) / 16777216] w.heap.size rfl (by simp))
  simp only [List.length_cons, List.length_nil, List.map_cons, List.map_nil, Nat.zero_add] at hc
  have he : [UInt8.ofNat ((n : Int) % 256).toNat, UInt8.ofNat ((n : Int) / 256 % 256).toNat, UInt8.ofNat ((n : Int) / 65536 % 256).toNat, UInt8.ofNat ((n : Int) / 16777216).toNat] = leB n 4 := by
    simp only [leB, List.cons.injEq, and_true]
    refine ⟨?_, ?_, ?_, ?_⟩ <;> (apply UInt8.toNat_inj.1; simp; omega)
  rw [he] at hc
  clear hsum he
  go_enter Try.func78, Try.ntmps78
  go_wp2_with fail
  refine HS.out.mono ?_
  rintro e w1 ⟨rfl, rfl⟩
  go_wp2_with fail
  go_ret
  exact ⟨rfl, (Below.refl _ _).alloc (Nat.le_refl _) _⟩
end Go.Proofs.Ytpapblahnbeccaa
