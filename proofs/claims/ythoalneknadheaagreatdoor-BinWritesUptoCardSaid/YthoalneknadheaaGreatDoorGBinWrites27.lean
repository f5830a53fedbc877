/-
  INSTRUCTIONS: the program's Write, at the kinds with more than one number; and what it refuses. Condition: the number is a byte.
-/
import Derived.Test.YthoalneknadheaaGreatDoorGBinWrites26
import Derived.IntWalk
namespace Go.Proofs.YthoalneknadheaaGreatDoor
open Go.RowKit Go.Lib
attribute [local go_sem ↓] Go.wp_at_zero Go.wp_at_succ

set_option maxRecDepth 100000 in
set_option maxHeartbeats 8000000 in
theorem pwr_6 (op : Nat) (hop : op < 256) (hk : tB op = 6) (A B : Int) (hA : -9223372036854775808 ≤ A ∧ A ≤ 9223372036854775807) (xs : List Int) (v : Value) (w : World) (hx : Ints w .i64 v xs) (hok : chkI 6 A B xs = 0) :
    Calls Tryz.prog 127 #[insV op A B v] w fun e w' => e = .returned (.tuple #[.string (S (wrI 6 op A B xs)), .int .i64 0]) ∧ Below w.heap.size w w' := by
  have HBS := hid (fun w' => besides_any op hop w')
  rw [hk] at HBS
  obtain ⟨_, h16, gA, gB, gT⟩ := chk_ok hok
  have hA0 : Below w.heap.size w (w.alloc (.cells #[.int .u8 op, .int .i64 A, .int .i64 B, v] 162)) := (Below.refl _ _).alloc (Nat.le_refl _) _
  have hblk := Blk.new w #[.int .u8 op, .int .i64 A, .int .i64 B, v] 162 _ rfl
  have b0 := hblk.cell (i := 0) rfl
  have b1 := hblk.cell (i := 1) rfl
  have b2 := hblk.cell (i := 2) rfl
  have b3 := hblk.cell (i := 3) rfl
  have HCK := hid (pchk_any op hop A B hA xs v (w.alloc (.cells #[.int .u8 op, .int .i64 A, .int .i64 B, v] 162)) (L1.below hx hA0))
  rw [hk, hok] at HCK
  have HA := hid hA0
  have HX := hid (qHX hx op A B v 162)
  have HC := hid (qHC hblk)
  obtain ⟨ao, cap, rfl, _⟩ := id hx
  have hcv := fun wx => conv_one (op : Int) wx
  have hob : UInt8.ofNat (op : Int).toNat = byteOf op := by unfold byteOf; congr 1; omega
  rw [hob] at hcv
  clear hx hA0 hblk hk hok hob
  have hbA := isIx_bd gA
  have hbB := isIx_bd gB
  have HUA := hid (fun w' => lebU_ix A gA w')
  have HUB := hid (fun w' => lebU_ix B gB w')
  have hlA := encU_len 9 A.toNat
  have hlB := encU_len 9 B.toNat
  have hwA : IntKind.u64.wrap A = A := IntWalk.u64_in _ (by omega)
  have hwB : IntKind.u64.wrap B = B := IntWalk.u64_in _ (by omega)
  have hl1 : (S [byteOf (op : Int)]).size = 1 := S_size _
  have hl2 : (S (encU 9 A.toNat)).size = (encU 9 A.toNat).length := S_size _
  have hl3 : (S (encU 9 B.toNat)).size = (encU 9 B.toNat).length := S_size _
  have hS := hid (show S [byteOf (op : Int)] ++ (S (encU 9 A.toNat) ++ S (encU 9 B.toNat)) = S (wrI 6 op A B xs) from by rw [S_append, S_append]; rfl)
  have hcat : ¬ 9223372036854775807 < (S (encU 9 A.toNat)).size + (S (encU 9 B.toNat)).size := by omega
  have hcat2 : ¬ 9223372036854775807 < (S [byteOf (op : Int)]).size + ((S (encU 9 A.toNat)).size + (S (encU 9 B.toNat)).size) := by omega
  clear gA gB gT h16 hlA hlB hl1 hl2 hl3 hbA hbB
  generalize S [byteOf (op : Int)] = SO at *
  generalize S (encU 9 A.toNat) = SA at *
  generalize S (encU 9 B.toNat) = SB at *
  go_enter Tryz.func127, Tryz.ntmps127
  go_wp2_with (first | (go_at_call 144; refine HCK.out.mono ?_; rintro r w1 ⟨rfl, hb1⟩; obtain ⟨y0, y1, y2, y3⟩ := HC.out _ hb1; have q0 := fun o => cell_alloc o y0; have q1 := fun o => cell_alloc o y1; have q3 := fun o => cell_alloc o y3; have HB1 := hid hb1; clear hb1) | (go_at_call 147; refine (HBS.out _).mono ?_; rintro r w2 ⟨rfl, hb2⟩; have HB2 := hid (HB1.out.trans ((((Below.refl w1.heap.size w1).alloc (Nat.le_refl _) _).trans (hb2.mono (((Below.refl w1.heap.size w1).alloc (Nat.le_refl _) _).size))).mono HB1.out.size)); obtain ⟨z0, z1, z2, z3⟩ := HC.out _ HB2.out; clear hb2))
  clear q0 q1 q3 hcv b0 b1 b2 b3 y0 y1 y2 y3
  have HD := hid (HB2.out.drew)
  go_region_law (first | (go_simp; go_at_call 12; with_reducible refine (HUA.out _).mono ?_; rintro r w3 ⟨rfl, hb3⟩; obtain ⟨u0, u1, u2, u3⟩ := HC.out _ (HD.out.trans (hb3.mono HD.out.size)); have HB3 := hid (HD.out.trans (hb3.mono HD.out.size)); clear hb3) | (go_simp; go_at_call 12; with_reducible refine (HUB.out _).mono ?_; rintro r w4 ⟨rfl, hb4⟩; have HB4 := hid (HB3.out.trans (hb4.mono HB3.out.size)); clear hb4))
  all_goals
    go_wp2_with fail
    go_ret2
    exact ⟨by rw [← hS.out]; rfl, HA.out.trans (HB4.out.mono HA.out.size)⟩

def w4 (op n : Nat) (xs : List Int) (j : Nat) : List UInt8 := byteOf (op : Int) :: (encU 9 n ++ (xs.take j).flatMap (fun m => encU 9 m.toNat))
theorem w4_next {op n : Nat} {xs : List Int} {j : Nat} (h : j < xs.length) : w4 op n xs (j + 1) = w4 op n xs j ++ encU 9 (xs[j]).toNat := by
  unfold w4
  rw [List.take_succ_eq_append_getElem h, List.flatMap_append]
  simp
theorem w4_len (op n : Nat) (xs : List Int) : ∀ j, (w4 op n xs j).length ≤ 11 + 10 * j
  | 0 => by have := encU_len 9 n; simp [w4]; omega
  | j + 1 => by
    by_cases h : j < xs.length
    · rw [w4_next h, List.length_append]
      have h1 := w4_len op n xs j
      have h2 := encU_len 9 (xs[j]).toNat
      omega
    · have e : w4 op n xs (j + 1) = w4 op n xs j := by unfold w4; rw [List.take_of_length_le (by omega), List.take_of_length_le (by omega)]
      rw [e]
      have h1 := w4_len op n xs j
      omega

set_option maxRecDepth 100000 in
set_option maxHeartbeats 8000000 in
theorem pwr_4 (op : Nat) (hop : op < 256) (hk : tB op = 4) (A B : Int) (hA : -9223372036854775808 ≤ A ∧ A ≤ 9223372036854775807) (xs : List Int) (v : Value) (w : World) (hx : Ints w .i64 v xs) (hok : chkI 4 A B xs = 0) :
    Calls Tryz.prog 127 #[insV op A B v] w fun e w' => e = .returned (.tuple #[.string (S (wrI 4 op A B xs)), .int .i64 0]) ∧ Below w.heap.size w w' := by
  have HBS := hid (fun w' => besides_any op hop w')
  rw [hk] at HBS
  obtain ⟨_, h16, gA, gB, gT⟩ := chk_ok hok
  have hA0 : Below w.heap.size w (w.alloc (.cells #[.int .u8 op, .int .i64 A, .int .i64 B, v] 162)) := (Below.refl _ _).alloc (Nat.le_refl _) _
  have hblk := Blk.new w #[.int .u8 op, .int .i64 A, .int .i64 B, v] 162 _ rfl
  have b0 := hblk.cell (i := 0) rfl
  have b1 := hblk.cell (i := 1) rfl
  have b2 := hblk.cell (i := 2) rfl
  have b3 := hblk.cell (i := 3) rfl
  have HCK := hid (pchk_any op hop A B hA xs v (w.alloc (.cells #[.int .u8 op, .int .i64 A, .int .i64 B, v] 162)) (L1.below hx hA0))
  rw [hk, hok] at HCK
  have HA := hid hA0
  have HX := hid (qHX hx op A B v 162)
  have HC := hid (qHC hblk)
  obtain ⟨ao, cap, rfl, _⟩ := id hx
  have hcv := fun wx => conv_one (op : Int) wx
  have hob : UInt8.ofNat (op : Int).toNat = byteOf op := by unfold byteOf; congr 1; omega
  rw [hob] at hcv
  clear hx hA0 hblk hk hok hob
  have hall : xs.all isIx = true := gT
  have HALL := hid (fun m (h : m ∈ xs) => List.all_eq_true.1 hall m h)
  have hbA := isIx_bd gA
  have HUA := hid (fun w' => lebU_ix A gA w')
  have HUX := hid (fun m (h : m ∈ xs) w' => lebU_ix m (List.all_eq_true.1 hall m h) w')
  have huA : (A : Int) % 18446744073709551616 = A := by omega
  have hlA := encU_len 9 A.toNat
  have hl3 : (S (encU 9 A.toNat)).size = (encU 9 A.toNat).length := S_size _
  have hlA2 : (S (encU 9 A.toNat)).size ≤ 10 := by omega
  have hnl : xs.length < 18446744073709551616 := by omega
  generalize hn : xs.length = n at *
  have HN := hid hn
  have HUN := hid (fun w' => lebU_any n w' hnl)
  have huN : (n : Int) % 18446744073709551616 = n := by omega
  have hl1 : (S [byteOf (op : Int)]).size = 1 := S_size _
  have hlN := encU_len 9 n
  have hl2 : (S (encU 9 n)).size = (encU 9 n).length := S_size _
  have hcat : ¬ 9223372036854775807 < (S [byteOf (op : Int)]).size + (S (encU 9 n)).size := by omega
  have HS1 := hid (show S [byteOf (op : Int)] ++ S (encU 9 n) = S (w4 op n xs 0) from by rw [S_append]; unfold w4; simp)
  have HFIN := hid (show ∀ acc, acc = S (w4 op n xs n) → acc ++ S (encU 9 A.toNat) = S (wrI 4 op A B xs) from by
    rintro acc rfl
    rw [S_append]
    unfold w4 wrI wrB
    rw [hn, List.take_of_length_le (by omega)]
    simp)
  have HL4 := hid (fun j => show (S (w4 op n xs j)).size ≤ 11 + 10 * j from by rw [S_size]; exact w4_len op n xs j)
  clear gA gB gT hlA hl1 hl2 hl3 hbA hall hlN hn hnl
  generalize S [byteOf (op : Int)] = SO at *
  generalize S (encU 9 n) = SN at *
  generalize S (encU 9 A.toNat) = SA at *
  have HSA := hid hlA2
  clear hlA2
  go_enter Tryz.func127, Tryz.ntmps127
  go_wp2_with (first | (go_at_call 144; refine HCK.out.mono ?_; rintro r w1 ⟨rfl, hb1⟩; obtain ⟨y0, y1, y2, y3⟩ := HC.out _ hb1; have q0 := fun o => cell_alloc o y0; have q1 := fun o => cell_alloc o y1; have q3 := fun o => cell_alloc o y3; have HB1 := hid hb1; clear hb1) | (go_at_call 147; refine (HBS.out _).mono ?_; rintro r w2 ⟨rfl, hb2⟩; have HB2 := hid (HB1.out.trans ((((Below.refl w1.heap.size w1).alloc (Nat.le_refl _) _).trans (hb2.mono (((Below.refl w1.heap.size w1).alloc (Nat.le_refl _) _).size))).mono HB1.out.size)); obtain ⟨z0, z1, z2, z3⟩ := HC.out _ HB2.out; clear hb2) | (go_at_call 12; with_reducible refine (HUN.out _).mono ?_; rintro r w3 ⟨rfl, hb3⟩; obtain ⟨u0, u1, u2, u3⟩ := HC.out _ (HB2.out.trans (hb3.mono HB2.out.size)); have HB3 := hid (HB2.out.trans (hb3.mono HB2.out.size)); clear hb3))
  go_loopw [49, 5] (fun i o wr => ∃ (j : Nat) (acc : ByteArray), j ≤ n ∧ i = .int .i64 j ∧ o = .string acc ∧ Hid (acc = S (w4 op n xs j)) ∧ Hid (Below (w.alloc (.cells #[.int .u8 op, .int .i64 A, .int .i64 B, .slice ao n cap] 162)).heap.size (w.alloc (.cells #[.int .u8 op, .int .i64 A, .int .i64 B, .slice ao n cap] 162)) wr)) (fun i _ _ => n - (RowKit.intOf i).toNat)
  case atStart => exact ⟨0, _, Nat.zero_le _, rfl, rfl, HS1, HB3⟩
  case round =>
    clear q0 q1 q3 hcv b0 b1 b2 b3 y0 y1 y2 y3 z0 z1 z2 z3 u0 u1 u2 u3 hcat
    obtain ⟨j, acc, hj, rfl, rfl, hacc, HB⟩ := hrel
    have hsz := HL4.out j
    rw [← hacc.out] at hsz
    by_cases hlt0 : j < n
    · have hlt : j < xs.length := by rw [HN.out]; exact hlt0
      have hltI : (j : Int) < n := by omega
      rcases L1.open (HX.out _ HB.out) with ⟨_, _, _, e, _⟩ | ⟨lb, lo, cap', hv, _, _, _, hc⟩
      · rw [e] at hlt; simp at hlt
      simp only [Value.slice.injEq] at hv
      obtain ⟨rfl, hnn, rfl⟩ := hv
      clear hnn
      have ha := hc j hlt
      have hnx := w4_next (op := op) (n := n) hlt
      have hmem := List.getElem_mem hlt
      generalize xs[j] = m at *
      have hm := isIx_bd (HALL.out m hmem)
      have hum : (m : Int) % 18446744073709551616 = m := by omega
      have HUM := hid (HUX.out m hmem)
      have hlM := encU_len 9 m.toNat
      have hl2 : (S (encU 9 m.toNat)).size = (encU 9 m.toNat).length := S_size _
      have hcat : ¬ 9223372036854775807 < acc.size + (S (encU 9 m.toNat)).size := by omega
      have HNX := hid (show acc ++ S (encU 9 m.toNat) = S (w4 op n xs (j + 1)) from by rw [hnx, hacc.out, S_append])
      clear hc hnx hmem hm hlM hl2 hacc
      generalize S (encU 9 m.toNat) = SM at *
      go_wp2_with (go_at_call 12; refine (HUM.out _).mono ?_; rintro r w4 ⟨rfl, hb4⟩; have HB4 := hid (HB.out.trans (hb4.mono HB.out.size)); clear hb4)
      go_roundw
      case rel => exact ⟨j + 1, _, by omega, by go_num, rfl, HNX, HB4⟩
      case measure => simp [RowKit.intOf]; omega
    · obtain rfl : j = n := by omega
      obtain ⟨t0, t1, t2, t3⟩ := HC.out _ HB.out
      have HF := hid (HFIN.out acc hacc.out)
      have hcat : ¬ 9223372036854775807 < acc.size + SA.size := by have := HSA.out; omega
      clear hacc hsz
      go_wp2_with (go_at_call 12; refine (HUA.out _).mono ?_; rintro r w5 ⟨rfl, hb5⟩; have HB5 := hid (HB.out.trans (hb5.mono HB.out.size)); clear hb5)
      go_ret2
      exact ⟨by rw [← HF.out]; rfl, HA.out.trans (HB5.out.mono HA.out.size)⟩

set_option maxRecDepth 100000 in
set_option maxHeartbeats 4000000 in
theorem pwr_bad (op : Nat) (hop : op < 256) (A B : Int) (hA : -9223372036854775808 ≤ A ∧ A ≤ 9223372036854775807) (xs : List Int) (v : Value) (w : World) (hx : Ints w .i64 v xs) (hbad : chkI (tB op) A B xs ≠ 0) :
    Calls Tryz.prog 127 #[insV op A B v] w fun e w' => e = .returned (.tuple #[.string ⟨#[]⟩, .int .i64 (chkI (tB op) A B xs)]) ∧ Below w.heap.size w w' := by
  have hA0 : Below w.heap.size w (w.alloc (.cells #[.int .u8 op, .int .i64 A, .int .i64 B, v] 162)) := (Below.refl _ _).alloc (Nat.le_refl _) _
  have hblk := Blk.new w #[.int .u8 op, .int .i64 A, .int .i64 B, v] 162 _ rfl
  have b0 := hblk.cell (i := 0) rfl
  have b1 := hblk.cell (i := 1) rfl
  have b2 := hblk.cell (i := 2) rfl
  have b3 := hblk.cell (i := 3) rfl
  have HCK := hid (pchk_any op hop A B hA xs v (w.alloc (.cells #[.int .u8 op, .int .i64 A, .int .i64 B, v] 162)) (L1.below hx hA0))
  have HA := hid hA0
  have hne : (chkI (tB op) A B xs != 0) = true := by simpa using hbad
  generalize chkI (tB op) A B xs = E at *
  clear hx hA0 hblk hbad
  go_enter Tryz.func127, Tryz.ntmps127
  go_wp2_with (go_at_call 144; refine HCK.out.mono ?_; rintro r w1 ⟨rfl, hb1⟩; have HB1 := hid hb1; clear hb1)
  go_ret2
  exact ⟨rfl, HA.out.trans (HB1.out.mono HA.out.size)⟩
end Go.Proofs.YthoalneknadheaaGreatDoor
