/-
  INSTRUCTIONS: the reference's InsWrite, at all kinds but one. Conditions: the number is a byte; the variable of the library that strings.Contains reads holds some number.
-/
import Derived.Test.YthoalneknadheaaGreatDoorGBinWrites25
import Derived.Test.YthoalneknadheaaGreatDoorGBinWrites27
import Derived.Lib.OthersKept
namespace Go.Proofs.YthoalneknadheaaGreatDoor
open Go.RowKit Go.Lib
attribute [local go_sem ↓] Go.wp_at_zero Go.wp_at_succ

theorem rlebU_ix (A : Int) (h : isIx A = true) (w : World) : Calls Tryz.prog 101 #[.int .u64 A] w fun e w' => e = .returned (.string (S (encU 9 A.toNat))) ∧ Below w.heap.size w w' := by
  have hb := isIx_bd h
  obtain ⟨n, rfl⟩ := Int.eq_ofNat_of_zero_le hb.1
  exact refLebU 9 n w (by omega) (by have : (4294967296 : Nat) < 128 ^ (9 + 1) := by decide
                                     omega) (by decide)

set_option maxRecDepth 100000 in
set_option maxHeartbeats 8000000 in
theorem rwr_1 (op : Nat) (hop : op < 256) (hk : tB op = 1) (A B : Int) (_hA : -9223372036854775808 ≤ A ∧ A ≤ 9223372036854775807) (xs : List Int) (v : Value) (w : World) (hM : MaxL w) (hx : Ints w .i64 v xs) (hok : chkI 1 A B xs = 0) :
    Calls Tryz.prog 150 #[insV op A B v] w fun e w' => e = .returned (.tuple #[.string (S (wrI 1 op A B xs)), .int .i64 0]) ∧ Below w.heap.size w w' := by
  obtain ⟨_, h16, gA, gB, gT⟩ := chk_ok hok
  have hA0 : Below w.heap.size w (w.alloc (.cells #[.int .u8 op, .int .i64 A, .int .i64 B, v] 162)) := (Below.refl _ _).alloc (Nat.le_refl _) _
  have hblk := Blk.new w #[.int .u8 op, .int .i64 A, .int .i64 B, v] 162 _ rfl
  have b0 := hblk.cell (i := 0) rfl
  have b1 := hblk.cell (i := 1) rfl
  have b2 := hblk.cell (i := 2) rfl
  have b3 := hblk.cell (i := 3) rfl
  have hMA := hM.below hA0
  have HCK := hid (rchk_any op hop A B xs v (w.alloc (.cells #[.int .u8 op, .int .i64 A, .int .i64 B, v] 162)) hMA (L1.below hx hA0))
  rw [hk, hok] at HCK
  have HBS := hid (fun w' (hb : Below (w.alloc (.cells #[.int .u8 op, .int .i64 A, .int .i64 B, v] 162)).heap.size (w.alloc (.cells #[.int .u8 op, .int .i64 A, .int .i64 B, v] 162)) w') => rbeside_any op hop w' (hMA.below hb))
  rw [hk, show S (sdL 1) = ⟨#[]⟩ from rfl] at HBS
  have HCO := hid (fun w' => chr_any (op : Int) w')
  have HCZ := hid (fun w' => chr_any 0 w')
  have HCA := hid (fun w' => chr_any A w')
  have HA := hid hA0
  have HX := hid (qHX hx op A B v 162)
  have HC := hid (qHC hblk)
  have hl1 : (S [byteOf (op : Int)]).size = 1 := S_size _
  obtain ⟨ao, cap, rfl, _⟩ := id hx
  clear hx hA0 hblk hk hok hM hMA
  obtain ⟨T0, hT0⟩ : ∃ T, T = S (byteOf (op : Int) :: ([] : List UInt8)) := ⟨_, rfl⟩
  have HEND := hid (show T0 = S (wrI 1 op A B xs) from by rw [hT0]; rfl)
  have HSTART := hid (show S [byteOf (op : Int)] = T0 from by rw [hT0])
  clear gA gB gT h16 hl1 hT0
  generalize S [byteOf (op : Int)] = SO at *
  have h1 := HSTART.out
  clear HSTART
  subst h1
  go_enter Tryz.func150, Tryz.ntmps150
  go_wp2_with (first | (go_at_call 161; refine HCK.out.mono ?_; rintro r w1 ⟨rfl, hb1⟩; obtain ⟨y0, y1, y2, y3⟩ := HC.out _ hb1; have HB1 := hid hb1; clear hb1) | (go_at_call 34; with_reducible refine (HCO.out _).mono ?_; rintro r w2 ⟨rfl, hb2⟩; have HB2 := hid (HB1.out.trans (hb2.mono HB1.out.size)); obtain ⟨z0, z1, z2, z3⟩ := HC.out _ HB2.out; clear hb2) | (go_at_call 162; refine (HBS.out _ HB2.out).mono ?_; rintro r w3 ⟨rfl, hb3⟩; have HB3 := hid (HB2.out.trans (hb3.mono HB2.out.size)); clear hb3))
  have HI0 := hid (World.iter_heap w3 (⟨#[]⟩ : ByteArray) 0)
  have HBL := hid (HB3.out.alloc HB3.out.size (.stringIter (⟨#[]⟩ : ByteArray) 0))
  have HSZ := hid HB3.out.size
  clear b0 b1 b2 b3 y0 y1 y2 y3 z0 z1 z2 z3
  go_loopw [5] (fun o wr => ∃ (k : Nat) (acc : ByteArray), k ≤ 0 ∧ o = .string acc ∧ Hid ((k = 0 ∧ acc = SO)) ∧ Hid (wr.heap[w3.heap.size]? = some (.stringIter (⟨#[]⟩ : ByteArray) k)) ∧ Hid (Below (w.alloc (.cells #[.int .u8 op, .int .i64 A, .int .i64 B, .slice ao xs.length cap] 162)).heap.size (w.alloc (.cells #[.int .u8 op, .int .i64 A, .int .i64 B, .slice ao xs.length cap] 162)) wr)) (fun _ wr => 0 - wr.iterPos w3.heap.size)
  case atStart => exact ⟨0, SO, Nat.zero_le _, rfl, hid (⟨rfl, rfl⟩), HI0, HBL⟩
  case round =>
    obtain ⟨k, acc, hk, rfl, hacc, HI, HB⟩ := hrel
    rcases (by omega : k = 0) with rfl
    · obtain rfl : acc = SO := by
        rcases hacc.out with ⟨e, h⟩
        all_goals first | exact h | (exfalso; omega)
      clear hacc
      have hnext : ∀ ty, (Instr.next (.pointer (some ⟨w3.heap.size, 0, none⟩)) true ty).run Tryz.prog wr = _ := fun ty => run_next_end_at wr w3.heap.size (⟨#[]⟩ : ByteArray) 0 ty HI.out (by decide)
      go_wp2_with fail
      go_ret2
      exact ⟨by rw [← HEND.out]; rfl, HA.out.trans (HB.out.mono HA.out.size)⟩

set_option maxRecDepth 100000 in
set_option maxHeartbeats 8000000 in
theorem rwr_2 (op : Nat) (hop : op < 256) (hk : tB op = 2) (A B : Int) (_hA : -9223372036854775808 ≤ A ∧ A ≤ 9223372036854775807) (xs : List Int) (v : Value) (w : World) (hM : MaxL w) (hx : Ints w .i64 v xs) (hok : chkI 2 A B xs = 0) :
    Calls Tryz.prog 150 #[insV op A B v] w fun e w' => e = .returned (.tuple #[.string (S (wrI 2 op A B xs)), .int .i64 0]) ∧ Below w.heap.size w w' := by
  obtain ⟨_, h16, gA, gB, gT⟩ := chk_ok hok
  have hA0 : Below w.heap.size w (w.alloc (.cells #[.int .u8 op, .int .i64 A, .int .i64 B, v] 162)) := (Below.refl _ _).alloc (Nat.le_refl _) _
  have hblk := Blk.new w #[.int .u8 op, .int .i64 A, .int .i64 B, v] 162 _ rfl
  have b0 := hblk.cell (i := 0) rfl
  have b1 := hblk.cell (i := 1) rfl
  have b2 := hblk.cell (i := 2) rfl
  have b3 := hblk.cell (i := 3) rfl
  have hMA := hM.below hA0
  have HCK := hid (rchk_any op hop A B xs v (w.alloc (.cells #[.int .u8 op, .int .i64 A, .int .i64 B, v] 162)) hMA (L1.below hx hA0))
  rw [hk, hok] at HCK
  have HBS := hid (fun w' (hb : Below (w.alloc (.cells #[.int .u8 op, .int .i64 A, .int .i64 B, v] 162)).heap.size (w.alloc (.cells #[.int .u8 op, .int .i64 A, .int .i64 B, v] 162)) w') => rbeside_any op hop w' (hMA.below hb))
  rw [hk, show S (sdL 2) = ⟨#[107]⟩ from rfl] at HBS
  have HCO := hid (fun w' => chr_any (op : Int) w')
  have HCZ := hid (fun w' => chr_any 0 w')
  have HCA := hid (fun w' => chr_any A w')
  have HA := hid hA0
  have HX := hid (qHX hx op A B v 162)
  have HC := hid (qHC hblk)
  have hl1 : (S [byteOf (op : Int)]).size = 1 := S_size _
  obtain ⟨ao, cap, rfl, _⟩ := id hx
  clear hx hA0 hblk hk hok hM hMA
  have hsA : (S [byteOf A]).size = 1 := S_size _
  obtain ⟨T0, hT0⟩ : ∃ T, T = S (byteOf (op : Int) :: ([] : List UInt8)) := ⟨_, rfl⟩
  obtain ⟨T1, hT1⟩ : ∃ T, T = S (byteOf (op : Int) :: ([byteOf A])) := ⟨_, rfl⟩
  have HT01 := hid (show T0 ++ S ([byteOf A]) = T1 from by rw [hT0, hT1, S_append]; rfl)
  have hz0 : ¬ 9223372036854775807 < T0.size + (S ([byteOf A])).size := by rw [hT0, S_size]; simp; omega
  have HEND := hid (show T1 = S (wrI 2 op A B xs) from by rw [hT1]; rfl)
  have HSTART := hid (show S [byteOf (op : Int)] = T0 from by rw [hT0])
  clear gA gB gT h16 hl1 hsA hT0 hT1
  generalize S ([byteOf A]) = P0 at *
  generalize S [byteOf (op : Int)] = SO at *
  have h1 := HSTART.out
  clear HSTART
  subst h1
  go_enter Tryz.func150, Tryz.ntmps150
  go_wp2_with (first | (go_at_call 161; refine HCK.out.mono ?_; rintro r w1 ⟨rfl, hb1⟩; obtain ⟨y0, y1, y2, y3⟩ := HC.out _ hb1; have HB1 := hid hb1; clear hb1) | (go_at_call 34; with_reducible refine (HCO.out _).mono ?_; rintro r w2 ⟨rfl, hb2⟩; have HB2 := hid (HB1.out.trans (hb2.mono HB1.out.size)); obtain ⟨z0, z1, z2, z3⟩ := HC.out _ HB2.out; clear hb2) | (go_at_call 162; refine (HBS.out _ HB2.out).mono ?_; rintro r w3 ⟨rfl, hb3⟩; have HB3 := hid (HB2.out.trans (hb3.mono HB2.out.size)); clear hb3))
  have HI0 := hid (World.iter_heap w3 (⟨#[107]⟩ : ByteArray) 0)
  have HBL := hid (HB3.out.alloc HB3.out.size (.stringIter (⟨#[107]⟩ : ByteArray) 0))
  have HSZ := hid HB3.out.size
  clear b0 b1 b2 b3 y0 y1 y2 y3 z0 z1 z2 z3
  go_loopw [5] (fun o wr => ∃ (k : Nat) (acc : ByteArray), k ≤ 1 ∧ o = .string acc ∧ Hid ((k = 0 ∧ acc = SO) ∨ (k = 1 ∧ acc = T1)) ∧ Hid (wr.heap[w3.heap.size]? = some (.stringIter (⟨#[107]⟩ : ByteArray) k)) ∧ Hid (Below (w.alloc (.cells #[.int .u8 op, .int .i64 A, .int .i64 B, .slice ao xs.length cap] 162)).heap.size (w.alloc (.cells #[.int .u8 op, .int .i64 A, .int .i64 B, .slice ao xs.length cap] 162)) wr)) (fun _ wr => 1 - wr.iterPos w3.heap.size)
  case atStart => exact ⟨0, SO, Nat.zero_le _, rfl, hid (.inl ⟨rfl, rfl⟩), HI0, HBL⟩
  case round =>
    obtain ⟨k, acc, hk, rfl, hacc, HI, HB⟩ := hrel
    rcases (by omega : k = 0 ∨ k = 1) with rfl | rfl
    · obtain rfl : acc = SO := by
        rcases hacc.out with ⟨e, h⟩ | ⟨e, h⟩
        all_goals first | exact h | (exfalso; omega)
      clear hacc
      have hnext : ∀ ty, (Instr.next (.pointer (some ⟨w3.heap.size, 0, none⟩)) true ty).run Tryz.prog wr = .ok (.tuple #[.bool true, .int .i64 0, .int .i32 107]) (wr.iterAt w3.heap.size (⟨#[107]⟩ : ByteArray) 1) := fun ty => run_next_ascii_at wr w3.heap.size (⟨#[107]⟩ : ByteArray) 0 ty HI.out (by decide) (by decide)
      have hmu := hid (show wr.iterPos w3.heap.size = 0 by simp [World.iterPos, HI.out])
      have hI1 := hid (iterAt_heap wr w3.heap.size (⟨#[107]⟩ : ByteArray) 0 1 HI.out)
      have hb1 := hid (below_iterAt HB.out HSZ.out (⟨#[107]⟩ : ByteArray) 1)
      generalize wr.iterAt w3.heap.size (⟨#[107]⟩ : ByteArray) 1 = W1 at *
      obtain ⟨c0, c1, c2, c3⟩ := HC.out _ hb1.out
      have hlt := hid (lt_of_block hI1.out)
      go_wp2_with (go_at_call 34; refine (HCA.out _).mono ?_; rintro r w5 ⟨rfl, hb5⟩; have HB5 := hid (hb1.out.trans (hb5.mono hb1.out.size)); have HI5 := hid ((hb5.block w3.heap.size hlt.out).trans hI1.out); clear hb5)
      go_roundw
      case rel => exact ⟨1, T1, by decide, by rw [HT01.out], hid (by simp), HI5, HB5⟩
      case measure =>
        have h2 : w5.iterPos w3.heap.size = 1 := by simp [World.iterPos, HI5.out]
        rw [hmu.out, h2]; decide
    · obtain rfl : acc = T1 := by
        rcases hacc.out with ⟨e, h⟩ | ⟨e, h⟩
        all_goals first | exact h | (exfalso; omega)
      clear hacc
      have hnext : ∀ ty, (Instr.next (.pointer (some ⟨w3.heap.size, 0, none⟩)) true ty).run Tryz.prog wr = _ := fun ty => run_next_end_at wr w3.heap.size (⟨#[107]⟩ : ByteArray) 1 ty HI.out (by decide)
      go_wp2_with fail
      go_ret2
      exact ⟨by rw [← HEND.out]; rfl, HA.out.trans (HB.out.mono HA.out.size)⟩

set_option maxRecDepth 100000 in
set_option maxHeartbeats 8000000 in
theorem rwr_3 (op : Nat) (hop : op < 256) (hk : tB op = 3) (A B : Int) (hA : -9223372036854775808 ≤ A ∧ A ≤ 9223372036854775807) (xs : List Int) (v : Value) (w : World) (hM : MaxL w) (hx : Ints w .i64 v xs) (hok : chkI 3 A B xs = 0) :
    Calls Tryz.prog 150 #[insV op A B v] w fun e w' => e = .returned (.tuple #[.string (S (wrI 3 op A B xs)), .int .i64 0]) ∧ Below w.heap.size w w' := by
  obtain ⟨_, h16, gA, gB, gT⟩ := chk_ok hok
  have hA0 : Below w.heap.size w (w.alloc (.cells #[.int .u8 op, .int .i64 A, .int .i64 B, v] 162)) := (Below.refl _ _).alloc (Nat.le_refl _) _
  have hblk := Blk.new w #[.int .u8 op, .int .i64 A, .int .i64 B, v] 162 _ rfl
  have b0 := hblk.cell (i := 0) rfl
  have b1 := hblk.cell (i := 1) rfl
  have b2 := hblk.cell (i := 2) rfl
  have b3 := hblk.cell (i := 3) rfl
  have hMA := hM.below hA0
  have HCK := hid (rchk_any op hop A B xs v (w.alloc (.cells #[.int .u8 op, .int .i64 A, .int .i64 B, v] 162)) hMA (L1.below hx hA0))
  rw [hk, hok] at HCK
  have HBS := hid (fun w' (hb : Below (w.alloc (.cells #[.int .u8 op, .int .i64 A, .int .i64 B, v] 162)).heap.size (w.alloc (.cells #[.int .u8 op, .int .i64 A, .int .i64 B, v] 162)) w') => rbeside_any op hop w' (hMA.below hb))
  rw [hk, show S (sdL 3) = ⟨#[97]⟩ from rfl] at HBS
  have HCO := hid (fun w' => chr_any (op : Int) w')
  have HCZ := hid (fun w' => chr_any 0 w')
  have HCA := hid (fun w' => chr_any A w')
  have HA := hid hA0
  have HX := hid (qHX hx op A B v 162)
  have HC := hid (qHC hblk)
  have hl1 : (S [byteOf (op : Int)]).size = 1 := S_size _
  obtain ⟨ao, cap, rfl, _⟩ := id hx
  clear hx hA0 hblk hk hok hM hMA
  have HUA := hid (fun w' => rlebU_ix A gA w')
  have hbA := isIx_bd gA
  have huA : (A : Int) % 18446744073709551616 = A := by omega
  have hlA := encU_len 9 A.toNat
  have hsA : (S (encU 9 A.toNat)).size = (encU 9 A.toNat).length := S_size _
  obtain ⟨T0, hT0⟩ : ∃ T, T = S (byteOf (op : Int) :: ([] : List UInt8)) := ⟨_, rfl⟩
  obtain ⟨T1, hT1⟩ : ∃ T, T = S (byteOf (op : Int) :: (encU 9 A.toNat)) := ⟨_, rfl⟩
  have HT01 := hid (show T0 ++ S (encU 9 A.toNat) = T1 from by rw [hT0, hT1, S_append]; rfl)
  have hz0 : ¬ 9223372036854775807 < T0.size + (S (encU 9 A.toNat)).size := by rw [hT0, S_size]; simp; omega
  have HEND := hid (show T1 = S (wrI 3 op A B xs) from by rw [hT1]; rfl)
  have HSTART := hid (show S [byteOf (op : Int)] = T0 from by rw [hT0])
  clear gA gB gT h16 hl1 hlA hsA hbA hT0 hT1
  generalize S (encU 9 A.toNat) = P0 at *
  generalize S [byteOf (op : Int)] = SO at *
  have h1 := HSTART.out
  clear HSTART
  subst h1
  go_enter Tryz.func150, Tryz.ntmps150
  go_wp2_with (first | (go_at_call 161; refine HCK.out.mono ?_; rintro r w1 ⟨rfl, hb1⟩; obtain ⟨y0, y1, y2, y3⟩ := HC.out _ hb1; have HB1 := hid hb1; clear hb1) | (go_at_call 34; with_reducible refine (HCO.out _).mono ?_; rintro r w2 ⟨rfl, hb2⟩; have HB2 := hid (HB1.out.trans (hb2.mono HB1.out.size)); obtain ⟨z0, z1, z2, z3⟩ := HC.out _ HB2.out; clear hb2) | (go_at_call 162; refine (HBS.out _ HB2.out).mono ?_; rintro r w3 ⟨rfl, hb3⟩; have HB3 := hid (HB2.out.trans (hb3.mono HB2.out.size)); clear hb3))
  have HI0 := hid (World.iter_heap w3 (⟨#[97]⟩ : ByteArray) 0)
  have HBL := hid (HB3.out.alloc HB3.out.size (.stringIter (⟨#[97]⟩ : ByteArray) 0))
  have HSZ := hid HB3.out.size
  clear b0 b1 b2 b3 y0 y1 y2 y3 z0 z1 z2 z3
  go_loopw [5] (fun o wr => ∃ (k : Nat) (acc : ByteArray), k ≤ 1 ∧ o = .string acc ∧ Hid ((k = 0 ∧ acc = SO) ∨ (k = 1 ∧ acc = T1)) ∧ Hid (wr.heap[w3.heap.size]? = some (.stringIter (⟨#[97]⟩ : ByteArray) k)) ∧ Hid (Below (w.alloc (.cells #[.int .u8 op, .int .i64 A, .int .i64 B, .slice ao xs.length cap] 162)).heap.size (w.alloc (.cells #[.int .u8 op, .int .i64 A, .int .i64 B, .slice ao xs.length cap] 162)) wr)) (fun _ wr => 1 - wr.iterPos w3.heap.size)
  case atStart => exact ⟨0, SO, Nat.zero_le _, rfl, hid (.inl ⟨rfl, rfl⟩), HI0, HBL⟩
  case round =>
    obtain ⟨k, acc, hk, rfl, hacc, HI, HB⟩ := hrel
    rcases (by omega : k = 0 ∨ k = 1) with rfl | rfl
    · obtain rfl : acc = SO := by
        rcases hacc.out with ⟨e, h⟩ | ⟨e, h⟩
        all_goals first | exact h | (exfalso; omega)
      clear hacc
      have hnext : ∀ ty, (Instr.next (.pointer (some ⟨w3.heap.size, 0, none⟩)) true ty).run Tryz.prog wr = .ok (.tuple #[.bool true, .int .i64 0, .int .i32 97]) (wr.iterAt w3.heap.size (⟨#[97]⟩ : ByteArray) 1) := fun ty => run_next_ascii_at wr w3.heap.size (⟨#[97]⟩ : ByteArray) 0 ty HI.out (by decide) (by decide)
      have hmu := hid (show wr.iterPos w3.heap.size = 0 by simp [World.iterPos, HI.out])
      have hI1 := hid (iterAt_heap wr w3.heap.size (⟨#[97]⟩ : ByteArray) 0 1 HI.out)
      have hb1 := hid (below_iterAt HB.out HSZ.out (⟨#[97]⟩ : ByteArray) 1)
      generalize wr.iterAt w3.heap.size (⟨#[97]⟩ : ByteArray) 1 = W1 at *
      obtain ⟨c0, c1, c2, c3⟩ := HC.out _ hb1.out
      have hlt := hid (lt_of_block hI1.out)
      go_wp2_with (go_at_call 101; refine (HUA.out _).mono ?_; rintro r w5 ⟨rfl, hb5⟩; have HB5 := hid (hb1.out.trans (hb5.mono hb1.out.size)); have HI5 := hid ((hb5.block w3.heap.size hlt.out).trans hI1.out); clear hb5)
      go_roundw
      case rel => exact ⟨1, T1, by decide, by rw [HT01.out], hid (by simp), HI5, HB5⟩
      case measure =>
        have h2 : w5.iterPos w3.heap.size = 1 := by simp [World.iterPos, HI5.out]
        rw [hmu.out, h2]; decide
    · obtain rfl : acc = T1 := by
        rcases hacc.out with ⟨e, h⟩ | ⟨e, h⟩
        all_goals first | exact h | (exfalso; omega)
      clear hacc
      have hnext : ∀ ty, (Instr.next (.pointer (some ⟨w3.heap.size, 0, none⟩)) true ty).run Tryz.prog wr = _ := fun ty => run_next_end_at wr w3.heap.size (⟨#[97]⟩ : ByteArray) 1 ty HI.out (by decide)
      go_wp2_with fail
      go_ret2
      exact ⟨by rw [← HEND.out]; rfl, HA.out.trans (HB.out.mono HA.out.size)⟩

set_option maxRecDepth 100000 in
set_option maxHeartbeats 8000000 in
theorem rwr_5 (op : Nat) (hop : op < 256) (hk : tB op = 5) (A B : Int) (hA : -9223372036854775808 ≤ A ∧ A ≤ 9223372036854775807) (xs : List Int) (v : Value) (w : World) (hM : MaxL w) (hx : Ints w .i64 v xs) (hok : chkI 5 A B xs = 0) :
    Calls Tryz.prog 150 #[insV op A B v] w fun e w' => e = .returned (.tuple #[.string (S (wrI 5 op A B xs)), .int .i64 0]) ∧ Below w.heap.size w w' := by
  obtain ⟨_, h16, gA, gB, gT⟩ := chk_ok hok
  have hA0 : Below w.heap.size w (w.alloc (.cells #[.int .u8 op, .int .i64 A, .int .i64 B, v] 162)) := (Below.refl _ _).alloc (Nat.le_refl _) _
  have hblk := Blk.new w #[.int .u8 op, .int .i64 A, .int .i64 B, v] 162 _ rfl
  have b0 := hblk.cell (i := 0) rfl
  have b1 := hblk.cell (i := 1) rfl
  have b2 := hblk.cell (i := 2) rfl
  have b3 := hblk.cell (i := 3) rfl
  have hMA := hM.below hA0
  have HCK := hid (rchk_any op hop A B xs v (w.alloc (.cells #[.int .u8 op, .int .i64 A, .int .i64 B, v] 162)) hMA (L1.below hx hA0))
  rw [hk, hok] at HCK
  have HBS := hid (fun w' (hb : Below (w.alloc (.cells #[.int .u8 op, .int .i64 A, .int .i64 B, v] 162)).heap.size (w.alloc (.cells #[.int .u8 op, .int .i64 A, .int .i64 B, v] 162)) w') => rbeside_any op hop w' (hMA.below hb))
  rw [hk, show S (sdL 5) = ⟨#[97, 122]⟩ from rfl] at HBS
  have HCO := hid (fun w' => chr_any (op : Int) w')
  have HCZ := hid (fun w' => chr_any 0 w')
  have HCA := hid (fun w' => chr_any A w')
  have HA := hid hA0
  have HX := hid (qHX hx op A B v 162)
  have HC := hid (qHC hblk)
  have hl1 : (S [byteOf (op : Int)]).size = 1 := S_size _
  obtain ⟨ao, cap, rfl, _⟩ := id hx
  clear hx hA0 hblk hk hok hM hMA
  have HUA := hid (fun w' => rlebU_ix A gA w')
  have hbA := isIx_bd gA
  have huA : (A : Int) % 18446744073709551616 = A := by omega
  have hlA := encU_len 9 A.toNat
  have hsA : (S (encU 9 A.toNat)).size = (encU 9 A.toNat).length := S_size _
  have hs0 : (S [byteOf (0 : Int)]).size = 1 := S_size _
  obtain ⟨T0, hT0⟩ : ∃ T, T = S (byteOf (op : Int) :: ([] : List UInt8)) := ⟨_, rfl⟩
  obtain ⟨T1, hT1⟩ : ∃ T, T = S (byteOf (op : Int) :: (encU 9 A.toNat)) := ⟨_, rfl⟩
  obtain ⟨T2, hT2⟩ : ∃ T, T = S (byteOf (op : Int) :: (encU 9 A.toNat ++ [0])) := ⟨_, rfl⟩
  have HT01 := hid (show T0 ++ S (encU 9 A.toNat) = T1 from by rw [hT0, hT1, S_append]; rfl)
  have hz0 : ¬ 9223372036854775807 < T0.size + (S (encU 9 A.toNat)).size := by rw [hT0, S_size]; simp; omega
  have HT12 := hid (show T1 ++ S ([byteOf (0 : Int)]) = T2 from by rw [hT1, hT2, S_append]; simp; try rfl)
  have hz1 : ¬ 9223372036854775807 < T1.size + (S ([byteOf (0 : Int)])).size := by rw [hT1, S_size]; simp; omega
  have HEND := hid (show T2 = S (wrI 5 op A B xs) from by rw [hT2]; rfl)
  have HSTART := hid (show S [byteOf (op : Int)] = T0 from by rw [hT0])
  clear gA gB gT h16 hl1 hlA hsA hbA hs0 hT0 hT1 hT2
  generalize S (encU 9 A.toNat) = P0 at *
  generalize S ([byteOf (0 : Int)]) = P1 at *
  generalize S [byteOf (op : Int)] = SO at *
  have h1 := HSTART.out
  clear HSTART
  subst h1
  go_enter Tryz.func150, Tryz.ntmps150
  go_wp2_with (first | (go_at_call 161; refine HCK.out.mono ?_; rintro r w1 ⟨rfl, hb1⟩; obtain ⟨y0, y1, y2, y3⟩ := HC.out _ hb1; have HB1 := hid hb1; clear hb1) | (go_at_call 34; with_reducible refine (HCO.out _).mono ?_; rintro r w2 ⟨rfl, hb2⟩; have HB2 := hid (HB1.out.trans (hb2.mono HB1.out.size)); obtain ⟨z0, z1, z2, z3⟩ := HC.out _ HB2.out; clear hb2) | (go_at_call 162; refine (HBS.out _ HB2.out).mono ?_; rintro r w3 ⟨rfl, hb3⟩; have HB3 := hid (HB2.out.trans (hb3.mono HB2.out.size)); clear hb3))
  have HI0 := hid (World.iter_heap w3 (⟨#[97, 122]⟩ : ByteArray) 0)
  have HBL := hid (HB3.out.alloc HB3.out.size (.stringIter (⟨#[97, 122]⟩ : ByteArray) 0))
  have HSZ := hid HB3.out.size
  clear b0 b1 b2 b3 y0 y1 y2 y3 z0 z1 z2 z3
  go_loopw [5] (fun o wr => ∃ (k : Nat) (acc : ByteArray), k ≤ 2 ∧ o = .string acc ∧ Hid ((k = 0 ∧ acc = SO) ∨ (k = 1 ∧ acc = T1) ∨ (k = 2 ∧ acc = T2)) ∧ Hid (wr.heap[w3.heap.size]? = some (.stringIter (⟨#[97, 122]⟩ : ByteArray) k)) ∧ Hid (Below (w.alloc (.cells #[.int .u8 op, .int .i64 A, .int .i64 B, .slice ao xs.length cap] 162)).heap.size (w.alloc (.cells #[.int .u8 op, .int .i64 A, .int .i64 B, .slice ao xs.length cap] 162)) wr)) (fun _ wr => 2 - wr.iterPos w3.heap.size)
  case atStart => exact ⟨0, SO, Nat.zero_le _, rfl, hid (.inl ⟨rfl, rfl⟩), HI0, HBL⟩
  case round =>
    obtain ⟨k, acc, hk, rfl, hacc, HI, HB⟩ := hrel
    rcases (by omega : k = 0 ∨ k = 1 ∨ k = 2) with rfl | rfl | rfl
    · obtain rfl : acc = SO := by
        rcases hacc.out with ⟨e, h⟩ | ⟨e, h⟩ | ⟨e, h⟩
        all_goals first | exact h | (exfalso; omega)
      clear hacc
      have hnext : ∀ ty, (Instr.next (.pointer (some ⟨w3.heap.size, 0, none⟩)) true ty).run Tryz.prog wr = .ok (.tuple #[.bool true, .int .i64 0, .int .i32 97]) (wr.iterAt w3.heap.size (⟨#[97, 122]⟩ : ByteArray) 1) := fun ty => run_next_ascii_at wr w3.heap.size (⟨#[97, 122]⟩ : ByteArray) 0 ty HI.out (by decide) (by decide)
      have hmu := hid (show wr.iterPos w3.heap.size = 0 by simp [World.iterPos, HI.out])
      have hI1 := hid (iterAt_heap wr w3.heap.size (⟨#[97, 122]⟩ : ByteArray) 0 1 HI.out)
      have hb1 := hid (below_iterAt HB.out HSZ.out (⟨#[97, 122]⟩ : ByteArray) 1)
      generalize wr.iterAt w3.heap.size (⟨#[97, 122]⟩ : ByteArray) 1 = W1 at *
      obtain ⟨c0, c1, c2, c3⟩ := HC.out _ hb1.out
      have hlt := hid (lt_of_block hI1.out)
      go_wp2_with (go_at_call 101; refine (HUA.out _).mono ?_; rintro r w5 ⟨rfl, hb5⟩; have HB5 := hid (hb1.out.trans (hb5.mono hb1.out.size)); have HI5 := hid ((hb5.block w3.heap.size hlt.out).trans hI1.out); clear hb5)
      go_roundw
      case rel => exact ⟨1, T1, by decide, by rw [HT01.out], hid (by simp), HI5, HB5⟩
      case measure =>
        have h2 : w5.iterPos w3.heap.size = 1 := by simp [World.iterPos, HI5.out]
        rw [hmu.out, h2]; decide
    · obtain rfl : acc = T1 := by
        rcases hacc.out with ⟨e, h⟩ | ⟨e, h⟩ | ⟨e, h⟩
        all_goals first | exact h | (exfalso; omega)
      clear hacc
      have hnext : ∀ ty, (Instr.next (.pointer (some ⟨w3.heap.size, 0, none⟩)) true ty).run Tryz.prog wr = .ok (.tuple #[.bool true, .int .i64 1, .int .i32 122]) (wr.iterAt w3.heap.size (⟨#[97, 122]⟩ : ByteArray) 2) := fun ty => run_next_ascii_at wr w3.heap.size (⟨#[97, 122]⟩ : ByteArray) 1 ty HI.out (by decide) (by decide)
      have hmu := hid (show wr.iterPos w3.heap.size = 1 by simp [World.iterPos, HI.out])
      have hI1 := hid (iterAt_heap wr w3.heap.size (⟨#[97, 122]⟩ : ByteArray) 1 2 HI.out)
      have hb1 := hid (below_iterAt HB.out HSZ.out (⟨#[97, 122]⟩ : ByteArray) 2)
      generalize wr.iterAt w3.heap.size (⟨#[97, 122]⟩ : ByteArray) 2 = W1 at *
      obtain ⟨c0, c1, c2, c3⟩ := HC.out _ hb1.out
      have hlt := hid (lt_of_block hI1.out)
      go_wp2_with (go_at_call 34; refine (HCZ.out _).mono ?_; rintro r w5 ⟨rfl, hb5⟩; have HB5 := hid (hb1.out.trans (hb5.mono hb1.out.size)); have HI5 := hid ((hb5.block w3.heap.size hlt.out).trans hI1.out); clear hb5)
      go_roundw
      case rel => exact ⟨2, T2, by decide, by rw [HT12.out], hid (by simp), HI5, HB5⟩
      case measure =>
        have h2 : w5.iterPos w3.heap.size = 2 := by simp [World.iterPos, HI5.out]
        rw [hmu.out, h2]; decide
    · obtain rfl : acc = T2 := by
        rcases hacc.out with ⟨e, h⟩ | ⟨e, h⟩ | ⟨e, h⟩
        all_goals first | exact h | (exfalso; omega)
      clear hacc
      have hnext : ∀ ty, (Instr.next (.pointer (some ⟨w3.heap.size, 0, none⟩)) true ty).run Tryz.prog wr = _ := fun ty => run_next_end_at wr w3.heap.size (⟨#[97, 122]⟩ : ByteArray) 2 ty HI.out (by decide)
      go_wp2_with fail
      go_ret2
      exact ⟨by rw [← HEND.out]; rfl, HA.out.trans (HB.out.mono HA.out.size)⟩

set_option maxRecDepth 100000 in
set_option maxHeartbeats 8000000 in
theorem rwr_6 (op : Nat) (hop : op < 256) (hk : tB op = 6) (A B : Int) (hA : -9223372036854775808 ≤ A ∧ A ≤ 9223372036854775807) (xs : List Int) (v : Value) (w : World) (hM : MaxL w) (hx : Ints w .i64 v xs) (hok : chkI 6 A B xs = 0) :
    Calls Tryz.prog 150 #[insV op A B v] w fun e w' => e = .returned (.tuple #[.string (S (wrI 6 op A B xs)), .int .i64 0]) ∧ Below w.heap.size w w' := by
  obtain ⟨_, h16, gA, gB, gT⟩ := chk_ok hok
  have hA0 : Below w.heap.size w (w.alloc (.cells #[.int .u8 op, .int .i64 A, .int .i64 B, v] 162)) := (Below.refl _ _).alloc (Nat.le_refl _) _
  have hblk := Blk.new w #[.int .u8 op, .int .i64 A, .int .i64 B, v] 162 _ rfl
  have b0 := hblk.cell (i := 0) rfl
  have b1 := hblk.cell (i := 1) rfl
  have b2 := hblk.cell (i := 2) rfl
  have b3 := hblk.cell (i := 3) rfl
  have hMA := hM.below hA0
  have HCK := hid (rchk_any op hop A B xs v (w.alloc (.cells #[.int .u8 op, .int .i64 A, .int .i64 B, v] 162)) hMA (L1.below hx hA0))
  rw [hk, hok] at HCK
  have HBS := hid (fun w' (hb : Below (w.alloc (.cells #[.int .u8 op, .int .i64 A, .int .i64 B, v] 162)).heap.size (w.alloc (.cells #[.int .u8 op, .int .i64 A, .int .i64 B, v] 162)) w') => rbeside_any op hop w' (hMA.below hb))
  rw [hk, show S (sdL 6) = ⟨#[97, 98]⟩ from rfl] at HBS
  have HCO := hid (fun w' => chr_any (op : Int) w')
  have HCZ := hid (fun w' => chr_any 0 w')
  have HCA := hid (fun w' => chr_any A w')
  have HA := hid hA0
  have HX := hid (qHX hx op A B v 162)
  have HC := hid (qHC hblk)
  have hl1 : (S [byteOf (op : Int)]).size = 1 := S_size _
  obtain ⟨ao, cap, rfl, _⟩ := id hx
  clear hx hA0 hblk hk hok hM hMA
  have HUA := hid (fun w' => rlebU_ix A gA w')
  have hbA := isIx_bd gA
  have huA : (A : Int) % 18446744073709551616 = A := by omega
  have hlA := encU_len 9 A.toNat
  have hsA : (S (encU 9 A.toNat)).size = (encU 9 A.toNat).length := S_size _
  have HUB := hid (fun w' => rlebU_ix B gB w')
  have hbB := isIx_bd gB
  have huB : (B : Int) % 18446744073709551616 = B := by omega
  have hlB := encU_len 9 B.toNat
  have hsB : (S (encU 9 B.toNat)).size = (encU 9 B.toNat).length := S_size _
  obtain ⟨T0, hT0⟩ : ∃ T, T = S (byteOf (op : Int) :: ([] : List UInt8)) := ⟨_, rfl⟩
  obtain ⟨T1, hT1⟩ : ∃ T, T = S (byteOf (op : Int) :: (encU 9 A.toNat)) := ⟨_, rfl⟩
  obtain ⟨T2, hT2⟩ : ∃ T, T = S (byteOf (op : Int) :: (encU 9 A.toNat ++ encU 9 B.toNat)) := ⟨_, rfl⟩
  have HT01 := hid (show T0 ++ S (encU 9 A.toNat) = T1 from by rw [hT0, hT1, S_append]; rfl)
  have hz0 : ¬ 9223372036854775807 < T0.size + (S (encU 9 A.toNat)).size := by rw [hT0, S_size]; simp; omega
  have HT12 := hid (show T1 ++ S (encU 9 B.toNat) = T2 from by rw [hT1, hT2, S_append]; simp; try rfl)
  have hz1 : ¬ 9223372036854775807 < T1.size + (S (encU 9 B.toNat)).size := by rw [hT1, S_size]; simp; omega
  have HEND := hid (show T2 = S (wrI 6 op A B xs) from by rw [hT2]; rfl)
  have HSTART := hid (show S [byteOf (op : Int)] = T0 from by rw [hT0])
  clear gA gB gT h16 hl1 hlA hsA hbA hlB hsB hbB hT0 hT1 hT2
  generalize S (encU 9 A.toNat) = P0 at *
  generalize S (encU 9 B.toNat) = P1 at *
  generalize S [byteOf (op : Int)] = SO at *
  have h1 := HSTART.out
  clear HSTART
  subst h1
  go_enter Tryz.func150, Tryz.ntmps150
  go_wp2_with (first | (go_at_call 161; refine HCK.out.mono ?_; rintro r w1 ⟨rfl, hb1⟩; obtain ⟨y0, y1, y2, y3⟩ := HC.out _ hb1; have HB1 := hid hb1; clear hb1) | (go_at_call 34; with_reducible refine (HCO.out _).mono ?_; rintro r w2 ⟨rfl, hb2⟩; have HB2 := hid (HB1.out.trans (hb2.mono HB1.out.size)); obtain ⟨z0, z1, z2, z3⟩ := HC.out _ HB2.out; clear hb2) | (go_at_call 162; refine (HBS.out _ HB2.out).mono ?_; rintro r w3 ⟨rfl, hb3⟩; have HB3 := hid (HB2.out.trans (hb3.mono HB2.out.size)); clear hb3))
  have HI0 := hid (World.iter_heap w3 (⟨#[97, 98]⟩ : ByteArray) 0)
  have HBL := hid (HB3.out.alloc HB3.out.size (.stringIter (⟨#[97, 98]⟩ : ByteArray) 0))
  have HSZ := hid HB3.out.size
  clear b0 b1 b2 b3 y0 y1 y2 y3 z0 z1 z2 z3
  go_loopw [5] (fun o wr => ∃ (k : Nat) (acc : ByteArray), k ≤ 2 ∧ o = .string acc ∧ Hid ((k = 0 ∧ acc = SO) ∨ (k = 1 ∧ acc = T1) ∨ (k = 2 ∧ acc = T2)) ∧ Hid (wr.heap[w3.heap.size]? = some (.stringIter (⟨#[97, 98]⟩ : ByteArray) k)) ∧ Hid (Below (w.alloc (.cells #[.int .u8 op, .int .i64 A, .int .i64 B, .slice ao xs.length cap] 162)).heap.size (w.alloc (.cells #[.int .u8 op, .int .i64 A, .int .i64 B, .slice ao xs.length cap] 162)) wr)) (fun _ wr => 2 - wr.iterPos w3.heap.size)
  case atStart => exact ⟨0, SO, Nat.zero_le _, rfl, hid (.inl ⟨rfl, rfl⟩), HI0, HBL⟩
  case round =>
    obtain ⟨k, acc, hk, rfl, hacc, HI, HB⟩ := hrel
    rcases (by omega : k = 0 ∨ k = 1 ∨ k = 2) with rfl | rfl | rfl
    · obtain rfl : acc = SO := by
        rcases hacc.out with ⟨e, h⟩ | ⟨e, h⟩ | ⟨e, h⟩
        all_goals first | exact h | (exfalso; omega)
      clear hacc
      have hnext : ∀ ty, (Instr.next (.pointer (some ⟨w3.heap.size, 0, none⟩)) true ty).run Tryz.prog wr = .ok (.tuple #[.bool true, .int .i64 0, .int .i32 97]) (wr.iterAt w3.heap.size (⟨#[97, 98]⟩ : ByteArray) 1) := fun ty => run_next_ascii_at wr w3.heap.size (⟨#[97, 98]⟩ : ByteArray) 0 ty HI.out (by decide) (by decide)
      have hmu := hid (show wr.iterPos w3.heap.size = 0 by simp [World.iterPos, HI.out])
      have hI1 := hid (iterAt_heap wr w3.heap.size (⟨#[97, 98]⟩ : ByteArray) 0 1 HI.out)
      have hb1 := hid (below_iterAt HB.out HSZ.out (⟨#[97, 98]⟩ : ByteArray) 1)
      generalize wr.iterAt w3.heap.size (⟨#[97, 98]⟩ : ByteArray) 1 = W1 at *
      obtain ⟨c0, c1, c2, c3⟩ := HC.out _ hb1.out
      have hlt := hid (lt_of_block hI1.out)
      go_wp2_with (go_at_call 101; refine (HUA.out _).mono ?_; rintro r w5 ⟨rfl, hb5⟩; have HB5 := hid (hb1.out.trans (hb5.mono hb1.out.size)); have HI5 := hid ((hb5.block w3.heap.size hlt.out).trans hI1.out); clear hb5)
      go_roundw
      case rel => exact ⟨1, T1, by decide, by rw [HT01.out], hid (by simp), HI5, HB5⟩
      case measure =>
        have h2 : w5.iterPos w3.heap.size = 1 := by simp [World.iterPos, HI5.out]
        rw [hmu.out, h2]; decide
    · obtain rfl : acc = T1 := by
        rcases hacc.out with ⟨e, h⟩ | ⟨e, h⟩ | ⟨e, h⟩
        all_goals first | exact h | (exfalso; omega)
      clear hacc
      have hnext : ∀ ty, (Instr.next (.pointer (some ⟨w3.heap.size, 0, none⟩)) true ty).run Tryz.prog wr = .ok (.tuple #[.bool true, .int .i64 1, .int .i32 98]) (wr.iterAt w3.heap.size (⟨#[97, 98]⟩ : ByteArray) 2) := fun ty => run_next_ascii_at wr w3.heap.size (⟨#[97, 98]⟩ : ByteArray) 1 ty HI.out (by decide) (by decide)
      have hmu := hid (show wr.iterPos w3.heap.size = 1 by simp [World.iterPos, HI.out])
      have hI1 := hid (iterAt_heap wr w3.heap.size (⟨#[97, 98]⟩ : ByteArray) 1 2 HI.out)
      have hb1 := hid (below_iterAt HB.out HSZ.out (⟨#[97, 98]⟩ : ByteArray) 2)
      generalize wr.iterAt w3.heap.size (⟨#[97, 98]⟩ : ByteArray) 2 = W1 at *
      obtain ⟨c0, c1, c2, c3⟩ := HC.out _ hb1.out
      have hlt := hid (lt_of_block hI1.out)
      go_wp2_with (go_at_call 101; refine (HUB.out _).mono ?_; rintro r w5 ⟨rfl, hb5⟩; have HB5 := hid (hb1.out.trans (hb5.mono hb1.out.size)); have HI5 := hid ((hb5.block w3.heap.size hlt.out).trans hI1.out); clear hb5)
      go_roundw
      case rel => exact ⟨2, T2, by decide, by rw [HT12.out], hid (by simp), HI5, HB5⟩
      case measure =>
        have h2 : w5.iterPos w3.heap.size = 2 := by simp [World.iterPos, HI5.out]
        rw [hmu.out, h2]; decide
    · obtain rfl : acc = T2 := by
        rcases hacc.out with ⟨e, h⟩ | ⟨e, h⟩ | ⟨e, h⟩
        all_goals first | exact h | (exfalso; omega)
      clear hacc
      have hnext : ∀ ty, (Instr.next (.pointer (some ⟨w3.heap.size, 0, none⟩)) true ty).run Tryz.prog wr = _ := fun ty => run_next_end_at wr w3.heap.size (⟨#[97, 98]⟩ : ByteArray) 2 ty HI.out (by decide)
      go_wp2_with fail
      go_ret2
      exact ⟨by rw [← HEND.out]; rfl, HA.out.trans (HB.out.mono HA.out.size)⟩

set_option maxRecDepth 100000 in
set_option maxHeartbeats 8000000 in
theorem rwr_7 (op : Nat) (hop : op < 256) (hk : tB op = 7) (A B : Int) (_hA : -9223372036854775808 ≤ A ∧ A ≤ 9223372036854775807) (xs : List Int) (v : Value) (w : World) (hM : MaxL w) (hx : Ints w .i64 v xs) (hok : chkI 7 A B xs = 0) :
    Calls Tryz.prog 150 #[insV op A B v] w fun e w' => e = .returned (.tuple #[.string (S (wrI 7 op A B xs)), .int .i64 0]) ∧ Below w.heap.size w w' := by
  obtain ⟨_, h16, gA, gB, gT⟩ := chk_ok hok
  have hA0 : Below w.heap.size w (w.alloc (.cells #[.int .u8 op, .int .i64 A, .int .i64 B, v] 162)) := (Below.refl _ _).alloc (Nat.le_refl _) _
  have hblk := Blk.new w #[.int .u8 op, .int .i64 A, .int .i64 B, v] 162 _ rfl
  have b0 := hblk.cell (i := 0) rfl
  have b1 := hblk.cell (i := 1) rfl
  have b2 := hblk.cell (i := 2) rfl
  have b3 := hblk.cell (i := 3) rfl
  have hMA := hM.below hA0
  have HCK := hid (rchk_any op hop A B xs v (w.alloc (.cells #[.int .u8 op, .int .i64 A, .int .i64 B, v] 162)) hMA (L1.below hx hA0))
  rw [hk, hok] at HCK
  have HBS := hid (fun w' (hb : Below (w.alloc (.cells #[.int .u8 op, .int .i64 A, .int .i64 B, v] 162)).heap.size (w.alloc (.cells #[.int .u8 op, .int .i64 A, .int .i64 B, v] 162)) w') => rbeside_any op hop w' (hMA.below hb))
  rw [hk, show S (sdL 7) = ⟨#[122]⟩ from rfl] at HBS
  have HCO := hid (fun w' => chr_any (op : Int) w')
  have HCZ := hid (fun w' => chr_any 0 w')
  have HCA := hid (fun w' => chr_any A w')
  have HA := hid hA0
  have HX := hid (qHX hx op A B v 162)
  have HC := hid (qHC hblk)
  have hl1 : (S [byteOf (op : Int)]).size = 1 := S_size _
  obtain ⟨ao, cap, rfl, _⟩ := id hx
  clear hx hA0 hblk hk hok hM hMA
  have hs0 : (S [byteOf (0 : Int)]).size = 1 := S_size _
  obtain ⟨T0, hT0⟩ : ∃ T, T = S (byteOf (op : Int) :: ([] : List UInt8)) := ⟨_, rfl⟩
  obtain ⟨T1, hT1⟩ : ∃ T, T = S (byteOf (op : Int) :: ([0])) := ⟨_, rfl⟩
  have HT01 := hid (show T0 ++ S ([byteOf (0 : Int)]) = T1 from by rw [hT0, hT1, S_append]; rfl)
  have hz0 : ¬ 9223372036854775807 < T0.size + (S ([byteOf (0 : Int)])).size := by rw [hT0, S_size]; simp; omega
  have HEND := hid (show T1 = S (wrI 7 op A B xs) from by rw [hT1]; rfl)
  have HSTART := hid (show S [byteOf (op : Int)] = T0 from by rw [hT0])
  clear gA gB gT h16 hl1 hs0 hT0 hT1
  generalize S ([byteOf (0 : Int)]) = P0 at *
  generalize S [byteOf (op : Int)] = SO at *
  have h1 := HSTART.out
  clear HSTART
  subst h1
  go_enter Tryz.func150, Tryz.ntmps150
  go_wp2_with (first | (go_at_call 161; refine HCK.out.mono ?_; rintro r w1 ⟨rfl, hb1⟩; obtain ⟨y0, y1, y2, y3⟩ := HC.out _ hb1; have HB1 := hid hb1; clear hb1) | (go_at_call 34; with_reducible refine (HCO.out _).mono ?_; rintro r w2 ⟨rfl, hb2⟩; have HB2 := hid (HB1.out.trans (hb2.mono HB1.out.size)); obtain ⟨z0, z1, z2, z3⟩ := HC.out _ HB2.out; clear hb2) | (go_at_call 162; refine (HBS.out _ HB2.out).mono ?_; rintro r w3 ⟨rfl, hb3⟩; have HB3 := hid (HB2.out.trans (hb3.mono HB2.out.size)); clear hb3))
  have HI0 := hid (World.iter_heap w3 (⟨#[122]⟩ : ByteArray) 0)
  have HBL := hid (HB3.out.alloc HB3.out.size (.stringIter (⟨#[122]⟩ : ByteArray) 0))
  have HSZ := hid HB3.out.size
  clear b0 b1 b2 b3 y0 y1 y2 y3 z0 z1 z2 z3
  go_loopw [5] (fun o wr => ∃ (k : Nat) (acc : ByteArray), k ≤ 1 ∧ o = .string acc ∧ Hid ((k = 0 ∧ acc = SO) ∨ (k = 1 ∧ acc = T1)) ∧ Hid (wr.heap[w3.heap.size]? = some (.stringIter (⟨#[122]⟩ : ByteArray) k)) ∧ Hid (Below (w.alloc (.cells #[.int .u8 op, .int .i64 A, .int .i64 B, .slice ao xs.length cap] 162)).heap.size (w.alloc (.cells #[.int .u8 op, .int .i64 A, .int .i64 B, .slice ao xs.length cap] 162)) wr)) (fun _ wr => 1 - wr.iterPos w3.heap.size)
  case atStart => exact ⟨0, SO, Nat.zero_le _, rfl, hid (.inl ⟨rfl, rfl⟩), HI0, HBL⟩
  case round =>
    obtain ⟨k, acc, hk, rfl, hacc, HI, HB⟩ := hrel
    rcases (by omega : k = 0 ∨ k = 1) with rfl | rfl
    · obtain rfl : acc = SO := by
        rcases hacc.out with ⟨e, h⟩ | ⟨e, h⟩
        all_goals first | exact h | (exfalso; omega)
      clear hacc
      have hnext : ∀ ty, (Instr.next (.pointer (some ⟨w3.heap.size, 0, none⟩)) true ty).run Tryz.prog wr = .ok (.tuple #[.bool true, .int .i64 0, .int .i32 122]) (wr.iterAt w3.heap.size (⟨#[122]⟩ : ByteArray) 1) := fun ty => run_next_ascii_at wr w3.heap.size (⟨#[122]⟩ : ByteArray) 0 ty HI.out (by decide) (by decide)
      have hmu := hid (show wr.iterPos w3.heap.size = 0 by simp [World.iterPos, HI.out])
      have hI1 := hid (iterAt_heap wr w3.heap.size (⟨#[122]⟩ : ByteArray) 0 1 HI.out)
      have hb1 := hid (below_iterAt HB.out HSZ.out (⟨#[122]⟩ : ByteArray) 1)
      generalize wr.iterAt w3.heap.size (⟨#[122]⟩ : ByteArray) 1 = W1 at *
      obtain ⟨c0, c1, c2, c3⟩ := HC.out _ hb1.out
      have hlt := hid (lt_of_block hI1.out)
      go_wp2_with (go_at_call 34; refine (HCZ.out _).mono ?_; rintro r w5 ⟨rfl, hb5⟩; have HB5 := hid (hb1.out.trans (hb5.mono hb1.out.size)); have HI5 := hid ((hb5.block w3.heap.size hlt.out).trans hI1.out); clear hb5)
      go_roundw
      case rel => exact ⟨1, T1, by decide, by rw [HT01.out], hid (by simp), HI5, HB5⟩
      case measure =>
        have h2 : w5.iterPos w3.heap.size = 1 := by simp [World.iterPos, HI5.out]
        rw [hmu.out, h2]; decide
    · obtain rfl : acc = T1 := by
        rcases hacc.out with ⟨e, h⟩ | ⟨e, h⟩
        all_goals first | exact h | (exfalso; omega)
      clear hacc
      have hnext : ∀ ty, (Instr.next (.pointer (some ⟨w3.heap.size, 0, none⟩)) true ty).run Tryz.prog wr = _ := fun ty => run_next_end_at wr w3.heap.size (⟨#[122]⟩ : ByteArray) 1 ty HI.out (by decide)
      go_wp2_with fail
      go_ret2
      exact ⟨by rw [← HEND.out]; rfl, HA.out.trans (HB.out.mono HA.out.size)⟩

set_option maxRecDepth 100000 in
set_option maxHeartbeats 8000000 in
theorem rwr_8 (op : Nat) (hop : op < 256) (hk : tB op = 8) (A B : Int) (_hA : -9223372036854775808 ≤ A ∧ A ≤ 9223372036854775807) (xs : List Int) (v : Value) (w : World) (hM : MaxL w) (hx : Ints w .i64 v xs) (hok : chkI 8 A B xs = 0) :
    Calls Tryz.prog 150 #[insV op A B v] w fun e w' => e = .returned (.tuple #[.string (S (wrI 8 op A B xs)), .int .i64 0]) ∧ Below w.heap.size w w' := by
  obtain ⟨_, h16, gA, gB, gT⟩ := chk_ok hok
  have hA0 : Below w.heap.size w (w.alloc (.cells #[.int .u8 op, .int .i64 A, .int .i64 B, v] 162)) := (Below.refl _ _).alloc (Nat.le_refl _) _
  have hblk := Blk.new w #[.int .u8 op, .int .i64 A, .int .i64 B, v] 162 _ rfl
  have b0 := hblk.cell (i := 0) rfl
  have b1 := hblk.cell (i := 1) rfl
  have b2 := hblk.cell (i := 2) rfl
  have b3 := hblk.cell (i := 3) rfl
  have hMA := hM.below hA0
  have HCK := hid (rchk_any op hop A B xs v (w.alloc (.cells #[.int .u8 op, .int .i64 A, .int .i64 B, v] 162)) hMA (L1.below hx hA0))
  rw [hk, hok] at HCK
  have HBS := hid (fun w' (hb : Below (w.alloc (.cells #[.int .u8 op, .int .i64 A, .int .i64 B, v] 162)).heap.size (w.alloc (.cells #[.int .u8 op, .int .i64 A, .int .i64 B, v] 162)) w') => rbeside_any op hop w' (hMA.below hb))
  rw [hk, show S (sdL 8) = ⟨#[99]⟩ from rfl] at HBS
  have HCO := hid (fun w' => chr_any (op : Int) w')
  have HCZ := hid (fun w' => chr_any 0 w')
  have HCA := hid (fun w' => chr_any A w')
  have HA := hid hA0
  have HX := hid (qHX hx op A B v 162)
  have HC := hid (qHC hblk)
  have hl1 : (S [byteOf (op : Int)]).size = 1 := S_size _
  obtain ⟨ao, cap, rfl, _⟩ := id hx
  clear hx hA0 hblk hk hok hM hMA
  have HUA := hid (fun w' => rlebS_any A w')
  have hlA := encS_len 9 A
  have hsA : (S (encS 9 A)).size = (encS 9 A).length := S_size _
  obtain ⟨T0, hT0⟩ : ∃ T, T = S (byteOf (op : Int) :: ([] : List UInt8)) := ⟨_, rfl⟩
  obtain ⟨T1, hT1⟩ : ∃ T, T = S (byteOf (op : Int) :: (encS 9 A)) := ⟨_, rfl⟩
  have HT01 := hid (show T0 ++ S (encS 9 A) = T1 from by rw [hT0, hT1, S_append]; rfl)
  have hz0 : ¬ 9223372036854775807 < T0.size + (S (encS 9 A)).size := by rw [hT0, S_size]; simp; omega
  have HEND := hid (show T1 = S (wrI 8 op A B xs) from by rw [hT1]; rfl)
  have HSTART := hid (show S [byteOf (op : Int)] = T0 from by rw [hT0])
  clear gA gB gT h16 hl1 hlA hsA hT0 hT1
  generalize S (encS 9 A) = P0 at *
  generalize S [byteOf (op : Int)] = SO at *
  have h1 := HSTART.out
  clear HSTART
  subst h1
  go_enter Tryz.func150, Tryz.ntmps150
  go_wp2_with (first | (go_at_call 161; refine HCK.out.mono ?_; rintro r w1 ⟨rfl, hb1⟩; obtain ⟨y0, y1, y2, y3⟩ := HC.out _ hb1; have HB1 := hid hb1; clear hb1) | (go_at_call 34; with_reducible refine (HCO.out _).mono ?_; rintro r w2 ⟨rfl, hb2⟩; have HB2 := hid (HB1.out.trans (hb2.mono HB1.out.size)); obtain ⟨z0, z1, z2, z3⟩ := HC.out _ HB2.out; clear hb2) | (go_at_call 162; refine (HBS.out _ HB2.out).mono ?_; rintro r w3 ⟨rfl, hb3⟩; have HB3 := hid (HB2.out.trans (hb3.mono HB2.out.size)); clear hb3))
  have HI0 := hid (World.iter_heap w3 (⟨#[99]⟩ : ByteArray) 0)
  have HBL := hid (HB3.out.alloc HB3.out.size (.stringIter (⟨#[99]⟩ : ByteArray) 0))
  have HSZ := hid HB3.out.size
  clear b0 b1 b2 b3 y0 y1 y2 y3 z0 z1 z2 z3
  go_loopw [5] (fun o wr => ∃ (k : Nat) (acc : ByteArray), k ≤ 1 ∧ o = .string acc ∧ Hid ((k = 0 ∧ acc = SO) ∨ (k = 1 ∧ acc = T1)) ∧ Hid (wr.heap[w3.heap.size]? = some (.stringIter (⟨#[99]⟩ : ByteArray) k)) ∧ Hid (Below (w.alloc (.cells #[.int .u8 op, .int .i64 A, .int .i64 B, .slice ao xs.length cap] 162)).heap.size (w.alloc (.cells #[.int .u8 op, .int .i64 A, .int .i64 B, .slice ao xs.length cap] 162)) wr)) (fun _ wr => 1 - wr.iterPos w3.heap.size)
  case atStart => exact ⟨0, SO, Nat.zero_le _, rfl, hid (.inl ⟨rfl, rfl⟩), HI0, HBL⟩
  case round =>
    obtain ⟨k, acc, hk, rfl, hacc, HI, HB⟩ := hrel
    rcases (by omega : k = 0 ∨ k = 1) with rfl | rfl
    · obtain rfl : acc = SO := by
        rcases hacc.out with ⟨e, h⟩ | ⟨e, h⟩
        all_goals first | exact h | (exfalso; omega)
      clear hacc
      have hnext : ∀ ty, (Instr.next (.pointer (some ⟨w3.heap.size, 0, none⟩)) true ty).run Tryz.prog wr = .ok (.tuple #[.bool true, .int .i64 0, .int .i32 99]) (wr.iterAt w3.heap.size (⟨#[99]⟩ : ByteArray) 1) := fun ty => run_next_ascii_at wr w3.heap.size (⟨#[99]⟩ : ByteArray) 0 ty HI.out (by decide) (by decide)
      have hmu := hid (show wr.iterPos w3.heap.size = 0 by simp [World.iterPos, HI.out])
      have hI1 := hid (iterAt_heap wr w3.heap.size (⟨#[99]⟩ : ByteArray) 0 1 HI.out)
      have hb1 := hid (below_iterAt HB.out HSZ.out (⟨#[99]⟩ : ByteArray) 1)
      generalize wr.iterAt w3.heap.size (⟨#[99]⟩ : ByteArray) 1 = W1 at *
      obtain ⟨c0, c1, c2, c3⟩ := HC.out _ hb1.out
      have hlt := hid (lt_of_block hI1.out)
      go_wp2_with (go_at_call 99; refine (HUA.out _).mono ?_; rintro r w5 ⟨rfl, hb5⟩; have HB5 := hid (hb1.out.trans (hb5.mono hb1.out.size)); have HI5 := hid ((hb5.block w3.heap.size hlt.out).trans hI1.out); clear hb5)
      go_roundw
      case rel => exact ⟨1, T1, by decide, by rw [HT01.out], hid (by simp), HI5, HB5⟩
      case measure =>
        have h2 : w5.iterPos w3.heap.size = 1 := by simp [World.iterPos, HI5.out]
        rw [hmu.out, h2]; decide
    · obtain rfl : acc = T1 := by
        rcases hacc.out with ⟨e, h⟩ | ⟨e, h⟩
        all_goals first | exact h | (exfalso; omega)
      clear hacc
      have hnext : ∀ ty, (Instr.next (.pointer (some ⟨w3.heap.size, 0, none⟩)) true ty).run Tryz.prog wr = _ := fun ty => run_next_end_at wr w3.heap.size (⟨#[99]⟩ : ByteArray) 1 ty HI.out (by decide)
      go_wp2_with fail
      go_ret2
      exact ⟨by rw [← HEND.out]; rfl, HA.out.trans (HB.out.mono HA.out.size)⟩

set_option maxRecDepth 100000 in
set_option maxHeartbeats 8000000 in
theorem rwr_9 (op : Nat) (hop : op < 256) (hk : tB op = 9) (A B : Int) (_hA : -9223372036854775808 ≤ A ∧ A ≤ 9223372036854775807) (xs : List Int) (v : Value) (w : World) (hM : MaxL w) (hx : Ints w .i64 v xs) (hok : chkI 9 A B xs = 0) :
    Calls Tryz.prog 150 #[insV op A B v] w fun e w' => e = .returned (.tuple #[.string (S (wrI 9 op A B xs)), .int .i64 0]) ∧ Below w.heap.size w w' := by
  obtain ⟨_, h16, gA, gB, gT⟩ := chk_ok hok
  have hA0 : Below w.heap.size w (w.alloc (.cells #[.int .u8 op, .int .i64 A, .int .i64 B, v] 162)) := (Below.refl _ _).alloc (Nat.le_refl _) _
  have hblk := Blk.new w #[.int .u8 op, .int .i64 A, .int .i64 B, v] 162 _ rfl
  have b0 := hblk.cell (i := 0) rfl
  have b1 := hblk.cell (i := 1) rfl
  have b2 := hblk.cell (i := 2) rfl
  have b3 := hblk.cell (i := 3) rfl
  have hMA := hM.below hA0
  have HCK := hid (rchk_any op hop A B xs v (w.alloc (.cells #[.int .u8 op, .int .i64 A, .int .i64 B, v] 162)) hMA (L1.below hx hA0))
  rw [hk, hok] at HCK
  have HBS := hid (fun w' (hb : Below (w.alloc (.cells #[.int .u8 op, .int .i64 A, .int .i64 B, v] 162)).heap.size (w.alloc (.cells #[.int .u8 op, .int .i64 A, .int .i64 B, v] 162)) w') => rbeside_any op hop w' (hMA.below hb))
  rw [hk, show S (sdL 9) = ⟨#[100]⟩ from rfl] at HBS
  have HCO := hid (fun w' => chr_any (op : Int) w')
  have HCZ := hid (fun w' => chr_any 0 w')
  have HCA := hid (fun w' => chr_any A w')
  have HA := hid hA0
  have HX := hid (qHX hx op A B v 162)
  have HC := hid (qHC hblk)
  have hl1 : (S [byteOf (op : Int)]).size = 1 := S_size _
  obtain ⟨ao, cap, rfl, _⟩ := id hx
  clear hx hA0 hblk hk hok hM hMA
  have HUA := hid (fun w' => rlebS_any A w')
  have hlA := encS_len 9 A
  have hsA : (S (encS 9 A)).size = (encS 9 A).length := S_size _
  obtain ⟨T0, hT0⟩ : ∃ T, T = S (byteOf (op : Int) :: ([] : List UInt8)) := ⟨_, rfl⟩
  obtain ⟨T1, hT1⟩ : ∃ T, T = S (byteOf (op : Int) :: (encS 9 A)) := ⟨_, rfl⟩
  have HT01 := hid (show T0 ++ S (encS 9 A) = T1 from by rw [hT0, hT1, S_append]; rfl)
  have hz0 : ¬ 9223372036854775807 < T0.size + (S (encS 9 A)).size := by rw [hT0, S_size]; simp; omega
  have HEND := hid (show T1 = S (wrI 9 op A B xs) from by rw [hT1]; rfl)
  have HSTART := hid (show S [byteOf (op : Int)] = T0 from by rw [hT0])
  clear gA gB gT h16 hl1 hlA hsA hT0 hT1
  generalize S (encS 9 A) = P0 at *
  generalize S [byteOf (op : Int)] = SO at *
  have h1 := HSTART.out
  clear HSTART
  subst h1
  go_enter Tryz.func150, Tryz.ntmps150
  go_wp2_with (first | (go_at_call 161; refine HCK.out.mono ?_; rintro r w1 ⟨rfl, hb1⟩; obtain ⟨y0, y1, y2, y3⟩ := HC.out _ hb1; have HB1 := hid hb1; clear hb1) | (go_at_call 34; with_reducible refine (HCO.out _).mono ?_; rintro r w2 ⟨rfl, hb2⟩; have HB2 := hid (HB1.out.trans (hb2.mono HB1.out.size)); obtain ⟨z0, z1, z2, z3⟩ := HC.out _ HB2.out; clear hb2) | (go_at_call 162; refine (HBS.out _ HB2.out).mono ?_; rintro r w3 ⟨rfl, hb3⟩; have HB3 := hid (HB2.out.trans (hb3.mono HB2.out.size)); clear hb3))
  have HI0 := hid (World.iter_heap w3 (⟨#[100]⟩ : ByteArray) 0)
  have HBL := hid (HB3.out.alloc HB3.out.size (.stringIter (⟨#[100]⟩ : ByteArray) 0))
  have HSZ := hid HB3.out.size
  clear b0 b1 b2 b3 y0 y1 y2 y3 z0 z1 z2 z3
  go_loopw [5] (fun o wr => ∃ (k : Nat) (acc : ByteArray), k ≤ 1 ∧ o = .string acc ∧ Hid ((k = 0 ∧ acc = SO) ∨ (k = 1 ∧ acc = T1)) ∧ Hid (wr.heap[w3.heap.size]? = some (.stringIter (⟨#[100]⟩ : ByteArray) k)) ∧ Hid (Below (w.alloc (.cells #[.int .u8 op, .int .i64 A, .int .i64 B, .slice ao xs.length cap] 162)).heap.size (w.alloc (.cells #[.int .u8 op, .int .i64 A, .int .i64 B, .slice ao xs.length cap] 162)) wr)) (fun _ wr => 1 - wr.iterPos w3.heap.size)
  case atStart => exact ⟨0, SO, Nat.zero_le _, rfl, hid (.inl ⟨rfl, rfl⟩), HI0, HBL⟩
  case round =>
    obtain ⟨k, acc, hk, rfl, hacc, HI, HB⟩ := hrel
    rcases (by omega : k = 0 ∨ k = 1) with rfl | rfl
    · obtain rfl : acc = SO := by
        rcases hacc.out with ⟨e, h⟩ | ⟨e, h⟩
        all_goals first | exact h | (exfalso; omega)
      clear hacc
      have hnext : ∀ ty, (Instr.next (.pointer (some ⟨w3.heap.size, 0, none⟩)) true ty).run Tryz.prog wr = .ok (.tuple #[.bool true, .int .i64 0, .int .i32 100]) (wr.iterAt w3.heap.size (⟨#[100]⟩ : ByteArray) 1) := fun ty => run_next_ascii_at wr w3.heap.size (⟨#[100]⟩ : ByteArray) 0 ty HI.out (by decide) (by decide)
      have hmu := hid (show wr.iterPos w3.heap.size = 0 by simp [World.iterPos, HI.out])
      have hI1 := hid (iterAt_heap wr w3.heap.size (⟨#[100]⟩ : ByteArray) 0 1 HI.out)
      have hb1 := hid (below_iterAt HB.out HSZ.out (⟨#[100]⟩ : ByteArray) 1)
      generalize wr.iterAt w3.heap.size (⟨#[100]⟩ : ByteArray) 1 = W1 at *
      obtain ⟨c0, c1, c2, c3⟩ := HC.out _ hb1.out
      have hlt := hid (lt_of_block hI1.out)
      go_wp2_with (go_at_call 99; refine (HUA.out _).mono ?_; rintro r w5 ⟨rfl, hb5⟩; have HB5 := hid (hb1.out.trans (hb5.mono hb1.out.size)); have HI5 := hid ((hb5.block w3.heap.size hlt.out).trans hI1.out); clear hb5)
      go_roundw
      case rel => exact ⟨1, T1, by decide, by rw [HT01.out], hid (by simp), HI5, HB5⟩
      case measure =>
        have h2 : w5.iterPos w3.heap.size = 1 := by simp [World.iterPos, HI5.out]
        rw [hmu.out, h2]; decide
    · obtain rfl : acc = T1 := by
        rcases hacc.out with ⟨e, h⟩ | ⟨e, h⟩
        all_goals first | exact h | (exfalso; omega)
      clear hacc
      have hnext : ∀ ty, (Instr.next (.pointer (some ⟨w3.heap.size, 0, none⟩)) true ty).run Tryz.prog wr = _ := fun ty => run_next_end_at wr w3.heap.size (⟨#[100]⟩ : ByteArray) 1 ty HI.out (by decide)
      go_wp2_with fail
      go_ret2
      exact ⟨by rw [← HEND.out]; rfl, HA.out.trans (HB.out.mono HA.out.size)⟩
end Go.Proofs.YthoalneknadheaaGreatDoor
