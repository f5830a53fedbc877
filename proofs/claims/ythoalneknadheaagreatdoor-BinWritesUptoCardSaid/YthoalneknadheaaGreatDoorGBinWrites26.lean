/-
  INSTRUCTIONS: the program's Write. Condition: the number is a byte.
-/
import Derived.Test.YthoalneknadheaaGreatDoorGBinWrites5
import Derived.Test.YthoalneknadheaaGreatDoorGBinWrites8
import Derived.Test.YthoalneknadheaaGreatDoorGBinWrites14
namespace Go.Proofs.YthoalneknadheaaGreatDoor
open Go.RowKit Go.Lib
attribute [local go_sem ↓] Go.wp_at_zero Go.wp_at_succ

def wrB (k : Nat) (A B : Int) (xs : List Int) : List UInt8 := match k with
  | 2 => [byteOf A]
  | 3 => encU 9 A.toNat
  | 4 => encU 9 xs.length ++ (xs.flatMap (fun n => encU 9 n.toNat) ++ encU 9 A.toNat)
  | 5 => encU 9 A.toNat ++ [0]
  | 6 => encU 9 A.toNat ++ encU 9 B.toNat
  | 7 => [0]
  | 8 => encS 9 A
  | 9 => encS 9 A
  | _ => []
def wrI (k op : Nat) (A B : Int) (xs : List Int) : List UInt8 := byteOf op :: wrB k A B xs
theorem chk_ok {k : Nat} {A B : Int} {xs : List Int} (h : chkI k A B xs = 0) : k ≠ 0 ∧ ¬ 16 < xs.length ∧ okA k A = true ∧ okB k B = true ∧ okT k xs = true := by
  unfold chkI at h
  by_cases h0 : k = 0
  · rw [if_pos h0] at h; omega
  rw [if_neg h0] at h
  by_cases h1 : 16 < xs.length
  · rw [if_pos h1] at h; omega
  rw [if_neg h1] at h
  by_cases h2 : (okA k A && okB k B && okT k xs) = true
  · simp only [Bool.and_eq_true] at h2
    exact ⟨h0, h1, h2.1.1, h2.1.2, h2.2⟩
  · rw [if_neg h2] at h; omega
theorem isIx_bd {n : Int} (h : isIx n = true) : 0 ≤ n ∧ n ≤ 4294967295 := of_decide_eq_true h
theorem conv_one (x : Int) (w : World) : (convert 40 9 (.slice (some ⟨w.heap.size, 0, none⟩) 1 1)).run Tryz.prog (w.alloc (.cells #[.int .u8 x] 5)) = .ok (.string (S [UInt8.ofNat x.toNat])) (w.alloc (.cells #[.int .u8 x] 5)) := by
  have hc := conv_bytes (Ints.made' w .u8 5 [x] w.heap.size rfl (by simp))
  simpa only [List.length_cons, List.length_nil, List.map_cons, List.map_nil, Nat.zero_add] using hc
theorem encS_len (f : Nat) : ∀ n : Int, (encS f n).length ≤ f + 1 := by
  induction f with
  | zero => intro n; simp [encS]
  | succ f ih =>
    intro n
    unfold encS
    split
    · simp
    · have := ih (n / 128)
      simp
      omega
theorem cat_ok (a b : List UInt8) (h : a.length ≤ 1000) (h2 : b.length ≤ 1000) : ¬ 9223372036854775807 < (S a).size + (S b).size := by
  rw [S_size, S_size]; omega
theorem lebU_ix (A : Int) (h : isIx A = true) (w : World) : Calls Tryz.prog 12 #[.int .u64 A] w fun e w' => e = .returned (.string (S (encU 9 A.toNat))) ∧ Below w.heap.size w w' := by
  have hb := isIx_bd h
  obtain ⟨n, rfl⟩ := Int.eq_ofNat_of_zero_le hb.1
  exact lebU_any n w (by omega)

set_option maxRecDepth 100000 in
set_option maxHeartbeats 8000000 in
theorem pwr_1 (op : Nat) (hop : op < 256) (hk : tB op = 1) (A B : Int) (hA : -9223372036854775808 ≤ A ∧ A ≤ 9223372036854775807) (xs : List Int) (v : Value) (w : World) (hx : Ints w .i64 v xs) (hok : chkI 1 A B xs = 0) :
    Calls Tryz.prog 127 #[insV op A B v] w fun e w' => e = .returned (.tuple #[.string (S (wrI 1 op A B xs)), .int .i64 0]) ∧ Below w.heap.size w w' := by
  have HBS := hid (fun w' => besides_any op hop w')
  rw [hk] at HBS
  obtain ⟨_, h16, gA, gB, gT⟩ := chk_ok hok
  have hA0 : Below w.heap.size w (w.alloc (.cells #[.int .u8 op, .int .i64 A, .int .i64 B, v] 162)) := (Below.refl _ _).alloc (Nat.le_refl _) _
  have hblk := Blk.new w #[.int .u8 op, .int .i64 A, .int .i64 B, v] 162 _ rfl
  have b0 := hblk.cell (i := 0) rfl
  have b1 := hblk.cell (i := 1) rfl
  have b2 := hblk.cell (i := 2) rfl
  have b3 := hblk.cell (i := 3) rfl
  have HCK := hid (pchk_any op hop A B hA xs v (w.alloc (.cells #[.int .u8 op, .int .i64 A, .int .i64 B, v] 162)) (L1.below hx hA0))
  rw [hk, hok] at HCK
  have HA := hid hA0
  have HX := hid (qHX hx op A B v 162)
  have HC := hid (qHC hblk)
  obtain ⟨ao, cap, rfl, _⟩ := id hx
  have hcv := fun wx => conv_one (op : Int) wx
  have hob : UInt8.ofNat (op : Int).toNat = byteOf op := by unfold byteOf; congr 1; omega
  rw [hob] at hcv
  clear hx hA0 hblk hk hok hob
  clear gA gB gT h16
  go_enter Tryz.func127, Tryz.ntmps127
  go_wp2_with (first | (go_at_call 144; refine HCK.out.mono ?_; rintro r w1 ⟨rfl, hb1⟩; obtain ⟨y0, y1, y2, y3⟩ := HC.out _ hb1; have q0 := fun o => cell_alloc o y0; have q1 := fun o => cell_alloc o y1; have q3 := fun o => cell_alloc o y3; have HB1 := hid hb1; clear hb1) | (go_at_call 147; refine (HBS.out _).mono ?_; rintro r w2 ⟨rfl, hb2⟩; have HB2 := hid (HB1.out.trans ((((Below.refl w1.heap.size w1).alloc (Nat.le_refl _) _).trans (hb2.mono (((Below.refl w1.heap.size w1).alloc (Nat.le_refl _) _).size))).mono HB1.out.size)); obtain ⟨z0, z1, z2, z3⟩ := HC.out _ HB2.out; clear hb2))
  go_ret2
  exact ⟨rfl, HA.out.trans (HB2.out.mono HA.out.size)⟩

set_option maxRecDepth 100000 in
set_option maxHeartbeats 8000000 in
theorem pwr_2 (op : Nat) (hop : op < 256) (hk : tB op = 2) (A B : Int) (hA : -9223372036854775808 ≤ A ∧ A ≤ 9223372036854775807) (xs : List Int) (v : Value) (w : World) (hx : Ints w .i64 v xs) (hok : chkI 2 A B xs = 0) :
    Calls Tryz.prog 127 #[insV op A B v] w fun e w' => e = .returned (.tuple #[.string (S (wrI 2 op A B xs)), .int .i64 0]) ∧ Below w.heap.size w w' := by
  have HBS := hid (fun w' => besides_any op hop w')
  rw [hk] at HBS
  obtain ⟨_, h16, gA, gB, gT⟩ := chk_ok hok
  have hA0 : Below w.heap.size w (w.alloc (.cells #[.int .u8 op, .int .i64 A, .int .i64 B, v] 162)) := (Below.refl _ _).alloc (Nat.le_refl _) _
  have hblk := Blk.new w #[.int .u8 op, .int .i64 A, .int .i64 B, v] 162 _ rfl
  have b0 := hblk.cell (i := 0) rfl
  have b1 := hblk.cell (i := 1) rfl
  have b2 := hblk.cell (i := 2) rfl
  have b3 := hblk.cell (i := 3) rfl
  have HCK := hid (pchk_any op hop A B hA xs v (w.alloc (.cells #[.int .u8 op, .int .i64 A, .int .i64 B, v] 162)) (L1.below hx hA0))
  rw [hk, hok] at HCK
  have HA := hid hA0
  have HX := hid (qHX hx op A B v 162)
  have HC := hid (qHC hblk)
  obtain ⟨ao, cap, rfl, _⟩ := id hx
  have hcv := fun wx => conv_one (op : Int) wx
  have hob : UInt8.ofNat (op : Int).toNat = byteOf op := by unfold byteOf; congr 1; omega
  rw [hob] at hcv
  clear hx hA0 hblk hk hok hob
  have hAA : A = 64 ∨ A = 126 ∨ A = 127 := of_decide_eq_true gA
  have hcv2 := fun x wx => conv_one x wx
  have hS := hid (show S [byteOf (op : Int)] ++ S [byteOf A] = S (wrI 2 op A B xs) from S_append _ _)
  have hcat := cat_ok [byteOf op] [byteOf A] (by simp) (by simp)
  have hAb : UInt8.ofNat A.toNat = byteOf A := by unfold byteOf; congr 1; omega
  have hA2 : A % 256 = A := by omega
  have hcA := fun wx => hcv2 A wx
  rw [hAb] at hcA
  clear gA gB gT h16 hcv2 hAb hAA
  generalize S [byteOf (op : Int)] = SO at *
  generalize S [byteOf A] = SE at *
  go_enter Tryz.func127, Tryz.ntmps127
  go_wp2_with (first | (go_at_call 144; refine HCK.out.mono ?_; rintro r w1 ⟨rfl, hb1⟩; obtain ⟨y0, y1, y2, y3⟩ := HC.out _ hb1; have q0 := fun o => cell_alloc o y0; have q1 := fun o => cell_alloc o y1; have q3 := fun o => cell_alloc o y3; have HB1 := hid hb1; clear hb1) | (go_at_call 147; refine (HBS.out _).mono ?_; rintro r w2 ⟨rfl, hb2⟩; have HB2 := hid (HB1.out.trans ((((Below.refl w1.heap.size w1).alloc (Nat.le_refl _) _).trans (hb2.mono (((Below.refl w1.heap.size w1).alloc (Nat.le_refl _) _).size))).mono HB1.out.size)); obtain ⟨z0, z1, z2, z3⟩ := HC.out _ HB2.out; clear hb2))
  go_ret2
  exact ⟨by rw [← hS.out]; rfl, (HA.out.trans (HB2.out.mono HA.out.size)).alloc (HA.out.trans (HB2.out.mono HA.out.size)).size _⟩

set_option maxRecDepth 100000 in
set_option maxHeartbeats 8000000 in
theorem pwr_3 (op : Nat) (hop : op < 256) (hk : tB op = 3) (A B : Int) (hA : -9223372036854775808 ≤ A ∧ A ≤ 9223372036854775807) (xs : List Int) (v : Value) (w : World) (hx : Ints w .i64 v xs) (hok : chkI 3 A B xs = 0) :
    Calls Tryz.prog 127 #[insV op A B v] w fun e w' => e = .returned (.tuple #[.string (S (wrI 3 op A B xs)), .int .i64 0]) ∧ Below w.heap.size w w' := by
  have HBS := hid (fun w' => besides_any op hop w')
  rw [hk] at HBS
  obtain ⟨_, h16, gA, gB, gT⟩ := chk_ok hok
  have hA0 : Below w.heap.size w (w.alloc (.cells #[.int .u8 op, .int .i64 A, .int .i64 B, v] 162)) := (Below.refl _ _).alloc (Nat.le_refl _) _
  have hblk := Blk.new w #[.int .u8 op, .int .i64 A, .int .i64 B, v] 162 _ rfl
  have b0 := hblk.cell (i := 0) rfl
  have b1 := hblk.cell (i := 1) rfl
  have b2 := hblk.cell (i := 2) rfl
  have b3 := hblk.cell (i := 3) rfl
  have HCK := hid (pchk_any op hop A B hA xs v (w.alloc (.cells #[.int .u8 op, .int .i64 A, .int .i64 B, v] 162)) (L1.below hx hA0))
  rw [hk, hok] at HCK
  have HA := hid hA0
  have HX := hid (qHX hx op A B v 162)
  have HC := hid (qHC hblk)
  obtain ⟨ao, cap, rfl, _⟩ := id hx
  have hcv := fun wx => conv_one (op : Int) wx
  have hob : UInt8.ofNat (op : Int).toNat = byteOf op := by unfold byteOf; congr 1; omega
  rw [hob] at hcv
  clear hx hA0 hblk hk hok hob
  have HU := hid (fun w' => lebU_ix A gA w')
  have hbd := isIx_bd gA
  have hlen := encU_len 9 A.toNat
  have hu : (A : Int) % 18446744073709551616 = A := by omega
  have hl1 : (S [byteOf (op : Int)]).size = 1 := S_size _
  have hl2 : (S (encU 9 A.toNat)).size = (encU 9 A.toNat).length := S_size _
  have hS := hid (show S [byteOf (op : Int)] ++ S (encU 9 A.toNat) = S (wrI 3 op A B xs) from S_append _ _)
  have hcat : ¬ 9223372036854775807 < (S [byteOf (op : Int)]).size + (S (encU 9 A.toNat)).size := by omega
  clear gB gT h16 hlen hl1 hl2 gA
  generalize S [byteOf (op : Int)] = SO at *
  generalize S (encU 9 A.toNat) = SE at *
  go_enter Tryz.func127, Tryz.ntmps127
  go_wp2_with (first | (go_at_call 144; refine HCK.out.mono ?_; rintro r w1 ⟨rfl, hb1⟩; obtain ⟨y0, y1, y2, y3⟩ := HC.out _ hb1; have q0 := fun o => cell_alloc o y0; have q1 := fun o => cell_alloc o y1; have q3 := fun o => cell_alloc o y3; have HB1 := hid hb1; clear hb1) | (go_at_call 147; refine (HBS.out _).mono ?_; rintro r w2 ⟨rfl, hb2⟩; have HB2 := hid (HB1.out.trans ((((Below.refl w1.heap.size w1).alloc (Nat.le_refl _) _).trans (hb2.mono (((Below.refl w1.heap.size w1).alloc (Nat.le_refl _) _).size))).mono HB1.out.size)); obtain ⟨z0, z1, z2, z3⟩ := HC.out _ HB2.out; clear hb2) | (go_at_call 12; with_reducible refine (HU.out _).mono ?_; rintro r w3 ⟨rfl, hb3⟩; obtain ⟨u0, u1, u2, u3⟩ := HC.out _ (HB2.out.trans (hb3.mono HB2.out.size)); have HB3 := hid (HB2.out.trans (hb3.mono HB2.out.size)); clear hb3))
  go_ret2
  exact ⟨by rw [← hS.out]; rfl, HA.out.trans (HB3.out.mono HA.out.size)⟩

set_option maxRecDepth 100000 in
set_option maxHeartbeats 8000000 in
theorem pwr_5 (op : Nat) (hop : op < 256) (hk : tB op = 5) (A B : Int) (hA : -9223372036854775808 ≤ A ∧ A ≤ 9223372036854775807) (xs : List Int) (v : Value) (w : World) (hx : Ints w .i64 v xs) (hok : chkI 5 A B xs = 0) :
    Calls Tryz.prog 127 #[insV op A B v] w fun e w' => e = .returned (.tuple #[.string (S (wrI 5 op A B xs)), .int .i64 0]) ∧ Below w.heap.size w w' := by
  have HBS := hid (fun w' => besides_any op hop w')
  rw [hk] at HBS
  obtain ⟨_, h16, gA, gB, gT⟩ := chk_ok hok
  have hA0 : Below w.heap.size w (w.alloc (.cells #[.int .u8 op, .int .i64 A, .int .i64 B, v] 162)) := (Below.refl _ _).alloc (Nat.le_refl _) _
  have hblk := Blk.new w #[.int .u8 op, .int .i64 A, .int .i64 B, v] 162 _ rfl
  have b0 := hblk.cell (i := 0) rfl
  have b1 := hblk.cell (i := 1) rfl
  have b2 := hblk.cell (i := 2) rfl
  have b3 := hblk.cell (i := 3) rfl
  have HCK := hid (pchk_any op hop A B hA xs v (w.alloc (.cells #[.int .u8 op, .int .i64 A, .int .i64 B, v] 162)) (L1.below hx hA0))
  rw [hk, hok] at HCK
  have HA := hid hA0
  have HX := hid (qHX hx op A B v 162)
  have HC := hid (qHC hblk)
  obtain ⟨ao, cap, rfl, _⟩ := id hx
  have hcv := fun wx => conv_one (op : Int) wx
  have hob : UInt8.ofNat (op : Int).toNat = byteOf op := by unfold byteOf; congr 1; omega
  rw [hob] at hcv
  clear hx hA0 hblk hk hok hob
  have HU := hid (fun w' => lebU_ix A gA w')
  have hbd := isIx_bd gA
  have hlen := encU_len 9 A.toNat
  have hu : (A : Int) % 18446744073709551616 = A := by omega
  have hl1 : (S [byteOf (op : Int)]).size = 1 := S_size _
  have hl2 : (S (encU 9 A.toNat)).size = (encU 9 A.toNat).length := S_size _
  have hS := hid (show S [byteOf (op : Int)] ++ (S (encU 9 A.toNat) ++ (⟨#[0]⟩ : ByteArray)) = S (wrI 5 op A B xs) from by rw [show (⟨#[0]⟩ : ByteArray) = S [0] from rfl, S_append, S_append]; rfl)
  have hcat : ¬ 9223372036854775807 < (S [byteOf (op : Int)]).size + ((S (encU 9 A.toNat)).size + 1) := by omega
  have hcat2 : ¬ 9223372036854775807 < (S (encU 9 A.toNat)).size + 1 := by omega
  clear gB gT h16 hlen hl1 hl2 gA
  generalize S [byteOf (op : Int)] = SO at *
  generalize S (encU 9 A.toNat) = SE at *
  go_enter Tryz.func127, Tryz.ntmps127
  go_wp2_with (first | (go_at_call 144; refine HCK.out.mono ?_; rintro r w1 ⟨rfl, hb1⟩; obtain ⟨y0, y1, y2, y3⟩ := HC.out _ hb1; have q0 := fun o => cell_alloc o y0; have q1 := fun o => cell_alloc o y1; have q3 := fun o => cell_alloc o y3; have HB1 := hid hb1; clear hb1) | (go_at_call 147; refine (HBS.out _).mono ?_; rintro r w2 ⟨rfl, hb2⟩; have HB2 := hid (HB1.out.trans ((((Below.refl w1.heap.size w1).alloc (Nat.le_refl _) _).trans (hb2.mono (((Below.refl w1.heap.size w1).alloc (Nat.le_refl _) _).size))).mono HB1.out.size)); obtain ⟨z0, z1, z2, z3⟩ := HC.out _ HB2.out; clear hb2) | (go_at_call 12; with_reducible refine (HU.out _).mono ?_; rintro r w3 ⟨rfl, hb3⟩; obtain ⟨u0, u1, u2, u3⟩ := HC.out _ (HB2.out.trans (hb3.mono HB2.out.size)); have HB3 := hid (HB2.out.trans (hb3.mono HB2.out.size)); clear hb3))
  go_ret2
  exact ⟨by rw [← hS.out]; rfl, HA.out.trans (HB3.out.mono HA.out.size)⟩

set_option maxRecDepth 100000 in
set_option maxHeartbeats 8000000 in
theorem pwr_7 (op : Nat) (hop : op < 256) (hk : tB op = 7) (A B : Int) (hA : -9223372036854775808 ≤ A ∧ A ≤ 9223372036854775807) (xs : List Int) (v : Value) (w : World) (hx : Ints w .i64 v xs) (hok : chkI 7 A B xs = 0) :
    Calls Tryz.prog 127 #[insV op A B v] w fun e w' => e = .returned (.tuple #[.string (S (wrI 7 op A B xs)), .int .i64 0]) ∧ Below w.heap.size w w' := by
  have HBS := hid (fun w' => besides_any op hop w')
  rw [hk] at HBS
  obtain ⟨_, h16, gA, gB, gT⟩ := chk_ok hok
  have hA0 : Below w.heap.size w (w.alloc (.cells #[.int .u8 op, .int .i64 A, .int .i64 B, v] 162)) := (Below.refl _ _).alloc (Nat.le_refl _) _
  have hblk := Blk.new w #[.int .u8 op, .int .i64 A, .int .i64 B, v] 162 _ rfl
  have b0 := hblk.cell (i := 0) rfl
  have b1 := hblk.cell (i := 1) rfl
  have b2 := hblk.cell (i := 2) rfl
  have b3 := hblk.cell (i := 3) rfl
  have HCK := hid (pchk_any op hop A B hA xs v (w.alloc (.cells #[.int .u8 op, .int .i64 A, .int .i64 B, v] 162)) (L1.below hx hA0))
  rw [hk, hok] at HCK
  have HA := hid hA0
  have HX := hid (qHX hx op A B v 162)
  have HC := hid (qHC hblk)
  obtain ⟨ao, cap, rfl, _⟩ := id hx
  have hcv := fun wx => conv_one (op : Int) wx
  have hob : UInt8.ofNat (op : Int).toNat = byteOf op := by unfold byteOf; congr 1; omega
  rw [hob] at hcv
  clear hx hA0 hblk hk hok hob
  have hcat := cat_ok [byteOf op] [0] (by simp) (by simp)
  have hS := hid (S_append [byteOf (op : Int)] [0])
  clear gA gB gT h16
  have hS2 : S [byteOf (op : Int)] ++ (⟨#[0]⟩ : ByteArray) = S (wrI 7 op A B xs) := hS.out
  have HS2 := hid hS2
  have hcat2 : ¬ 9223372036854775807 < (S [byteOf (op : Int)]).size + 1 := hcat
  clear hS2 hcat
  generalize S [byteOf (op : Int)] = SO at *
  go_enter Tryz.func127, Tryz.ntmps127
  go_wp2_with (first | (go_at_call 144; refine HCK.out.mono ?_; rintro r w1 ⟨rfl, hb1⟩; obtain ⟨y0, y1, y2, y3⟩ := HC.out _ hb1; have q0 := fun o => cell_alloc o y0; have q1 := fun o => cell_alloc o y1; have q3 := fun o => cell_alloc o y3; have HB1 := hid hb1; clear hb1) | (go_at_call 147; refine (HBS.out _).mono ?_; rintro r w2 ⟨rfl, hb2⟩; have HB2 := hid (HB1.out.trans ((((Below.refl w1.heap.size w1).alloc (Nat.le_refl _) _).trans (hb2.mono (((Below.refl w1.heap.size w1).alloc (Nat.le_refl _) _).size))).mono HB1.out.size)); obtain ⟨z0, z1, z2, z3⟩ := HC.out _ HB2.out; clear hb2))
  go_ret2
  exact ⟨by rw [← HS2.out]; rfl, HA.out.trans (HB2.out.mono HA.out.size)⟩

set_option maxRecDepth 100000 in
set_option maxHeartbeats 8000000 in
theorem pwr_8 (op : Nat) (hop : op < 256) (hk : tB op = 8) (A B : Int) (hA : -9223372036854775808 ≤ A ∧ A ≤ 9223372036854775807) (xs : List Int) (v : Value) (w : World) (hx : Ints w .i64 v xs) (hok : chkI 8 A B xs = 0) :
    Calls Tryz.prog 127 #[insV op A B v] w fun e w' => e = .returned (.tuple #[.string (S (wrI 8 op A B xs)), .int .i64 0]) ∧ Below w.heap.size w w' := by
  have HBS := hid (fun w' => besides_any op hop w')
  rw [hk] at HBS
  obtain ⟨_, h16, gA, gB, gT⟩ := chk_ok hok
  have hA0 : Below w.heap.size w (w.alloc (.cells #[.int .u8 op, .int .i64 A, .int .i64 B, v] 162)) := (Below.refl _ _).alloc (Nat.le_refl _) _
  have hblk := Blk.new w #[.int .u8 op, .int .i64 A, .int .i64 B, v] 162 _ rfl
  have b0 := hblk.cell (i := 0) rfl
  have b1 := hblk.cell (i := 1) rfl
  have b2 := hblk.cell (i := 2) rfl
  have b3 := hblk.cell (i := 3) rfl
  have HCK := hid (pchk_any op hop A B hA xs v (w.alloc (.cells #[.int .u8 op, .int .i64 A, .int .i64 B, v] 162)) (L1.below hx hA0))
  rw [hk, hok] at HCK
  have HA := hid hA0
  have HX := hid (qHX hx op A B v 162)
  have HC := hid (qHC hblk)
  obtain ⟨ao, cap, rfl, _⟩ := id hx
  have hcv := fun wx => conv_one (op : Int) wx
  have hob : UInt8.ofNat (op : Int).toNat = byteOf op := by unfold byteOf; congr 1; omega
  rw [hob] at hcv
  clear hx hA0 hblk hk hok hob
  have HU := hid (fun w' => lebS_any A w' hA.1 (by omega))
  have hlen := encS_len 9 A
  have hl1 : (S [byteOf (op : Int)]).size = 1 := S_size _
  have hl2 : (S (encS 9 A)).size = (encS 9 A).length := S_size _
  have hS := hid (show S [byteOf (op : Int)] ++ S (encS 9 A) = S (wrI 8 op A B xs) from S_append _ _)
  have hcat : ¬ 9223372036854775807 < (S [byteOf (op : Int)]).size + (S (encS 9 A)).size := by omega
  clear gB gT h16 hlen hl1 hl2 gA
  generalize S [byteOf (op : Int)] = SO at *
  generalize S (encS 9 A) = SE at *
  go_enter Tryz.func127, Tryz.ntmps127
  go_wp2_with (first | (go_at_call 144; refine HCK.out.mono ?_; rintro r w1 ⟨rfl, hb1⟩; obtain ⟨y0, y1, y2, y3⟩ := HC.out _ hb1; have q0 := fun o => cell_alloc o y0; have q1 := fun o => cell_alloc o y1; have q3 := fun o => cell_alloc o y3; have HB1 := hid hb1; clear hb1) | (go_at_call 147; refine (HBS.out _).mono ?_; rintro r w2 ⟨rfl, hb2⟩; have HB2 := hid (HB1.out.trans ((((Below.refl w1.heap.size w1).alloc (Nat.le_refl _) _).trans (hb2.mono (((Below.refl w1.heap.size w1).alloc (Nat.le_refl _) _).size))).mono HB1.out.size)); obtain ⟨z0, z1, z2, z3⟩ := HC.out _ HB2.out; clear hb2) | (go_at_call 28; with_reducible refine (HU.out _).mono ?_; rintro r w3 ⟨rfl, hb3⟩; obtain ⟨u0, u1, u2, u3⟩ := HC.out _ (HB2.out.trans (hb3.mono HB2.out.size)); have HB3 := hid (HB2.out.trans (hb3.mono HB2.out.size)); clear hb3))
  go_ret2
  exact ⟨by rw [← hS.out]; rfl, HA.out.trans (HB3.out.mono HA.out.size)⟩

set_option maxRecDepth 100000 in
set_option maxHeartbeats 8000000 in
theorem pwr_9 (op : Nat) (hop : op < 256) (hk : tB op = 9) (A B : Int) (hA : -9223372036854775808 ≤ A ∧ A ≤ 9223372036854775807) (xs : List Int) (v : Value) (w : World) (hx : Ints w .i64 v xs) (hok : chkI 9 A B xs = 0) :
    Calls Tryz.prog 127 #[insV op A B v] w fun e w' => e = .returned (.tuple #[.string (S (wrI 9 op A B xs)), .int .i64 0]) ∧ Below w.heap.size w w' := by
  have HBS := hid (fun w' => besides_any op hop w')
  rw [hk] at HBS
  obtain ⟨_, h16, gA, gB, gT⟩ := chk_ok hok
  have hA0 : Below w.heap.size w (w.alloc (.cells #[.int .u8 op, .int .i64 A, .int .i64 B, v] 162)) := (Below.refl _ _).alloc (Nat.le_refl _) _
  have hblk := Blk.new w #[.int .u8 op, .int .i64 A, .int .i64 B, v] 162 _ rfl
  have b0 := hblk.cell (i := 0) rfl
  have b1 := hblk.cell (i := 1) rfl
  have b2 := hblk.cell (i := 2) rfl
  have b3 := hblk.cell (i := 3) rfl
  have HCK := hid (pchk_any op hop A B hA xs v (w.alloc (.cells #[.int .u8 op, .int .i64 A, .int .i64 B, v] 162)) (L1.below hx hA0))
  rw [hk, hok] at HCK
  have HA := hid hA0
  have HX := hid (qHX hx op A B v 162)
  have HC := hid (qHC hblk)
  obtain ⟨ao, cap, rfl, _⟩ := id hx
  have hcv := fun wx => conv_one (op : Int) wx
  have hob : UInt8.ofNat (op : Int).toNat = byteOf op := by unfold byteOf; congr 1; omega
  rw [hob] at hcv
  clear hx hA0 hblk hk hok hob
  have HU := hid (fun w' => lebS_any A w' hA.1 (by omega))
  have hlen := encS_len 9 A
  have hl1 : (S [byteOf (op : Int)]).size = 1 := S_size _
  have hl2 : (S (encS 9 A)).size = (encS 9 A).length := S_size _
  have hS := hid (show S [byteOf (op : Int)] ++ S (encS 9 A) = S (wrI 9 op A B xs) from S_append _ _)
  have hcat : ¬ 9223372036854775807 < (S [byteOf (op : Int)]).size + (S (encS 9 A)).size := by omega
  clear gB gT h16 hlen hl1 hl2 gA
  generalize S [byteOf (op : Int)] = SO at *
  generalize S (encS 9 A) = SE at *
  go_enter Tryz.func127, Tryz.ntmps127
  go_wp2_with (first | (go_at_call 144; refine HCK.out.mono ?_; rintro r w1 ⟨rfl, hb1⟩; obtain ⟨y0, y1, y2, y3⟩ := HC.out _ hb1; have q0 := fun o => cell_alloc o y0; have q1 := fun o => cell_alloc o y1; have q3 := fun o => cell_alloc o y3; have HB1 := hid hb1; clear hb1) | (go_at_call 147; refine (HBS.out _).mono ?_; rintro r w2 ⟨rfl, hb2⟩; have HB2 := hid (HB1.out.trans ((((Below.refl w1.heap.size w1).alloc (Nat.le_refl _) _).trans (hb2.mono (((Below.refl w1.heap.size w1).alloc (Nat.le_refl _) _).size))).mono HB1.out.size)); obtain ⟨z0, z1, z2, z3⟩ := HC.out _ HB2.out; clear hb2) | (go_at_call 28; with_reducible refine (HU.out _).mono ?_; rintro r w3 ⟨rfl, hb3⟩; obtain ⟨u0, u1, u2, u3⟩ := HC.out _ (HB2.out.trans (hb3.mono HB2.out.size)); have HB3 := hid (HB2.out.trans (hb3.mono HB2.out.size)); clear hb3))
  go_ret2
  exact ⟨by rw [← hS.out]; rfl, HA.out.trans (HB3.out.mono HA.out.size)⟩
end Go.Proofs.YthoalneknadheaaGreatDoor
