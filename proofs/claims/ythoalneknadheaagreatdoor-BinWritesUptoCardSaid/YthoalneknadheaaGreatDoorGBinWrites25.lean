/-
  NAMES: both sides. Condition: unicode/utf8's two tables hold what the row lists (the proofs are XWLebNames').
-/
import Derived.Test.YthoalneknadheaaGreatDoorGBinWrites3
import Derived.Test.YthoalneknadheaaGreatDoorGBinWrites4
import Derived.Test.YthoalneknadheaaGreatDoorGBinWrites5
import Derived.Test.YthoalneknadheaaGreatDoorGBinWrites6
import Derived.Test.YthoalneknadheaaGreatDoorGBinWrites17
import Derived.Test.YthoalneknadheaaGreatDoorGBinWrites21
import Derived.Test.YthoalneknadheaaGreatDoorGBinWrites22
import Derived.Test.YthoalneknadheaaGreatDoorGBinWrites23
import Derived.Test.YthoalneknadheaaGreatDoorGBinWrites24
import Derived.Lib.LaidU8T
namespace Go.Proofs.YthoalneknadheaaGreatDoor
open Go.RowKit

abbrev UTabs (w : World) : Prop := Lib.Utf8Tabs (Tryz.laysValid_ren.g 3) (Tryz.laysValid_ren.g 4) w
theorem u8extra : U8Extra Tryz.prog Tryz.laysValid_ren := ⟨by kernel_rfl, by kernel_rfl, by kernel_rfl, by kernel_rfl, by kernel_rfl, by kernel_rfl, by kernel_rfl⟩
theorem valid_any (s : ByteArray) (hs : s.size ≤ 9223372036854775807) (w : World) (hT : UTabs w) :
    Calls Tryz.prog 126 #[.string s] w fun e w' => e = .returned (.bool (Lib.validD s.data.toList)) ∧ Below w.heap.size w w' :=
  Any.utf8_ValidString Tryz.laysValid s w hs hT

theorem UTabs.below {w w' : World} (h : UTabs w) (hb : Below w.heap.size w w') : UTabs w' := Utf8Tabs_below h hb
theorem encU_one (n : Nat) (h : n < 128) : encU 9 n = [byteOf n] := encU_last h
def nameX (s : ByteArray) : ByteArray := if 16 < s.size then ⟨#[]⟩ else if Lib.validD s.data.toList = true then S [byteOf s.size] ++ s else ⟨#[]⟩
def nameE (s : ByteArray) : Int := if 16 < s.size then 2 else if Lib.validD s.data.toList = true then 0 else 4
theorem name_cases (s : ByteArray) : (16 < s.size ∧ nameX s = ⟨#[]⟩ ∧ nameE s = 2) ∨ (s.size ≤ 16 ∧ Lib.validD s.data.toList = true ∧ nameX s = S [byteOf s.size] ++ s ∧ nameE s = 0) ∨ (s.size ≤ 16 ∧ Lib.validD s.data.toList = false ∧ nameX s = ⟨#[]⟩ ∧ nameE s = 4) := by
  unfold nameX nameE
  by_cases h : 16 < s.size
  · rw [if_pos h, if_pos h]; exact .inl ⟨h, rfl, rfl⟩
  · rw [if_neg h, if_neg h]
    cases hv : Lib.validD s.data.toList
    · rw [if_neg (by decide), if_neg (by decide)]; exact .inr (.inr ⟨by omega, rfl, rfl, rfl⟩)
    · rw [if_pos rfl, if_pos rfl]; exact .inr (.inl ⟨by omega, rfl, rfl, rfl⟩)
set_option maxRecDepth 100000 in
set_option maxHeartbeats 2000000 in
theorem pname_any (s : ByteArray) (hs : s.size ≤ 9223372036854775807) (w : World) (hT : UTabs w) :
    Calls Tryz.prog 84 #[.string s] w fun e w' => e = .returned (.tuple #[.string (nameX s), .int .i64 (nameE s)]) ∧ Below w.heap.size w w' := by
  have HV := hid (valid_any s hs w hT)
  rcases name_cases s with ⟨h1, h2, h3⟩ | ⟨h1, h2, h3, h4⟩ | ⟨h1, h2, h3, h4⟩
  · rw [h2, h3]
    have g1 : (16 : Int) < s.size := by omega
    clear h2 h3
    go_enter Tryz.func84, Tryz.ntmps84
    go_wp2_with fail
    go_ret2
    exact ⟨rfl, Below.refl _ _⟩
  · rw [h3, h4]
    rw [h2] at HV
    have g1 : ¬ (16 : Int) < s.size := by omega
    have g2 : (s.size : Int) < 18446744073709551616 := by omega
    have HU := hid (fun w' => lebU_any s.size w' (by omega))
    rw [encU_one s.size (by omega)] at HU
    have hB : (S [byteOf s.size]).size = 1 := S_size _
    clear h2 h3 h4
    generalize S [byteOf s.size] = B at *
    have hBs : ¬ 9223372036854775807 < B.size + s.size := by omega
    clear hB
    go_enter Tryz.func84, Tryz.ntmps84
    go_wp2_with (first | (go_at_call 126; refine HV.out.mono ?_; rintro r w1 ⟨rfl, hb1⟩; have B1 := hid hb1; clear hb1) | (go_at_call 12; refine (HU.out _).mono ?_; rintro r w2 ⟨rfl, hb2⟩; have B2 := hid (B1.out.trans (hb2.mono B1.out.size)); clear hb2))
    go_ret2
    exact ⟨rfl, B2.out⟩
  · rw [h3, h4]
    rw [h2] at HV
    have g1 : ¬ (16 : Int) < s.size := by omega
    clear h2 h3 h4
    go_enter Tryz.func84, Tryz.ntmps84
    go_wp2_with (go_at_call 126; refine HV.out.mono ?_; rintro r w1 ⟨rfl, hb1⟩; have B1 := hid hb1; clear hb1)
    go_ret2
    exact ⟨rfl, B1.out⟩
set_option maxRecDepth 100000 in
set_option maxHeartbeats 2000000 in
theorem rname_any (s : ByteArray) (hs : s.size ≤ 9223372036854775807) (w : World) :
    Calls Tryz.prog 128 #[.string s] w fun e w' => e = .returned (.tuple #[.string (nameX s), .int .i64 (nameE s)]) ∧ Below w.heap.size w w' := by
  have HV := hid (isText_any s hs w)
  rcases name_cases s with ⟨h1, h2, h3⟩ | ⟨h1, h2, h3, h4⟩ | ⟨h1, h2, h3, h4⟩
  · rw [h2, h3]
    have g1 : (16 : Int) < s.size := by omega
    clear h2 h3
    go_enter Tryz.func128, Tryz.ntmps128
    go_wp2_with fail
    go_ret2
    exact ⟨rfl, Below.refl _ _⟩
  · rw [h3, h4]
    rw [h2] at HV
    have g1 : ¬ (16 : Int) < s.size := by omega
    have HU := hid (fun w' => chr_any s.size w')
    have hB : (S [byteOf s.size]).size = 1 := S_size _
    clear h2 h3 h4
    generalize S [byteOf s.size] = B at *
    have hBs : ¬ 9223372036854775807 < B.size + s.size := by omega
    clear hB
    go_enter Tryz.func128, Tryz.ntmps128
    go_wp2_with (first | (go_at_call 148; refine HV.out.mono ?_; rintro r w1 ⟨rfl, hb1⟩; have B1 := hid hb1; clear hb1) | (go_at_call 34; refine (HU.out _).mono ?_; rintro r w2 ⟨rfl, hb2⟩; have B2 := hid (B1.out.trans (hb2.mono B1.out.size)); clear hb2))
    go_ret2
    exact ⟨rfl, B2.out⟩
  · rw [h3, h4]
    rw [h2] at HV
    have g1 : ¬ (16 : Int) < s.size := by omega
    clear h2 h3 h4
    go_enter Tryz.func128, Tryz.ntmps128
    go_wp2_with (go_at_call 148; refine HV.out.mono ?_; rintro r w1 ⟨rfl, hb1⟩; have B1 := hid hb1; clear hb1)
    go_ret2
    exact ⟨rfl, B1.out⟩

end Go.Proofs.YthoalneknadheaaGreatDoor
namespace Go.Proofs.YthoalneknadheaaGreatDoor
open Go.RowKit Go.Lib
attribute [local go_sem ↓] Go.wp_at_zero Go.wp_at_succ

set_option maxRecDepth 100000 in
set_option maxHeartbeats 4000000 in
theorem rchk_0 (op : Nat) (hop : op < 256) (hk : tB op = 0) (A B : Int) (xs : List Int) (v : Value) (w : World) (hM : MaxL w) :
    Calls Tryz.prog 161 #[insV op A B v] w fun e w' => e = .returned (.int .i64 (chkI 0 A B xs)) ∧ Below w.heap.size w w' := by
  have hA0 : Below w.heap.size w (w.alloc (.cells #[.int .u8 op, .int .i64 A, .int .i64 B, v] 162)) := (Below.refl _ _).alloc (Nat.le_refl _) _
  have HBS := hid (rbeside_any op hop (w.alloc (.cells #[.int .u8 op, .int .i64 A, .int .i64 B, v] 162)) (hM.below hA0))
  rw [hk, show S (sdL 0) = ⟨#[63]⟩ from rfl] at HBS
  have HA := hid hA0
  clear hA0 hk hM
  go_enter Tryz.func161, Tryz.ntmps161
  go_wp2_with (go_at_call 162; refine HBS.out.mono ?_; rintro r w1 ⟨rfl, hb1⟩; have B1 := hid (HA.out.trans (hb1.mono HA.out.size)); clear hb1)
  go_ret
  exact ⟨rfl, B1.out⟩
theorem rchk_any (op : Nat) (hop : op < 256) (A B : Int) (xs : List Int) (v : Value) (w : World) (hM : MaxL w) (hx : Ints w .i64 v xs) :
    Calls Tryz.prog 161 #[insV op A B v] w fun e w' => e = .returned (.int .i64 (chkI (tB op) A B xs)) ∧ Below w.heap.size w w' := by
  have hle := tB_le ⟨op, hop⟩
  simp only at hle
  rcases (by omega : tB op = 0 ∨ tB op = 1 ∨ tB op = 2 ∨ tB op = 3 ∨ tB op = 4 ∨ tB op = 5 ∨ tB op = 6 ∨ tB op = 7 ∨ tB op = 8 ∨ tB op = 9) with hk | hk | hk | hk | hk | hk | hk | hk | hk | hk
  · rw [hk]; exact rchk_0 op hop hk A B xs v w hM
  · rw [hk]; exact rchk_1 op hop hk A B xs v w hM hx
  · rw [hk]; exact rchk_2 op hop hk A B xs v w hM hx
  · rw [hk]; exact rchk_3 op hop hk A B xs v w hM hx
  · rw [hk]; exact rchk_4 op hop hk A B xs v w hM hx
  · rw [hk]; exact rchk_5 op hop hk A B xs v w hM hx
  · rw [hk]; exact rchk_6 op hop hk A B xs v w hM hx
  · rw [hk]; exact rchk_7 op hop hk A B xs v w hM hx
  · rw [hk]; exact rchk_8 op hop hk A B xs v w hM hx
  · rw [hk]; exact rchk_9 op hop hk A B xs v w hM hx
end Go.Proofs.YthoalneknadheaaGreatDoor
namespace Go.Proofs.YthoalneknadheaaGreatDoor
open Go.RowKit

theorem kS_cond (k : Nat) (n : Int) : (n / 2 ^ (7 * (k + 1) - 1) = 0 ∨ n / 2 ^ (7 * (k + 1) - 1) = -1) ↔ (n / 2 ^ (7 * k) / 64 = 0 ∨ n / 2 ^ (7 * k) / 64 = -1) := by
  have e : n / 2 ^ (7 * (k + 1) - 1) = n / 2 ^ (7 * k) / 64 := by
    rw [show 7 * (k + 1) - 1 = 7 * k + 6 by omega, Int.pow_add, ← Int.ediv_ediv_of_nonneg (Int.pow_nonneg (by decide))]
    rfl
  rw [e]
theorem div_step (k : Nat) (n : Int) : n / 2 ^ (7 * (k + 1)) = n / 128 / 2 ^ (7 * k) := by
  rw [show 7 * (k + 1) = 7 + 7 * k by omega, Int.pow_add, ← Int.ediv_ediv_of_nonneg (by decide)]
  rfl
theorem kS_shift (f : Nat) : ∀ (k : Nat) (n : Int), kS f (k + 2) n = kS f (k + 1) (n / 128) + 1 := by
  induction f with
  | zero => intro k n; simp [kS]
  | succ f ih =>
    intro k n
    rw [kS, kS]
    have h1 := kS_cond (k + 1) n
    have h2 := kS_cond k (n / 128)
    rw [div_step] at h1
    rw [show k + 2 = k + 1 + 1 by omega]
    by_cases hc : n / 128 / 2 ^ (7 * k) / 64 = 0 ∨ n / 128 / 2 ^ (7 * k) / 64 = -1
    · rw [if_pos (h1.2 hc), if_pos (h2.2 hc)]
    · rw [if_neg (fun h => hc (h1.1 h)), if_neg (fun h => hc (h2.1 h)), ih (k + 1)]

theorem byteS_succ (n : Int) (K i : Nat) : byteS n (K + 1) (i + 1) = byteS (n / 128) K i := by
  unfold byteS
  rw [div_step]
  congr 2
  simp

theorem encS_eq (f : Nat) : ∀ n : Int, encS f n = (List.range (kS f 1 n)).map (byteS n (kS f 1 n)) := by
  induction f with
  | zero => intro n; simp [encS, kS, byteS, List.range_succ]
  | succ f ih =>
    intro n
    have hc := kS_cond 0 n
    simp only [Nat.mul_zero, Int.pow_zero, Int.ediv_one] at hc
    rw [encS, kS]
    by_cases h : -64 ≤ n ∧ n < 64
    · rw [if_pos h, if_pos (hc.2 (by omega))]
      simp [byteS, List.range_succ]
    · have hc' : ¬ (n / 2 ^ (7 * 1 - 1) = 0 ∨ n / 2 ^ (7 * 1 - 1) = -1) := fun h' => by
        rcases hc.1 h' with h2 | h2 <;> omega
      rw [if_neg h, if_neg hc', kS_shift f 0 n, ih, List.range_succ_eq_map, List.map_cons, List.map_map]
      have h1 : 1 ≤ kS f (0 + 1) (n / 128) := (kS_le f 1 (n / 128)).1
      congr 1
      · unfold byteS
        rw [if_pos (by omega)]
        simp
      · apply List.map_congr_left
        intro i _
        exact (byteS_succ n _ i).symm

theorem rlebS_any (n : Int) (w : World) : Calls Tryz.prog 99 #[.int .i64 n] w fun e w' => e = .returned (.string (S (encS 9 n))) ∧ Below w.heap.size w w' := by
  rw [encS_eq]
  exact refLebS n w
end Go.Proofs.YthoalneknadheaaGreatDoor
