/-
  INSTRUCTIONS: the reference's InsCheck, some kinds. Conditions: the number is a byte; the variable of the library that strings.Contains reads holds some number.
-/
import Derived.Test.YtdiiefhklcchmaaDoorInFa
import Derived.Test.YtdiiefhklcchmaaDoorInFb
import Derived.Test.YtdiiefhklcchmaaDoorInFc
import Derived.Test.YtdiiefhklcchmaaDoorInFd
namespace Go.Proofs.YtdiiefhklcchmaaDoor
open Go.RowKit Go.Lib
attribute [local go_sem ↓] Go.wp_at_zero Go.wp_at_succ

set_option maxRecDepth 100000 in
set_option maxHeartbeats 4000000 in
theorem rchk_0 (op : Nat) (hop : op < 256) (hk : tB op = 0) (A B : Int) (xs : List Int) (v : Value) (w : World) (hM : MaxL w) :
    Calls Tryd.prog 64 #[insV op A B v] w fun e w' => e = .returned (.int .i64 (chkI 0 A B xs)) ∧ Below w.heap.size w w' := by
  have hA0 : Below w.heap.size w (w.alloc (.cells #[.int .u8 op, .int .i64 A, .int .i64 B, v] 99)) := (Below.refl _ _).alloc (Nat.le_refl _) _
  have HBS := hid (rbeside_any op hop (w.alloc (.cells #[.int .u8 op, .int .i64 A, .int .i64 B, v] 99)) (hM.below hA0))
  rw [hk, show S (sdL 0) = ⟨#[63]⟩ from rfl] at HBS
  have HA := hid hA0
  clear hA0 hk hM
  go_enter Tryd.func64, Tryd.ntmps64
  go_wp2_with (go_at_call 67; refine HBS.out.mono ?_; rintro r w1 ⟨rfl, hb1⟩; have B1 := hid (HA.out.trans (hb1.mono HA.out.size)); clear hb1)
  go_ret
  exact ⟨rfl, B1.out⟩
theorem rchk_any (op : Nat) (hop : op < 256) (A B : Int) (xs : List Int) (v : Value) (w : World) (hM : MaxL w) (hx : Ints w .i64 v xs) :
    Calls Tryd.prog 64 #[insV op A B v] w fun e w' => e = .returned (.int .i64 (chkI (tB op) A B xs)) ∧ Below w.heap.size w w' := by
  have hle := tB_le ⟨op, hop⟩
  simp only at hle
  rcases (by omega : tB op = 0 ∨ tB op = 1 ∨ tB op = 2 ∨ tB op = 3 ∨ tB op = 4 ∨ tB op = 5 ∨ tB op = 6 ∨ tB op = 7 ∨ tB op = 8 ∨ tB op = 9) with hk | hk | hk | hk | hk | hk | hk | hk | hk | hk
  · rw [hk]; exact rchk_0 op hop hk A B xs v w hM
  · rw [hk]; exact rchk_1 op hop hk A B xs v w hM hx
  · rw [hk]; exact rchk_2 op hop hk A B xs v w hM hx
  · rw [hk]; exact rchk_3 op hop hk A B xs v w hM hx
  · rw [hk]; exact rchk_4 op hop hk A B xs v w hM hx
  · rw [hk]; exact rchk_5 op hop hk A B xs v w hM hx
  · rw [hk]; exact rchk_6 op hop hk A B xs v w hM hx
  · rw [hk]; exact rchk_7 op hop hk A B xs v w hM hx
  · rw [hk]; exact rchk_8 op hop hk A B xs v w hM hx
  · rw [hk]; exact rchk_9 op hop hk A B xs v w hM hx
end Go.Proofs.YtdiiefhklcchmaaDoor
