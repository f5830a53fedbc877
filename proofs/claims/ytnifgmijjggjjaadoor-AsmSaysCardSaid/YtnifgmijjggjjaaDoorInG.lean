/-
  INSTRUCTIONS: the reference's InsCheck, some kinds. Conditions: the number is a byte; the variable of the library that strings.Contains reads holds some number.
-/
import Derived.Test.YtnifgmijjggjjaaDoorInF
namespace Go.Proofs.YtnifgmijjggjjaaDoor
open Go.RowKit Go.Lib
attribute [local go_sem ↓] Go.wp_at_zero Go.wp_at_succ

set_option maxRecDepth 100000 in
set_option maxHeartbeats 4000000 in
theorem rchk_0 (op : Nat) (hop : op < 256) (hk : tB op = 0) (A B : Int) (xs : List Int) (v : Value) (w : World) (hM : MaxL w) :
    Calls Tryd.prog 62 #[insV op A B v] w fun e w' => e = .returned (.int .i64 (chkI 0 A B xs)) ∧ Below w.heap.size w w' := by
  have hA0 : Below w.heap.size w (w.alloc (.cells #[.int .u8 op, .int .i64 A, .int .i64 B, v] 45)) := (Below.refl _ _).alloc (Nat.le_refl _) _
  have HBS := hid (rbeside_any op hop (w.alloc (.cells #[.int .u8 op, .int .i64 A, .int .i64 B, v] 45)) (hM.below hA0))
  rw [hk, show S (sdL 0) = ⟨#[63]⟩ from rfl] at HBS
  have HA := hid hA0
  clear hA0 hk hM
  go_enter Tryd.func62, Tryd.ntmps62
  go_wp2_with (go_at_call 20; refine HBS.out.mono ?_; rintro r w1 ⟨rfl, hb1⟩; have B1 := hid (HA.out.trans (hb1.mono HA.out.size)); clear hb1)
  go_ret
  exact ⟨rfl, B1.out⟩
theorem rchk_any (op : Nat) (hop : op < 256) (A B : Int) (xs : List Int) (v : Value) (w : World) (hM : MaxL w) (hx : Ints w .i64 v xs) :
    Calls Tryd.prog 62 #[insV op A B v] w fun e w' => e = .returned (.int .i64 (chkI (tB op) A B xs)) ∧ Below w.heap.size w w' := by
  have hle := tB_le ⟨op, hop⟩
  simp only at hle
  by_cases h0 : tB op = 0
  · rw [h0]; exact rchk_0 op hop h0 A B xs v w hM
  exact rchk_x op hop hle h0 A B xs v w hM hx
end Go.Proofs.YtnifgmijjggjjaaDoor
