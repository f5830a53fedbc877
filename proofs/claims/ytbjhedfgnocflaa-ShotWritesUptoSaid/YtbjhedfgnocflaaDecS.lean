/-
  HOW THE ARGUMENTS OF THE LAWS READ, by type. No condition. Printed by a program of mine.
-/
import Derived.Test.YtbjhedfgnocflaaDec
namespace Go.Proofs.Ytbjhedfgnocflaa
open Go.RowKit
set_option maxRecDepth 100000

abbrev D_s_int : Type := List Int
def R_s_int (W : World) : List Value → D_s_int → Prop := sliceR W 1 8 (intR .i64)
def b_s_int (ys : D_s_int) : Nat := (ys.map (fun _ => 1)).sum + 1
theorem dec_s_int {W : World} : DecT W 24 1 (R_s_int W) b_s_int := dec_slice Try.underlying24 (dec_int Try.underlying3) (by kernel_rfl) (by decide) (by kernel_rfl)

abbrev D_s_int64 : Type := List Int
def R_s_int64 (W : World) : List Value → D_s_int64 → Prop := sliceR W 1 8 (intR .i64)
def b_s_int64 (ys : D_s_int64) : Nat := (ys.map (fun _ => 1)).sum + 1
theorem dec_s_int64 {W : World} : DecT W 101 1 (R_s_int64 W) b_s_int64 := dec_slice Try.underlying101 (dec_int Try.underlying2) (by kernel_rfl) (by decide) (by kernel_rfl)

abbrev D_api_Image : Type := ByteArray × D_s_int × D_s_int64 × Unit
def R_api_Image (W : World) : List Value → D_api_Image → Prop := (pairR strR (pairR (R_s_int W) (pairR (R_s_int64 W) nilR)))
def c_api_Image (y : D_api_Image) : Nat := (fun y => (fun t => t.size + 1) y.1 + (fun y => b_s_int y.1 + (fun y => b_s_int64 y.1 + (fun _ : Unit => 0) y.2) y.2) y.2) y
def b_api_Image (y : D_api_Image) : Nat := c_api_Image y + 1
theorem dec_api_Image {W : World} : DecT W 103 3 (R_api_Image W) b_api_Image := by
  refine dec_struct (R := R_api_Image W) (bk := c_api_Image) Try.underlying103 ?_ (by kernel_rfl)
  refine decfs_cons (s1 := 1) (s2 := 2) (R1 := strR) (b1 := (fun t => t.size + 1)) (R2 := (pairR (R_s_int W) (pairR (R_s_int64 W) nilR))) (b2 := (fun y => b_s_int y.1 + (fun y => b_s_int64 y.1 + (fun _ : Unit => 0) y.2) y.2)) ?_ ?_ rfl (by kernel_rfl)
  · exact dec_string Try.underlying9
  refine decfs_cons (s1 := 1) (s2 := 1) (R1 := (R_s_int W)) (b1 := b_s_int) (R2 := (pairR (R_s_int64 W) nilR)) (b2 := (fun y => b_s_int64 y.1 + (fun _ : Unit => 0) y.2)) ?_ ?_ rfl (by kernel_rfl)
  · exact dec_s_int
  refine decfs_cons (s1 := 1) (s2 := 0) (R1 := (R_s_int64 W)) (b1 := b_s_int64) (R2 := nilR) (b2 := (fun _ : Unit => 0)) ?_ ?_ rfl (by kernel_rfl)
  · exact dec_s_int64
  exact decfs_nil

abbrev D_api_Call : Type := Int × Int × D_s_int64 × D_s_int64 × Unit
def R_api_Call (W : World) : List Value → D_api_Call → Prop := (pairR (intR .i64) (pairR (intR .i64) (pairR (R_s_int64 W) (pairR (R_s_int64 W) nilR))))
def c_api_Call (y : D_api_Call) : Nat := (fun y => (fun _ => 1) y.1 + (fun y => (fun _ => 1) y.1 + (fun y => b_s_int64 y.1 + (fun y => b_s_int64 y.1 + (fun _ : Unit => 0) y.2) y.2) y.2) y.2) y
def b_api_Call (y : D_api_Call) : Nat := c_api_Call y + 1
theorem dec_api_Call {W : World} : DecT W 165 4 (R_api_Call W) b_api_Call := by
  refine dec_struct (R := R_api_Call W) (bk := c_api_Call) Try.underlying165 ?_ (by kernel_rfl)
  refine decfs_cons (s1 := 1) (s2 := 3) (R1 := (intR .i64)) (b1 := (fun _ => 1)) (R2 := (pairR (intR .i64) (pairR (R_s_int64 W) (pairR (R_s_int64 W) nilR)))) (b2 := (fun y => (fun _ => 1) y.1 + (fun y => b_s_int64 y.1 + (fun y => b_s_int64 y.1 + (fun _ : Unit => 0) y.2) y.2) y.2)) ?_ ?_ rfl (by kernel_rfl)
  · exact dec_int Try.underlying3
  refine decfs_cons (s1 := 1) (s2 := 2) (R1 := (intR .i64)) (b1 := (fun _ => 1)) (R2 := (pairR (R_s_int64 W) (pairR (R_s_int64 W) nilR))) (b2 := (fun y => b_s_int64 y.1 + (fun y => b_s_int64 y.1 + (fun _ : Unit => 0) y.2) y.2)) ?_ ?_ rfl (by kernel_rfl)
  · exact dec_int Try.underlying3
  refine decfs_cons (s1 := 1) (s2 := 1) (R1 := (R_s_int64 W)) (b1 := b_s_int64) (R2 := (pairR (R_s_int64 W) nilR)) (b2 := (fun y => b_s_int64 y.1 + (fun _ : Unit => 0) y.2)) ?_ ?_ rfl (by kernel_rfl)
  · exact dec_s_int64
  refine decfs_cons (s1 := 1) (s2 := 0) (R1 := (R_s_int64 W)) (b1 := b_s_int64) (R2 := nilR) (b2 := (fun _ : Unit => 0)) ?_ ?_ rfl (by kernel_rfl)
  · exact dec_s_int64
  exact decfs_nil

abbrev D_s_api_Call : Type := List D_api_Call
def R_s_api_Call (W : World) : List Value → D_s_api_Call → Prop := sliceR W 4 64 (R_api_Call W)
def b_s_api_Call (ys : D_s_api_Call) : Nat := (ys.map b_api_Call).sum + 1
theorem dec_s_api_Call {W : World} : DecT W 104 1 (R_s_api_Call W) b_s_api_Call := dec_slice Try.underlying104 dec_api_Call (by kernel_rfl) (by decide) (by kernel_rfl)

abbrev D_api_State : Type := D_s_api_Call × Int × Unit
def R_api_State (W : World) : List Value → D_api_State → Prop := (pairR (R_s_api_Call W) (pairR (intR .i64) nilR))
def c_api_State (y : D_api_State) : Nat := (fun y => b_s_api_Call y.1 + (fun y => (fun _ => 1) y.1 + (fun _ : Unit => 0) y.2) y.2) y
def b_api_State (y : D_api_State) : Nat := c_api_State y + 1
theorem dec_api_State {W : World} : DecT W 106 2 (R_api_State W) b_api_State := by
  refine dec_struct (R := R_api_State W) (bk := c_api_State) Try.underlying106 ?_ (by kernel_rfl)
  refine decfs_cons (s1 := 1) (s2 := 1) (R1 := (R_s_api_Call W)) (b1 := b_s_api_Call) (R2 := (pairR (intR .i64) nilR)) (b2 := (fun y => (fun _ => 1) y.1 + (fun _ : Unit => 0) y.2)) ?_ ?_ rfl (by kernel_rfl)
  · exact dec_s_api_Call
  refine decfs_cons (s1 := 1) (s2 := 0) (R1 := (intR .i64)) (b1 := (fun _ => 1)) (R2 := nilR) (b2 := (fun _ : Unit => 0)) ?_ ?_ rfl (by kernel_rfl)
  · exact dec_int Try.underlying3
  exact decfs_nil

end Go.Proofs.Ytbjhedfgnocflaa
