/-
  HOW THE ARGUMENTS OF THE LAWS READ, by type. No condition. Printed by a program of mine.
-/
import Derived.Test.YtalookaaogiinaaDec
namespace Go.Proofs.Ytalookaaogiinaa
open Go.RowKit
set_option maxRecDepth 100000

abbrev D_trouperef_TimeStep : Type := Int × Int × Int × Unit
def R_trouperef_TimeStep (_W : World) : List Value → D_trouperef_TimeStep → Prop := (pairR (intR .i64) (pairR (intR .i64) (pairR (intR .i64) nilR)))
def c_trouperef_TimeStep (y : D_trouperef_TimeStep) : Nat := (fun y => (fun _ => 1) y.1 + (fun y => (fun _ => 1) y.1 + (fun y => (fun _ => 1) y.1 + (fun _ : Unit => 0) y.2) y.2) y.2) y
def b_trouperef_TimeStep (y : D_trouperef_TimeStep) : Nat := c_trouperef_TimeStep y + 1
theorem dec_trouperef_TimeStep {W : World} : DecT W 59 3 (R_trouperef_TimeStep W) b_trouperef_TimeStep := by
  refine dec_struct (R := R_trouperef_TimeStep W) (bk := c_trouperef_TimeStep) Try.underlying59 ?_ (by kernel_rfl)
  refine decfs_cons (s1 := 1) (s2 := 2) (R1 := (intR .i64)) (b1 := (fun _ => 1)) (R2 := (pairR (intR .i64) (pairR (intR .i64) nilR))) (b2 := (fun y => (fun _ => 1) y.1 + (fun y => (fun _ => 1) y.1 + (fun _ : Unit => 0) y.2) y.2)) ?_ ?_ rfl (by kernel_rfl)
  · exact dec_int Try.underlying3
  refine decfs_cons (s1 := 1) (s2 := 1) (R1 := (intR .i64)) (b1 := (fun _ => 1)) (R2 := (pairR (intR .i64) nilR)) (b2 := (fun y => (fun _ => 1) y.1 + (fun _ : Unit => 0) y.2)) ?_ ?_ rfl (by kernel_rfl)
  · exact dec_int Try.underlying3
  refine decfs_cons (s1 := 1) (s2 := 0) (R1 := (intR .i64)) (b1 := (fun _ => 1)) (R2 := nilR) (b2 := (fun _ : Unit => 0)) ?_ ?_ rfl (by kernel_rfl)
  · exact dec_int Try.underlying3
  exact decfs_nil

abbrev D_s_trouperef_TimeStep : Type := List D_trouperef_TimeStep
def R_s_trouperef_TimeStep (W : World) : List Value → D_s_trouperef_TimeStep → Prop := sliceR W 3 24 (R_trouperef_TimeStep W)
def b_s_trouperef_TimeStep (ys : D_s_trouperef_TimeStep) : Nat := (ys.map b_trouperef_TimeStep).sum + 1
theorem dec_s_trouperef_TimeStep {W : World} : DecT W 50 1 (R_s_trouperef_TimeStep W) b_s_trouperef_TimeStep := dec_slice Try.underlying50 dec_trouperef_TimeStep (by kernel_rfl) (by decide) (by kernel_rfl)

end Go.Proofs.Ytalookaaogiinaa
