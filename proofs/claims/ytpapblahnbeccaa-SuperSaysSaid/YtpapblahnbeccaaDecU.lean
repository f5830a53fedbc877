/-
  HOW THE ARGUMENTS OF THE LAWS READ, by type. No condition. Printed by a program of mine.
-/
import Derived.Test.YtpapblahnbeccaaDec
namespace Go.Proofs.Ytpapblahnbeccaa
open Go.RowKit
set_option maxRecDepth 100000

abbrev D_s_bool : Type := List Bool
def R_s_bool (W : World) : List Value → D_s_bool → Prop := sliceR W 1 1 boolR
def b_s_bool (ys : D_s_bool) : Nat := (ys.map (fun _ => 1)).sum + 1
theorem dec_s_bool {W : World} : DecT W 59 1 (R_s_bool W) b_s_bool := dec_slice Try.underlying59 (dec_bool Try.underlying4) (by kernel_rfl) (by decide) (by kernel_rfl)

abbrev D_trouperef_DownStep : Type := Int × Int × Unit
def R_trouperef_DownStep (_W : World) : List Value → D_trouperef_DownStep → Prop := (pairR (intR .i64) (pairR (intR .i64) nilR))
def c_trouperef_DownStep (y : D_trouperef_DownStep) : Nat := (fun y => (fun _ => 1) y.1 + (fun y => (fun _ => 1) y.1 + (fun _ : Unit => 0) y.2) y.2) y
def b_trouperef_DownStep (y : D_trouperef_DownStep) : Nat := c_trouperef_DownStep y + 1
theorem dec_trouperef_DownStep {W : World} : DecT W 68 2 (R_trouperef_DownStep W) b_trouperef_DownStep := by
  refine dec_struct (R := R_trouperef_DownStep W) (bk := c_trouperef_DownStep) Try.underlying68 ?_ (by kernel_rfl)
  refine decfs_cons (s1 := 1) (s2 := 1) (R1 := (intR .i64)) (b1 := (fun _ => 1)) (R2 := (pairR (intR .i64) nilR)) (b2 := (fun y => (fun _ => 1) y.1 + (fun _ : Unit => 0) y.2)) ?_ ?_ rfl (by kernel_rfl)
  · exact dec_int Try.underlying3
  refine decfs_cons (s1 := 1) (s2 := 0) (R1 := (intR .i64)) (b1 := (fun _ => 1)) (R2 := nilR) (b2 := (fun _ : Unit => 0)) ?_ ?_ rfl (by kernel_rfl)
  · exact dec_int Try.underlying3
  exact decfs_nil

abbrev D_s_trouperef_DownStep : Type := List D_trouperef_DownStep
def R_s_trouperef_DownStep (W : World) : List Value → D_s_trouperef_DownStep → Prop := sliceR W 2 16 (R_trouperef_DownStep W)
def b_s_trouperef_DownStep (ys : D_s_trouperef_DownStep) : Nat := (ys.map b_trouperef_DownStep).sum + 1
theorem dec_s_trouperef_DownStep {W : World} : DecT W 60 1 (R_s_trouperef_DownStep W) b_s_trouperef_DownStep := dec_slice Try.underlying60 dec_trouperef_DownStep (by kernel_rfl) (by decide) (by kernel_rfl)

end Go.Proofs.Ytpapblahnbeccaa
