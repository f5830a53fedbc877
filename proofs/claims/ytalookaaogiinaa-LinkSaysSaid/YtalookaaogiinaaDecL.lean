/-
  HOW THE ARGUMENTS OF THE LAWS READ, by type. No condition. Printed by a program of mine.
-/
import Derived.Test.YtalookaaogiinaaDec
namespace Go.Proofs.Ytalookaaogiinaa
open Go.RowKit
set_option maxRecDepth 100000

abbrev D_api_Frame : Type := Int × Int × Int × Int × ByteArray × Unit
def R_api_Frame (_W : World) : List Value → D_api_Frame → Prop := (pairR (intR .i64) (pairR (intR .i64) (pairR (intR .i64) (pairR (intR .i64) (pairR strR nilR)))))
def c_api_Frame (y : D_api_Frame) : Nat := (fun y => (fun _ => 1) y.1 + (fun y => (fun _ => 1) y.1 + (fun y => (fun _ => 1) y.1 + (fun y => (fun _ => 1) y.1 + (fun y => (fun t => t.size + 1) y.1 + (fun _ : Unit => 0) y.2) y.2) y.2) y.2) y.2) y
def b_api_Frame (y : D_api_Frame) : Nat := c_api_Frame y + 1
theorem dec_api_Frame {W : World} : DecT W 31 5 (R_api_Frame W) b_api_Frame := by
  refine dec_struct (R := R_api_Frame W) (bk := c_api_Frame) Try.underlying31 ?_ (by kernel_rfl)
  refine decfs_cons (s1 := 1) (s2 := 4) (R1 := (intR .i64)) (b1 := (fun _ => 1)) (R2 := (pairR (intR .i64) (pairR (intR .i64) (pairR (intR .i64) (pairR strR nilR))))) (b2 := (fun y => (fun _ => 1) y.1 + (fun y => (fun _ => 1) y.1 + (fun y => (fun _ => 1) y.1 + (fun y => (fun t => t.size + 1) y.1 + (fun _ : Unit => 0) y.2) y.2) y.2) y.2)) ?_ ?_ rfl (by kernel_rfl)
  · exact dec_int Try.underlying3
  refine decfs_cons (s1 := 1) (s2 := 3) (R1 := (intR .i64)) (b1 := (fun _ => 1)) (R2 := (pairR (intR .i64) (pairR (intR .i64) (pairR strR nilR)))) (b2 := (fun y => (fun _ => 1) y.1 + (fun y => (fun _ => 1) y.1 + (fun y => (fun t => t.size + 1) y.1 + (fun _ : Unit => 0) y.2) y.2) y.2)) ?_ ?_ rfl (by kernel_rfl)
  · exact dec_int Try.underlying3
  refine decfs_cons (s1 := 1) (s2 := 2) (R1 := (intR .i64)) (b1 := (fun _ => 1)) (R2 := (pairR (intR .i64) (pairR strR nilR))) (b2 := (fun y => (fun _ => 1) y.1 + (fun y => (fun t => t.size + 1) y.1 + (fun _ : Unit => 0) y.2) y.2)) ?_ ?_ rfl (by kernel_rfl)
  · exact dec_int Try.underlying3
  refine decfs_cons (s1 := 1) (s2 := 1) (R1 := (intR .i64)) (b1 := (fun _ => 1)) (R2 := (pairR strR nilR)) (b2 := (fun y => (fun t => t.size + 1) y.1 + (fun _ : Unit => 0) y.2)) ?_ ?_ rfl (by kernel_rfl)
  · exact dec_int Try.underlying3
  refine decfs_cons (s1 := 1) (s2 := 0) (R1 := strR) (b1 := (fun t => t.size + 1)) (R2 := nilR) (b2 := (fun _ : Unit => 0)) ?_ ?_ rfl (by kernel_rfl)
  · exact dec_string Try.underlying9
  exact decfs_nil

abbrev D_trouperef_LinkStep : Type := Int × Int × ByteArray × D_api_Frame × Unit
def R_trouperef_LinkStep (W : World) : List Value → D_trouperef_LinkStep → Prop := (pairR (intR .i64) (pairR (intR .i64) (pairR strR (pairR (R_api_Frame W) nilR))))
def c_trouperef_LinkStep (y : D_trouperef_LinkStep) : Nat := (fun y => (fun _ => 1) y.1 + (fun y => (fun _ => 1) y.1 + (fun y => (fun t => t.size + 1) y.1 + (fun y => b_api_Frame y.1 + (fun _ : Unit => 0) y.2) y.2) y.2) y.2) y
def b_trouperef_LinkStep (y : D_trouperef_LinkStep) : Nat := c_trouperef_LinkStep y + 1
theorem dec_trouperef_LinkStep {W : World} : DecT W 33 8 (R_trouperef_LinkStep W) b_trouperef_LinkStep := by
  refine dec_struct (R := R_trouperef_LinkStep W) (bk := c_trouperef_LinkStep) Try.underlying33 ?_ (by kernel_rfl)
  refine decfs_cons (s1 := 1) (s2 := 7) (R1 := (intR .i64)) (b1 := (fun _ => 1)) (R2 := (pairR (intR .i64) (pairR strR (pairR (R_api_Frame W) nilR)))) (b2 := (fun y => (fun _ => 1) y.1 + (fun y => (fun t => t.size + 1) y.1 + (fun y => b_api_Frame y.1 + (fun _ : Unit => 0) y.2) y.2) y.2)) ?_ ?_ rfl (by kernel_rfl)
  · exact dec_int Try.underlying3
  refine decfs_cons (s1 := 1) (s2 := 6) (R1 := (intR .i64)) (b1 := (fun _ => 1)) (R2 := (pairR strR (pairR (R_api_Frame W) nilR))) (b2 := (fun y => (fun t => t.size + 1) y.1 + (fun y => b_api_Frame y.1 + (fun _ : Unit => 0) y.2) y.2)) ?_ ?_ rfl (by kernel_rfl)
  · exact dec_int Try.underlying3
  refine decfs_cons (s1 := 1) (s2 := 5) (R1 := strR) (b1 := (fun t => t.size + 1)) (R2 := (pairR (R_api_Frame W) nilR)) (b2 := (fun y => b_api_Frame y.1 + (fun _ : Unit => 0) y.2)) ?_ ?_ rfl (by kernel_rfl)
  · exact dec_string Try.underlying9
  refine decfs_cons (s1 := 5) (s2 := 0) (R1 := (R_api_Frame W)) (b1 := b_api_Frame) (R2 := nilR) (b2 := (fun _ : Unit => 0)) ?_ ?_ rfl (by kernel_rfl)
  · exact dec_api_Frame
  exact decfs_nil

abbrev D_s_trouperef_LinkStep : Type := List D_trouperef_LinkStep
def R_s_trouperef_LinkStep (W : World) : List Value → D_s_trouperef_LinkStep → Prop := sliceR W 8 80 (R_trouperef_LinkStep W)
def b_s_trouperef_LinkStep (ys : D_s_trouperef_LinkStep) : Nat := (ys.map b_trouperef_LinkStep).sum + 1
theorem dec_s_trouperef_LinkStep {W : World} : DecT W 22 1 (R_s_trouperef_LinkStep W) b_s_trouperef_LinkStep := dec_slice Try.underlying22 dec_trouperef_LinkStep (by kernel_rfl) (by decide) (by kernel_rfl)

end Go.Proofs.Ytalookaaogiinaa
