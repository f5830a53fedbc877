/-
  HOW THE ARGUMENTS OF THE LAWS READ, by type. No condition. Printed by a program of mine.
-/
import Derived.Test.YtpapblahnbeccaaDec
namespace Go.Proofs.Ytpapblahnbeccaa
open Go.RowKit
set_option maxRecDepth 100000

abbrev D_api_Pid : Type := Int × Int × Unit
def R_api_Pid (_W : World) : List Value → D_api_Pid → Prop := (pairR (intR .i64) (pairR (intR .i64) nilR))
def c_api_Pid (y : D_api_Pid) : Nat := (fun y => (fun _ => 1) y.1 + (fun y => (fun _ => 1) y.1 + (fun _ : Unit => 0) y.2) y.2) y
def b_api_Pid (y : D_api_Pid) : Nat := c_api_Pid y + 1
theorem dec_api_Pid {W : World} : DecT W 98 2 (R_api_Pid W) b_api_Pid := by
  refine dec_struct (R := R_api_Pid W) (bk := c_api_Pid) Try.underlying98 ?_ (by kernel_rfl)
  refine decfs_cons (s1 := 1) (s2 := 1) (R1 := (intR .i64)) (b1 := (fun _ => 1)) (R2 := (pairR (intR .i64) nilR)) (b2 := (fun y => (fun _ => 1) y.1 + (fun _ : Unit => 0) y.2)) ?_ ?_ rfl (by kernel_rfl)
  · exact dec_int Try.underlying3
  refine decfs_cons (s1 := 1) (s2 := 0) (R1 := (intR .i64)) (b1 := (fun _ => 1)) (R2 := nilR) (b2 := (fun _ : Unit => 0)) ?_ ?_ rfl (by kernel_rfl)
  · exact dec_int Try.underlying3
  exact decfs_nil

abbrev D_api_Letter : Type := D_api_Pid × Int × ByteArray × Unit
def R_api_Letter (W : World) : List Value → D_api_Letter → Prop := (pairR (R_api_Pid W) (pairR (intR .i64) (pairR strR nilR)))
def c_api_Letter (y : D_api_Letter) : Nat := (fun y => b_api_Pid y.1 + (fun y => (fun _ => 1) y.1 + (fun y => (fun t => t.size + 1) y.1 + (fun _ : Unit => 0) y.2) y.2) y.2) y
def b_api_Letter (y : D_api_Letter) : Nat := c_api_Letter y + 1
theorem dec_api_Letter {W : World} : DecT W 100 4 (R_api_Letter W) b_api_Letter := by
  refine dec_struct (R := R_api_Letter W) (bk := c_api_Letter) Try.underlying100 ?_ (by kernel_rfl)
  refine decfs_cons (s1 := 2) (s2 := 2) (R1 := (R_api_Pid W)) (b1 := b_api_Pid) (R2 := (pairR (intR .i64) (pairR strR nilR))) (b2 := (fun y => (fun _ => 1) y.1 + (fun y => (fun t => t.size + 1) y.1 + (fun _ : Unit => 0) y.2) y.2)) ?_ ?_ rfl (by kernel_rfl)
  · exact dec_api_Pid
  refine decfs_cons (s1 := 1) (s2 := 1) (R1 := (intR .i64)) (b1 := (fun _ => 1)) (R2 := (pairR strR nilR)) (b2 := (fun y => (fun t => t.size + 1) y.1 + (fun _ : Unit => 0) y.2)) ?_ ?_ rfl (by kernel_rfl)
  · exact dec_int Try.underlying3
  refine decfs_cons (s1 := 1) (s2 := 0) (R1 := strR) (b1 := (fun t => t.size + 1)) (R2 := nilR) (b2 := (fun _ : Unit => 0)) ?_ ?_ rfl (by kernel_rfl)
  · exact dec_string Try.underlying9
  exact decfs_nil

end Go.Proofs.Ytpapblahnbeccaa
