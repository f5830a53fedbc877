/-
  HOW THE ARGUMENTS OF THE LAWS READ, by type. No condition. Printed by a program of mine.
-/
import Derived.Test.YtpapblahnbeccaaDec
namespace Go.Proofs.Ytpapblahnbeccaa
open Go.RowKit
set_option maxRecDepth 100000

abbrev D_api_Frame : Type := Int × Int × Int × Int × ByteArray × Unit
def R_api_Frame (_W : World) : List Value → D_api_Frame → Prop := (pairR (intR .i64) (pairR (intR .i64) (pairR (intR .i64) (pairR (intR .i64) (pairR strR nilR)))))
def c_api_Frame (y : D_api_Frame) : Nat := (fun y => (fun _ => 1) y.1 + (fun y => (fun _ => 1) y.1 + (fun y => (fun _ => 1) y.1 + (fun y => (fun _ => 1) y.1 + (fun y => (fun t => t.size + 1) y.1 + (fun _ : Unit => 0) y.2) y.2) y.2) y.2) y.2) y
def b_api_Frame (y : D_api_Frame) : Nat := c_api_Frame y + 1
theorem dec_api_Frame {W : World} : DecT W 23 5 (R_api_Frame W) b_api_Frame := by
  refine dec_struct (R := R_api_Frame W) (bk := c_api_Frame) Try.underlying23 ?_ (by kernel_rfl)
  refine decfs_cons (s1 := 1) (s2 := 4) (R1 := (intR .i64)) (b1 := (fun _ => 1)) (R2 := (pairR (intR .i64) (pairR (intR .i64) (pairR (intR .i64) (pairR strR nilR))))) (b2 := (fun y => (fun _ => 1) y.1 + (fun y => (fun _ => 1) y.1 + (fun y => (fun _ => 1) y.1 + (fun y => (fun t => t.size + 1) y.1 + (fun _ : Unit => 0) y.2) y.2) y.2) y.2)) ?_ ?_ rfl (by kernel_rfl)
  · exact dec_int Try.underlying3
  refine decfs_cons (s1 := 1) (s2 := 3) (R1 := (intR .i64)) (b1 := (fun _ => 1)) (R2 := (pairR (intR .i64) (pairR (intR .i64) (pairR strR nilR)))) (b2 := (fun y => (fun _ => 1) y.1 + (fun y => (fun _ => 1) y.1 + (fun y => (fun t => t.size + 1) y.1 + (fun _ : Unit => 0) y.2) y.2) y.2)) ?_ ?_ rfl (by kernel_rfl)
  · exact dec_int Try.underlying3
  refine decfs_cons (s1 := 1) (s2 := 2) (R1 := (intR .i64)) (b1 := (fun _ => 1)) (R2 := (pairR (intR .i64) (pairR strR nilR))) (b2 := (fun y => (fun _ => 1) y.1 + (fun y => (fun t => t.size + 1) y.1 + (fun _ : Unit => 0) y.2) y.2)) ?_ ?_ rfl (by kernel_rfl)
  · exact dec_int Try.underlying3
  refine decfs_cons (s1 := 1) (s2 := 1) (R1 := (intR .i64)) (b1 := (fun _ => 1)) (R2 := (pairR strR nilR)) (b2 := (fun y => (fun t => t.size + 1) y.1 + (fun _ : Unit => 0) y.2)) ?_ ?_ rfl (by kernel_rfl)
  · exact dec_int Try.underlying3
  refine decfs_cons (s1 := 1) (s2 := 0) (R1 := strR) (b1 := (fun t => t.size + 1)) (R2 := nilR) (b2 := (fun _ : Unit => 0)) ?_ ?_ rfl (by kernel_rfl)
  · exact dec_string Try.underlying9
  exact decfs_nil

end Go.Proofs.Ytpapblahnbeccaa
