/-
  HOW THE ARGUMENTS OF THE LAWS READ, by type. No condition. Printed by a program of mine.
-/
import Derived.Test.YtdiiefhklcchmaaDec
namespace Go.Proofs.Ytdiiefhklcchmaa
open Go.RowKit
set_option maxRecDepth 100000

abbrev D_trouperef_MemStep : Type := Int × Int × Int × Int × Int × ByteArray × Unit
def R_trouperef_MemStep (_W : World) : List Value → D_trouperef_MemStep → Prop := (pairR (intR .i64) (pairR (intR .u8) (pairR (intR .i64) (pairR (intR .i64) (pairR (intR .i64) (pairR strR nilR))))))
def c_trouperef_MemStep (y : D_trouperef_MemStep) : Nat := (fun y => (fun _ => 1) y.1 + (fun y => (fun _ => 1) y.1 + (fun y => (fun _ => 1) y.1 + (fun y => (fun _ => 1) y.1 + (fun y => (fun _ => 1) y.1 + (fun y => (fun t => t.size + 1) y.1 + (fun _ : Unit => 0) y.2) y.2) y.2) y.2) y.2) y.2) y
def b_trouperef_MemStep (y : D_trouperef_MemStep) : Nat := c_trouperef_MemStep y + 1
theorem dec_trouperef_MemStep {W : World} : DecT W 31 6 (R_trouperef_MemStep W) b_trouperef_MemStep := by
  refine dec_struct (R := R_trouperef_MemStep W) (bk := c_trouperef_MemStep) Try.underlying31 ?_ (by kernel_rfl)
  refine decfs_cons (s1 := 1) (s2 := 5) (R1 := (intR .i64)) (b1 := (fun _ => 1)) (R2 := (pairR (intR .u8) (pairR (intR .i64) (pairR (intR .i64) (pairR (intR .i64) (pairR strR nilR)))))) (b2 := (fun y => (fun _ => 1) y.1 + (fun y => (fun _ => 1) y.1 + (fun y => (fun _ => 1) y.1 + (fun y => (fun _ => 1) y.1 + (fun y => (fun t => t.size + 1) y.1 + (fun _ : Unit => 0) y.2) y.2) y.2) y.2) y.2)) ?_ ?_ rfl (by kernel_rfl)
  · exact dec_int Try.underlying3
  refine decfs_cons (s1 := 1) (s2 := 4) (R1 := (intR .u8)) (b1 := (fun _ => 1)) (R2 := (pairR (intR .i64) (pairR (intR .i64) (pairR (intR .i64) (pairR strR nilR))))) (b2 := (fun y => (fun _ => 1) y.1 + (fun y => (fun _ => 1) y.1 + (fun y => (fun _ => 1) y.1 + (fun y => (fun t => t.size + 1) y.1 + (fun _ : Unit => 0) y.2) y.2) y.2) y.2)) ?_ ?_ rfl (by kernel_rfl)
  · exact dec_int Try.underlying5
  refine decfs_cons (s1 := 1) (s2 := 3) (R1 := (intR .i64)) (b1 := (fun _ => 1)) (R2 := (pairR (intR .i64) (pairR (intR .i64) (pairR strR nilR)))) (b2 := (fun y => (fun _ => 1) y.1 + (fun y => (fun _ => 1) y.1 + (fun y => (fun t => t.size + 1) y.1 + (fun _ : Unit => 0) y.2) y.2) y.2)) ?_ ?_ rfl (by kernel_rfl)
  · exact dec_int Try.underlying2
  refine decfs_cons (s1 := 1) (s2 := 2) (R1 := (intR .i64)) (b1 := (fun _ => 1)) (R2 := (pairR (intR .i64) (pairR strR nilR))) (b2 := (fun y => (fun _ => 1) y.1 + (fun y => (fun t => t.size + 1) y.1 + (fun _ : Unit => 0) y.2) y.2)) ?_ ?_ rfl (by kernel_rfl)
  · exact dec_int Try.underlying2
  refine decfs_cons (s1 := 1) (s2 := 1) (R1 := (intR .i64)) (b1 := (fun _ => 1)) (R2 := (pairR strR nilR)) (b2 := (fun y => (fun t => t.size + 1) y.1 + (fun _ : Unit => 0) y.2)) ?_ ?_ rfl (by kernel_rfl)
  · exact dec_int Try.underlying2
  refine decfs_cons (s1 := 1) (s2 := 0) (R1 := strR) (b1 := (fun t => t.size + 1)) (R2 := nilR) (b2 := (fun _ : Unit => 0)) ?_ ?_ rfl (by kernel_rfl)
  · exact dec_string Try.underlying9
  exact decfs_nil

abbrev D_s_trouperef_MemStep : Type := List D_trouperef_MemStep
def R_s_trouperef_MemStep (W : World) : List Value → D_s_trouperef_MemStep → Prop := sliceR W 6 56 (R_trouperef_MemStep W)
def b_s_trouperef_MemStep (ys : D_s_trouperef_MemStep) : Nat := (ys.map b_trouperef_MemStep).sum + 1
theorem dec_s_trouperef_MemStep {W : World} : DecT W 22 1 (R_s_trouperef_MemStep W) b_s_trouperef_MemStep := dec_slice Try.underlying22 dec_trouperef_MemStep (by kernel_rfl) (by decide) (by kernel_rfl)

end Go.Proofs.Ytdiiefhklcchmaa
