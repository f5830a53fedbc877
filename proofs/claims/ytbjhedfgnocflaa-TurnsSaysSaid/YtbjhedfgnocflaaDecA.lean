/-
  HOW THE ARGUMENTS OF THE LAWS READ, by type. No condition. Printed by a program of mine.
-/
import Derived.Test.YtbjhedfgnocflaaDec
namespace Go.Proofs.Ytbjhedfgnocflaa
open Go.RowKit
set_option maxRecDepth 100000

abbrev D_api_Pid : Type := Int × Int × Unit
def R_api_Pid (_W : World) : List Value → D_api_Pid → Prop := (pairR (intR .i64) (pairR (intR .i64) nilR))
def c_api_Pid (y : D_api_Pid) : Nat := (fun y => (fun _ => 1) y.1 + (fun y => (fun _ => 1) y.1 + (fun _ : Unit => 0) y.2) y.2) y
def b_api_Pid (y : D_api_Pid) : Nat := c_api_Pid y + 1
theorem dec_api_Pid {W : World} : DecT W 38 2 (R_api_Pid W) b_api_Pid := by
  refine dec_struct (R := R_api_Pid W) (bk := c_api_Pid) Try.underlying38 ?_ (by kernel_rfl)
  refine decfs_cons (s1 := 1) (s2 := 1) (R1 := (intR .i64)) (b1 := (fun _ => 1)) (R2 := (pairR (intR .i64) nilR)) (b2 := (fun y => (fun _ => 1) y.1 + (fun _ : Unit => 0) y.2)) ?_ ?_ rfl (by kernel_rfl)
  · exact dec_int Try.underlying3
  refine decfs_cons (s1 := 1) (s2 := 0) (R1 := (intR .i64)) (b1 := (fun _ => 1)) (R2 := nilR) (b2 := (fun _ : Unit => 0)) ?_ ?_ rfl (by kernel_rfl)
  · exact dec_int Try.underlying3
  exact decfs_nil

abbrev D_api_Signal : Type := Int × D_api_Pid × D_api_Pid × Int × Int × Int × ByteArray × Unit
def R_api_Signal (W : World) : List Value → D_api_Signal → Prop := (pairR (intR .i64) (pairR (R_api_Pid W) (pairR (R_api_Pid W) (pairR (intR .i64) (pairR (intR .i64) (pairR (intR .i64) (pairR strR nilR)))))))
def c_api_Signal (y : D_api_Signal) : Nat := (fun y => (fun _ => 1) y.1 + (fun y => b_api_Pid y.1 + (fun y => b_api_Pid y.1 + (fun y => (fun _ => 1) y.1 + (fun y => (fun _ => 1) y.1 + (fun y => (fun _ => 1) y.1 + (fun y => (fun t => t.size + 1) y.1 + (fun _ : Unit => 0) y.2) y.2) y.2) y.2) y.2) y.2) y.2) y
def b_api_Signal (y : D_api_Signal) : Nat := c_api_Signal y + 1
theorem dec_api_Signal {W : World} : DecT W 40 9 (R_api_Signal W) b_api_Signal := by
  refine dec_struct (R := R_api_Signal W) (bk := c_api_Signal) Try.underlying40 ?_ (by kernel_rfl)
  refine decfs_cons (s1 := 1) (s2 := 8) (R1 := (intR .i64)) (b1 := (fun _ => 1)) (R2 := (pairR (R_api_Pid W) (pairR (R_api_Pid W) (pairR (intR .i64) (pairR (intR .i64) (pairR (intR .i64) (pairR strR nilR))))))) (b2 := (fun y => b_api_Pid y.1 + (fun y => b_api_Pid y.1 + (fun y => (fun _ => 1) y.1 + (fun y => (fun _ => 1) y.1 + (fun y => (fun _ => 1) y.1 + (fun y => (fun t => t.size + 1) y.1 + (fun _ : Unit => 0) y.2) y.2) y.2) y.2) y.2) y.2)) ?_ ?_ rfl (by kernel_rfl)
  · exact dec_int Try.underlying3
  refine decfs_cons (s1 := 2) (s2 := 6) (R1 := (R_api_Pid W)) (b1 := b_api_Pid) (R2 := (pairR (R_api_Pid W) (pairR (intR .i64) (pairR (intR .i64) (pairR (intR .i64) (pairR strR nilR)))))) (b2 := (fun y => b_api_Pid y.1 + (fun y => (fun _ => 1) y.1 + (fun y => (fun _ => 1) y.1 + (fun y => (fun _ => 1) y.1 + (fun y => (fun t => t.size + 1) y.1 + (fun _ : Unit => 0) y.2) y.2) y.2) y.2) y.2)) ?_ ?_ rfl (by kernel_rfl)
  · exact dec_api_Pid
  refine decfs_cons (s1 := 2) (s2 := 4) (R1 := (R_api_Pid W)) (b1 := b_api_Pid) (R2 := (pairR (intR .i64) (pairR (intR .i64) (pairR (intR .i64) (pairR strR nilR))))) (b2 := (fun y => (fun _ => 1) y.1 + (fun y => (fun _ => 1) y.1 + (fun y => (fun _ => 1) y.1 + (fun y => (fun t => t.size + 1) y.1 + (fun _ : Unit => 0) y.2) y.2) y.2) y.2)) ?_ ?_ rfl (by kernel_rfl)
  · exact dec_api_Pid
  refine decfs_cons (s1 := 1) (s2 := 3) (R1 := (intR .i64)) (b1 := (fun _ => 1)) (R2 := (pairR (intR .i64) (pairR (intR .i64) (pairR strR nilR)))) (b2 := (fun y => (fun _ => 1) y.1 + (fun y => (fun _ => 1) y.1 + (fun y => (fun t => t.size + 1) y.1 + (fun _ : Unit => 0) y.2) y.2) y.2)) ?_ ?_ rfl (by kernel_rfl)
  · exact dec_int Try.underlying3
  refine decfs_cons (s1 := 1) (s2 := 2) (R1 := (intR .i64)) (b1 := (fun _ => 1)) (R2 := (pairR (intR .i64) (pairR strR nilR))) (b2 := (fun y => (fun _ => 1) y.1 + (fun y => (fun t => t.size + 1) y.1 + (fun _ : Unit => 0) y.2) y.2)) ?_ ?_ rfl (by kernel_rfl)
  · exact dec_int Try.underlying22
  refine decfs_cons (s1 := 1) (s2 := 1) (R1 := (intR .i64)) (b1 := (fun _ => 1)) (R2 := (pairR strR nilR)) (b2 := (fun y => (fun t => t.size + 1) y.1 + (fun _ : Unit => 0) y.2)) ?_ ?_ rfl (by kernel_rfl)
  · exact dec_int Try.underlying3
  refine decfs_cons (s1 := 1) (s2 := 0) (R1 := strR) (b1 := (fun t => t.size + 1)) (R2 := nilR) (b2 := (fun _ : Unit => 0)) ?_ ?_ rfl (by kernel_rfl)
  · exact dec_string Try.underlying9
  exact decfs_nil

abbrev D_api_Letter : Type := D_api_Pid × Int × ByteArray × Unit
def R_api_Letter (W : World) : List Value → D_api_Letter → Prop := (pairR (R_api_Pid W) (pairR (intR .i64) (pairR strR nilR)))
def c_api_Letter (y : D_api_Letter) : Nat := (fun y => b_api_Pid y.1 + (fun y => (fun _ => 1) y.1 + (fun y => (fun t => t.size + 1) y.1 + (fun _ : Unit => 0) y.2) y.2) y.2) y
def b_api_Letter (y : D_api_Letter) : Nat := c_api_Letter y + 1
theorem dec_api_Letter {W : World} : DecT W 66 4 (R_api_Letter W) b_api_Letter := by
  refine dec_struct (R := R_api_Letter W) (bk := c_api_Letter) Try.underlying66 ?_ (by kernel_rfl)
  refine decfs_cons (s1 := 2) (s2 := 2) (R1 := (R_api_Pid W)) (b1 := b_api_Pid) (R2 := (pairR (intR .i64) (pairR strR nilR))) (b2 := (fun y => (fun _ => 1) y.1 + (fun y => (fun t => t.size + 1) y.1 + (fun _ : Unit => 0) y.2) y.2)) ?_ ?_ rfl (by kernel_rfl)
  · exact dec_api_Pid
  refine decfs_cons (s1 := 1) (s2 := 1) (R1 := (intR .i64)) (b1 := (fun _ => 1)) (R2 := (pairR strR nilR)) (b2 := (fun y => (fun t => t.size + 1) y.1 + (fun _ : Unit => 0) y.2)) ?_ ?_ rfl (by kernel_rfl)
  · exact dec_int Try.underlying3
  refine decfs_cons (s1 := 1) (s2 := 0) (R1 := strR) (b1 := (fun t => t.size + 1)) (R2 := nilR) (b2 := (fun _ : Unit => 0)) ?_ ?_ rfl (by kernel_rfl)
  · exact dec_string Try.underlying9
  exact decfs_nil

abbrev D_trouperef_BoxStep : Type := Int × Int × D_api_Letter × Unit
def R_trouperef_BoxStep (W : World) : List Value → D_trouperef_BoxStep → Prop := (pairR (intR .i64) (pairR (intR .u64) (pairR (R_api_Letter W) nilR)))
def c_trouperef_BoxStep (y : D_trouperef_BoxStep) : Nat := (fun y => (fun _ => 1) y.1 + (fun y => (fun _ => 1) y.1 + (fun y => b_api_Letter y.1 + (fun _ : Unit => 0) y.2) y.2) y.2) y
def b_trouperef_BoxStep (y : D_trouperef_BoxStep) : Nat := c_trouperef_BoxStep y + 1
theorem dec_trouperef_BoxStep {W : World} : DecT W 68 6 (R_trouperef_BoxStep W) b_trouperef_BoxStep := by
  refine dec_struct (R := R_trouperef_BoxStep W) (bk := c_trouperef_BoxStep) Try.underlying68 ?_ (by kernel_rfl)
  refine decfs_cons (s1 := 1) (s2 := 5) (R1 := (intR .i64)) (b1 := (fun _ => 1)) (R2 := (pairR (intR .u64) (pairR (R_api_Letter W) nilR))) (b2 := (fun y => (fun _ => 1) y.1 + (fun y => b_api_Letter y.1 + (fun _ : Unit => 0) y.2) y.2)) ?_ ?_ rfl (by kernel_rfl)
  · exact dec_int Try.underlying3
  refine decfs_cons (s1 := 1) (s2 := 4) (R1 := (intR .u64)) (b1 := (fun _ => 1)) (R2 := (pairR (R_api_Letter W) nilR)) (b2 := (fun y => b_api_Letter y.1 + (fun _ : Unit => 0) y.2)) ?_ ?_ rfl (by kernel_rfl)
  · exact dec_int Try.underlying30
  refine decfs_cons (s1 := 4) (s2 := 0) (R1 := (R_api_Letter W)) (b1 := b_api_Letter) (R2 := nilR) (b2 := (fun _ : Unit => 0)) ?_ ?_ rfl (by kernel_rfl)
  · exact dec_api_Letter
  exact decfs_nil

abbrev D_s_trouperef_BoxStep : Type := List D_trouperef_BoxStep
def R_s_trouperef_BoxStep (W : World) : List Value → D_s_trouperef_BoxStep → Prop := sliceR W 6 56 (R_trouperef_BoxStep W)
def b_s_trouperef_BoxStep (ys : D_s_trouperef_BoxStep) : Nat := (ys.map b_trouperef_BoxStep).sum + 1
theorem dec_s_trouperef_BoxStep {W : World} : DecT W 57 1 (R_s_trouperef_BoxStep W) b_s_trouperef_BoxStep := dec_slice Try.underlying57 dec_trouperef_BoxStep (by kernel_rfl) (by decide) (by kernel_rfl)

abbrev D_trouperef_AirStep : Type := Int × Int × Int × Int × ByteArray × Unit
def R_trouperef_AirStep (_W : World) : List Value → D_trouperef_AirStep → Prop := (pairR (intR .i64) (pairR (intR .i64) (pairR (intR .i64) (pairR (intR .i64) (pairR strR nilR)))))
def c_trouperef_AirStep (y : D_trouperef_AirStep) : Nat := (fun y => (fun _ => 1) y.1 + (fun y => (fun _ => 1) y.1 + (fun y => (fun _ => 1) y.1 + (fun y => (fun _ => 1) y.1 + (fun y => (fun t => t.size + 1) y.1 + (fun _ : Unit => 0) y.2) y.2) y.2) y.2) y.2) y
def b_trouperef_AirStep (y : D_trouperef_AirStep) : Nat := c_trouperef_AirStep y + 1
theorem dec_trouperef_AirStep {W : World} : DecT W 88 5 (R_trouperef_AirStep W) b_trouperef_AirStep := by
  refine dec_struct (R := R_trouperef_AirStep W) (bk := c_trouperef_AirStep) Try.underlying88 ?_ (by kernel_rfl)
  refine decfs_cons (s1 := 1) (s2 := 4) (R1 := (intR .i64)) (b1 := (fun _ => 1)) (R2 := (pairR (intR .i64) (pairR (intR .i64) (pairR (intR .i64) (pairR strR nilR))))) (b2 := (fun y => (fun _ => 1) y.1 + (fun y => (fun _ => 1) y.1 + (fun y => (fun _ => 1) y.1 + (fun y => (fun t => t.size + 1) y.1 + (fun _ : Unit => 0) y.2) y.2) y.2) y.2)) ?_ ?_ rfl (by kernel_rfl)
  · exact dec_int Try.underlying3
  refine decfs_cons (s1 := 1) (s2 := 3) (R1 := (intR .i64)) (b1 := (fun _ => 1)) (R2 := (pairR (intR .i64) (pairR (intR .i64) (pairR strR nilR)))) (b2 := (fun y => (fun _ => 1) y.1 + (fun y => (fun _ => 1) y.1 + (fun y => (fun t => t.size + 1) y.1 + (fun _ : Unit => 0) y.2) y.2) y.2)) ?_ ?_ rfl (by kernel_rfl)
  · exact dec_int Try.underlying3
  refine decfs_cons (s1 := 1) (s2 := 2) (R1 := (intR .i64)) (b1 := (fun _ => 1)) (R2 := (pairR (intR .i64) (pairR strR nilR))) (b2 := (fun y => (fun _ => 1) y.1 + (fun y => (fun t => t.size + 1) y.1 + (fun _ : Unit => 0) y.2) y.2)) ?_ ?_ rfl (by kernel_rfl)
  · exact dec_int Try.underlying3
  refine decfs_cons (s1 := 1) (s2 := 1) (R1 := (intR .i64)) (b1 := (fun _ => 1)) (R2 := (pairR strR nilR)) (b2 := (fun y => (fun t => t.size + 1) y.1 + (fun _ : Unit => 0) y.2)) ?_ ?_ rfl (by kernel_rfl)
  · exact dec_int Try.underlying3
  refine decfs_cons (s1 := 1) (s2 := 0) (R1 := strR) (b1 := (fun t => t.size + 1)) (R2 := nilR) (b2 := (fun _ : Unit => 0)) ?_ ?_ rfl (by kernel_rfl)
  · exact dec_string Try.underlying9
  exact decfs_nil

abbrev D_s_trouperef_AirStep : Type := List D_trouperef_AirStep
def R_s_trouperef_AirStep (W : World) : List Value → D_s_trouperef_AirStep → Prop := sliceR W 5 48 (R_trouperef_AirStep W)
def b_s_trouperef_AirStep (ys : D_s_trouperef_AirStep) : Nat := (ys.map b_trouperef_AirStep).sum + 1
theorem dec_s_trouperef_AirStep {W : World} : DecT W 78 1 (R_s_trouperef_AirStep W) b_s_trouperef_AirStep := dec_slice Try.underlying78 dec_trouperef_AirStep (by kernel_rfl) (by decide) (by kernel_rfl)

abbrev D_trouperef_RingStep : Type := Int × Int × Unit
def R_trouperef_RingStep (_W : World) : List Value → D_trouperef_RingStep → Prop := (pairR (intR .i64) (pairR (intR .i64) nilR))
def c_trouperef_RingStep (y : D_trouperef_RingStep) : Nat := (fun y => (fun _ => 1) y.1 + (fun y => (fun _ => 1) y.1 + (fun _ : Unit => 0) y.2) y.2) y
def b_trouperef_RingStep (y : D_trouperef_RingStep) : Nat := c_trouperef_RingStep y + 1
theorem dec_trouperef_RingStep {W : World} : DecT W 118 2 (R_trouperef_RingStep W) b_trouperef_RingStep := by
  refine dec_struct (R := R_trouperef_RingStep W) (bk := c_trouperef_RingStep) Try.underlying118 ?_ (by kernel_rfl)
  refine decfs_cons (s1 := 1) (s2 := 1) (R1 := (intR .i64)) (b1 := (fun _ => 1)) (R2 := (pairR (intR .i64) nilR)) (b2 := (fun y => (fun _ => 1) y.1 + (fun _ : Unit => 0) y.2)) ?_ ?_ rfl (by kernel_rfl)
  · exact dec_int Try.underlying3
  refine decfs_cons (s1 := 1) (s2 := 0) (R1 := (intR .i64)) (b1 := (fun _ => 1)) (R2 := nilR) (b2 := (fun _ : Unit => 0)) ?_ ?_ rfl (by kernel_rfl)
  · exact dec_int Try.underlying3
  exact decfs_nil

abbrev D_s_trouperef_RingStep : Type := List D_trouperef_RingStep
def R_s_trouperef_RingStep (W : World) : List Value → D_s_trouperef_RingStep → Prop := sliceR W 2 16 (R_trouperef_RingStep W)
def b_s_trouperef_RingStep (ys : D_s_trouperef_RingStep) : Nat := (ys.map b_trouperef_RingStep).sum + 1
theorem dec_s_trouperef_RingStep {W : World} : DecT W 109 1 (R_s_trouperef_RingStep W) b_s_trouperef_RingStep := dec_slice Try.underlying109 dec_trouperef_RingStep (by kernel_rfl) (by decide) (by kernel_rfl)

abbrev D_s_int : Type := List Int
def R_s_int (W : World) : List Value → D_s_int → Prop := sliceR W 1 8 (intR .i64)
def b_s_int (ys : D_s_int) : Nat := (ys.map (fun _ => 1)).sum + 1
theorem dec_s_int {W : World} : DecT W 24 1 (R_s_int W) b_s_int := dec_slice Try.underlying24 (dec_int Try.underlying3) (by kernel_rfl) (by decide) (by kernel_rfl)

abbrev D_s_int64 : Type := List Int
def R_s_int64 (W : World) : List Value → D_s_int64 → Prop := sliceR W 1 8 (intR .i64)
def b_s_int64 (ys : D_s_int64) : Nat := (ys.map (fun _ => 1)).sum + 1
theorem dec_s_int64 {W : World} : DecT W 101 1 (R_s_int64 W) b_s_int64 := dec_slice Try.underlying101 (dec_int Try.underlying2) (by kernel_rfl) (by decide) (by kernel_rfl)

abbrev D_api_Image : Type := ByteArray × D_s_int × D_s_int64 × Unit
def R_api_Image (W : World) : List Value → D_api_Image → Prop := (pairR strR (pairR (R_s_int W) (pairR (R_s_int64 W) nilR)))
def c_api_Image (y : D_api_Image) : Nat := (fun y => (fun t => t.size + 1) y.1 + (fun y => b_s_int y.1 + (fun y => b_s_int64 y.1 + (fun _ : Unit => 0) y.2) y.2) y.2) y
def b_api_Image (y : D_api_Image) : Nat := c_api_Image y + 1
theorem dec_api_Image {W : World} : DecT W 103 3 (R_api_Image W) b_api_Image := by
  refine dec_struct (R := R_api_Image W) (bk := c_api_Image) Try.underlying103 ?_ (by kernel_rfl)
  refine decfs_cons (s1 := 1) (s2 := 2) (R1 := strR) (b1 := (fun t => t.size + 1)) (R2 := (pairR (R_s_int W) (pairR (R_s_int64 W) nilR))) (b2 := (fun y => b_s_int y.1 + (fun y => b_s_int64 y.1 + (fun _ : Unit => 0) y.2) y.2)) ?_ ?_ rfl (by kernel_rfl)
  · exact dec_string Try.underlying9
  refine decfs_cons (s1 := 1) (s2 := 1) (R1 := (R_s_int W)) (b1 := b_s_int) (R2 := (pairR (R_s_int64 W) nilR)) (b2 := (fun y => b_s_int64 y.1 + (fun _ : Unit => 0) y.2)) ?_ ?_ rfl (by kernel_rfl)
  · exact dec_s_int
  refine decfs_cons (s1 := 1) (s2 := 0) (R1 := (R_s_int64 W)) (b1 := b_s_int64) (R2 := nilR) (b2 := (fun _ : Unit => 0)) ?_ ?_ rfl (by kernel_rfl)
  · exact dec_s_int64
  exact decfs_nil

abbrev D_api_Call : Type := Int × Int × D_s_int64 × D_s_int64 × Unit
def R_api_Call (W : World) : List Value → D_api_Call → Prop := (pairR (intR .i64) (pairR (intR .i64) (pairR (R_s_int64 W) (pairR (R_s_int64 W) nilR))))
def c_api_Call (y : D_api_Call) : Nat := (fun y => (fun _ => 1) y.1 + (fun y => (fun _ => 1) y.1 + (fun y => b_s_int64 y.1 + (fun y => b_s_int64 y.1 + (fun _ : Unit => 0) y.2) y.2) y.2) y.2) y
def b_api_Call (y : D_api_Call) : Nat := c_api_Call y + 1
theorem dec_api_Call {W : World} : DecT W 165 4 (R_api_Call W) b_api_Call := by
  refine dec_struct (R := R_api_Call W) (bk := c_api_Call) Try.underlying165 ?_ (by kernel_rfl)
  refine decfs_cons (s1 := 1) (s2 := 3) (R1 := (intR .i64)) (b1 := (fun _ => 1)) (R2 := (pairR (intR .i64) (pairR (R_s_int64 W) (pairR (R_s_int64 W) nilR)))) (b2 := (fun y => (fun _ => 1) y.1 + (fun y => b_s_int64 y.1 + (fun y => b_s_int64 y.1 + (fun _ : Unit => 0) y.2) y.2) y.2)) ?_ ?_ rfl (by kernel_rfl)
  · exact dec_int Try.underlying3
  refine decfs_cons (s1 := 1) (s2 := 2) (R1 := (intR .i64)) (b1 := (fun _ => 1)) (R2 := (pairR (R_s_int64 W) (pairR (R_s_int64 W) nilR))) (b2 := (fun y => b_s_int64 y.1 + (fun y => b_s_int64 y.1 + (fun _ : Unit => 0) y.2) y.2)) ?_ ?_ rfl (by kernel_rfl)
  · exact dec_int Try.underlying3
  refine decfs_cons (s1 := 1) (s2 := 1) (R1 := (R_s_int64 W)) (b1 := b_s_int64) (R2 := (pairR (R_s_int64 W) nilR)) (b2 := (fun y => b_s_int64 y.1 + (fun _ : Unit => 0) y.2)) ?_ ?_ rfl (by kernel_rfl)
  · exact dec_s_int64
  refine decfs_cons (s1 := 1) (s2 := 0) (R1 := (R_s_int64 W)) (b1 := b_s_int64) (R2 := nilR) (b2 := (fun _ : Unit => 0)) ?_ ?_ rfl (by kernel_rfl)
  · exact dec_s_int64
  exact decfs_nil

abbrev D_s_api_Call : Type := List D_api_Call
def R_s_api_Call (W : World) : List Value → D_s_api_Call → Prop := sliceR W 4 64 (R_api_Call W)
def b_s_api_Call (ys : D_s_api_Call) : Nat := (ys.map b_api_Call).sum + 1
theorem dec_s_api_Call {W : World} : DecT W 104 1 (R_s_api_Call W) b_s_api_Call := dec_slice Try.underlying104 dec_api_Call (by kernel_rfl) (by decide) (by kernel_rfl)

abbrev D_api_State : Type := D_s_api_Call × Int × Unit
def R_api_State (W : World) : List Value → D_api_State → Prop := (pairR (R_s_api_Call W) (pairR (intR .i64) nilR))
def c_api_State (y : D_api_State) : Nat := (fun y => b_s_api_Call y.1 + (fun y => (fun _ => 1) y.1 + (fun _ : Unit => 0) y.2) y.2) y
def b_api_State (y : D_api_State) : Nat := c_api_State y + 1
theorem dec_api_State {W : World} : DecT W 106 2 (R_api_State W) b_api_State := by
  refine dec_struct (R := R_api_State W) (bk := c_api_State) Try.underlying106 ?_ (by kernel_rfl)
  refine decfs_cons (s1 := 1) (s2 := 1) (R1 := (R_s_api_Call W)) (b1 := b_s_api_Call) (R2 := (pairR (intR .i64) nilR)) (b2 := (fun y => (fun _ => 1) y.1 + (fun _ : Unit => 0) y.2)) ?_ ?_ rfl (by kernel_rfl)
  · exact dec_s_api_Call
  refine decfs_cons (s1 := 1) (s2 := 0) (R1 := (intR .i64)) (b1 := (fun _ => 1)) (R2 := nilR) (b2 := (fun _ : Unit => 0)) ?_ ?_ rfl (by kernel_rfl)
  · exact dec_int Try.underlying3
  exact decfs_nil

end Go.Proofs.Ytbjhedfgnocflaa
