/-
  HOW THE ARGUMENTS OF THE LAWS READ, by type. No condition. Printed by a program of mine.
-/
import Derived.Test.YthoalneknadheaaGreatDoorGBinWrites6
namespace Go.Proofs.YthoalneknadheaaGreatDoor
open Go.RowKit
set_option maxRecDepth 100000

abbrev D_s_api_Kind : Type := List Int
def R_s_api_Kind (W : World) : List Value → D_s_api_Kind → Prop := sliceR W 1 1 (intR .u8)
def b_s_api_Kind (ys : D_s_api_Kind) : Nat := (ys.map (fun _ => 1)).sum + 1
theorem dec_s_api_Kind {W : World} : DecT W 45 1 (R_s_api_Kind W) b_s_api_Kind := dec_slice Tryz.underlying45 (dec_int Tryz.underlying62) (by kernel_rfl) (by decide) (by kernel_rfl)

abbrev D_api_Sig : Type := D_s_api_Kind × D_s_api_Kind × Unit
def R_api_Sig (W : World) : List Value → D_api_Sig → Prop := (pairR (R_s_api_Kind W) (pairR (R_s_api_Kind W) nilR))
def c_api_Sig (y : D_api_Sig) : Nat := (fun y => b_s_api_Kind y.1 + (fun y => b_s_api_Kind y.1 + (fun _ : Unit => 0) y.2) y.2) y
def b_api_Sig (y : D_api_Sig) : Nat := c_api_Sig y + 1
theorem dec_api_Sig {W : World} : DecT W 47 2 (R_api_Sig W) b_api_Sig := by
  refine dec_struct (R := R_api_Sig W) (bk := c_api_Sig) Tryz.underlying47 ?_ (by kernel_rfl)
  refine decfs_cons (s1 := 1) (s2 := 1) (R1 := (R_s_api_Kind W)) (b1 := b_s_api_Kind) (R2 := (pairR (R_s_api_Kind W) nilR)) (b2 := (fun y => b_s_api_Kind y.1 + (fun _ : Unit => 0) y.2)) ?_ ?_ rfl (by kernel_rfl)
  · exact dec_s_api_Kind
  refine decfs_cons (s1 := 1) (s2 := 0) (R1 := (R_s_api_Kind W)) (b1 := b_s_api_Kind) (R2 := nilR) (b2 := (fun _ : Unit => 0)) ?_ ?_ rfl (by kernel_rfl)
  · exact dec_s_api_Kind
  exact decfs_nil

abbrev D_s_api_Sig : Type := List D_api_Sig
def R_s_api_Sig (W : World) : List Value → D_s_api_Sig → Prop := sliceR W 2 48 (R_api_Sig W)
def b_s_api_Sig (ys : D_s_api_Sig) : Nat := (ys.map b_api_Sig).sum + 1
theorem dec_s_api_Sig {W : World} : DecT W 22 1 (R_s_api_Sig W) b_s_api_Sig := dec_slice Tryz.underlying22 dec_api_Sig (by kernel_rfl) (by decide) (by kernel_rfl)

abbrev D_api_Import : Type := ByteArray × Int × Unit
def R_api_Import (_W : World) : List Value → D_api_Import → Prop := (pairR strR (pairR (intR .i64) nilR))
def c_api_Import (y : D_api_Import) : Nat := (fun y => (fun t => t.size + 1) y.1 + (fun y => (fun _ => 1) y.1 + (fun _ : Unit => 0) y.2) y.2) y
def b_api_Import (y : D_api_Import) : Nat := c_api_Import y + 1
theorem dec_api_Import {W : World} : DecT W 52 2 (R_api_Import W) b_api_Import := by
  refine dec_struct (R := R_api_Import W) (bk := c_api_Import) Tryz.underlying52 ?_ (by kernel_rfl)
  refine decfs_cons (s1 := 1) (s2 := 1) (R1 := strR) (b1 := (fun t => t.size + 1)) (R2 := (pairR (intR .i64) nilR)) (b2 := (fun y => (fun _ => 1) y.1 + (fun _ : Unit => 0) y.2)) ?_ ?_ rfl (by kernel_rfl)
  · exact dec_string Tryz.underlying9
  refine decfs_cons (s1 := 1) (s2 := 0) (R1 := (intR .i64)) (b1 := (fun _ => 1)) (R2 := nilR) (b2 := (fun _ : Unit => 0)) ?_ ?_ rfl (by kernel_rfl)
  · exact dec_int Tryz.underlying3
  exact decfs_nil

abbrev D_s_api_Import : Type := List D_api_Import
def R_s_api_Import (W : World) : List Value → D_s_api_Import → Prop := sliceR W 2 24 (R_api_Import W)
def b_s_api_Import (ys : D_s_api_Import) : Nat := (ys.map b_api_Import).sum + 1
theorem dec_s_api_Import {W : World} : DecT W 23 1 (R_s_api_Import W) b_s_api_Import := dec_slice Tryz.underlying23 dec_api_Import (by kernel_rfl) (by decide) (by kernel_rfl)

abbrev D_s_int64 : Type := List Int
def R_s_int64 (W : World) : List Value → D_s_int64 → Prop := sliceR W 1 8 (intR .i64)
def b_s_int64 (ys : D_s_int64) : Nat := (ys.map (fun _ => 1)).sum + 1
theorem dec_s_int64 {W : World} : DecT W 160 1 (R_s_int64 W) b_s_int64 := dec_slice Tryz.underlying160 (dec_int Tryz.underlying2) (by kernel_rfl) (by decide) (by kernel_rfl)

abbrev D_api_Ins : Type := Int × Int × Int × D_s_int64 × Unit
def R_api_Ins (W : World) : List Value → D_api_Ins → Prop := (pairR (intR .u8) (pairR (intR .i64) (pairR (intR .i64) (pairR (R_s_int64 W) nilR))))
def c_api_Ins (y : D_api_Ins) : Nat := (fun y => (fun _ => 1) y.1 + (fun y => (fun _ => 1) y.1 + (fun y => (fun _ => 1) y.1 + (fun y => b_s_int64 y.1 + (fun _ : Unit => 0) y.2) y.2) y.2) y.2) y
def b_api_Ins (y : D_api_Ins) : Nat := c_api_Ins y + 1
theorem dec_api_Ins {W : World} : DecT W 162 4 (R_api_Ins W) b_api_Ins := by
  refine dec_struct (R := R_api_Ins W) (bk := c_api_Ins) Tryz.underlying162 ?_ (by kernel_rfl)
  refine decfs_cons (s1 := 1) (s2 := 3) (R1 := (intR .u8)) (b1 := (fun _ => 1)) (R2 := (pairR (intR .i64) (pairR (intR .i64) (pairR (R_s_int64 W) nilR)))) (b2 := (fun y => (fun _ => 1) y.1 + (fun y => (fun _ => 1) y.1 + (fun y => b_s_int64 y.1 + (fun _ : Unit => 0) y.2) y.2) y.2)) ?_ ?_ rfl (by kernel_rfl)
  · exact dec_int Tryz.underlying5
  refine decfs_cons (s1 := 1) (s2 := 2) (R1 := (intR .i64)) (b1 := (fun _ => 1)) (R2 := (pairR (intR .i64) (pairR (R_s_int64 W) nilR))) (b2 := (fun y => (fun _ => 1) y.1 + (fun y => b_s_int64 y.1 + (fun _ : Unit => 0) y.2) y.2)) ?_ ?_ rfl (by kernel_rfl)
  · exact dec_int Tryz.underlying2
  refine decfs_cons (s1 := 1) (s2 := 1) (R1 := (intR .i64)) (b1 := (fun _ => 1)) (R2 := (pairR (R_s_int64 W) nilR)) (b2 := (fun y => b_s_int64 y.1 + (fun _ : Unit => 0) y.2)) ?_ ?_ rfl (by kernel_rfl)
  · exact dec_int Tryz.underlying2
  refine decfs_cons (s1 := 1) (s2 := 0) (R1 := (R_s_int64 W)) (b1 := b_s_int64) (R2 := nilR) (b2 := (fun _ : Unit => 0)) ?_ ?_ rfl (by kernel_rfl)
  · exact dec_s_int64
  exact decfs_nil

abbrev D_s_api_Ins : Type := List D_api_Ins
def R_s_api_Ins (W : World) : List Value → D_s_api_Ins → Prop := sliceR W 4 48 (R_api_Ins W)
def b_s_api_Ins (ys : D_s_api_Ins) : Nat := (ys.map b_api_Ins).sum + 1
theorem dec_s_api_Ins {W : World} : DecT W 57 1 (R_s_api_Ins W) b_s_api_Ins := dec_slice Tryz.underlying57 dec_api_Ins (by kernel_rfl) (by decide) (by kernel_rfl)

abbrev D_api_Func : Type := Int × D_s_api_Kind × D_s_api_Ins × Unit
def R_api_Func (W : World) : List Value → D_api_Func → Prop := (pairR (intR .i64) (pairR (R_s_api_Kind W) (pairR (R_s_api_Ins W) nilR)))
def c_api_Func (y : D_api_Func) : Nat := (fun y => (fun _ => 1) y.1 + (fun y => b_s_api_Kind y.1 + (fun y => b_s_api_Ins y.1 + (fun _ : Unit => 0) y.2) y.2) y.2) y
def b_api_Func (y : D_api_Func) : Nat := c_api_Func y + 1
theorem dec_api_Func {W : World} : DecT W 59 3 (R_api_Func W) b_api_Func := by
  refine dec_struct (R := R_api_Func W) (bk := c_api_Func) Tryz.underlying59 ?_ (by kernel_rfl)
  refine decfs_cons (s1 := 1) (s2 := 2) (R1 := (intR .i64)) (b1 := (fun _ => 1)) (R2 := (pairR (R_s_api_Kind W) (pairR (R_s_api_Ins W) nilR))) (b2 := (fun y => b_s_api_Kind y.1 + (fun y => b_s_api_Ins y.1 + (fun _ : Unit => 0) y.2) y.2)) ?_ ?_ rfl (by kernel_rfl)
  · exact dec_int Tryz.underlying3
  refine decfs_cons (s1 := 1) (s2 := 1) (R1 := (R_s_api_Kind W)) (b1 := b_s_api_Kind) (R2 := (pairR (R_s_api_Ins W) nilR)) (b2 := (fun y => b_s_api_Ins y.1 + (fun _ : Unit => 0) y.2)) ?_ ?_ rfl (by kernel_rfl)
  · exact dec_s_api_Kind
  refine decfs_cons (s1 := 1) (s2 := 0) (R1 := (R_s_api_Ins W)) (b1 := b_s_api_Ins) (R2 := nilR) (b2 := (fun _ : Unit => 0)) ?_ ?_ rfl (by kernel_rfl)
  · exact dec_s_api_Ins
  exact decfs_nil

abbrev D_s_api_Func : Type := List D_api_Func
def R_s_api_Func (W : World) : List Value → D_s_api_Func → Prop := sliceR W 3 56 (R_api_Func W)
def b_s_api_Func (ys : D_s_api_Func) : Nat := (ys.map b_api_Func).sum + 1
theorem dec_s_api_Func {W : World} : DecT W 24 1 (R_s_api_Func W) b_s_api_Func := dec_slice Tryz.underlying24 dec_api_Func (by kernel_rfl) (by decide) (by kernel_rfl)

abbrev D_api_Global : Type := Int × Bool × Int × Unit
def R_api_Global (_W : World) : List Value → D_api_Global → Prop := (pairR (intR .u8) (pairR boolR (pairR (intR .i64) nilR)))
def c_api_Global (y : D_api_Global) : Nat := (fun y => (fun _ => 1) y.1 + (fun y => (fun _ => 1) y.1 + (fun y => (fun _ => 1) y.1 + (fun _ : Unit => 0) y.2) y.2) y.2) y
def b_api_Global (y : D_api_Global) : Nat := c_api_Global y + 1
theorem dec_api_Global {W : World} : DecT W 64 3 (R_api_Global W) b_api_Global := by
  refine dec_struct (R := R_api_Global W) (bk := c_api_Global) Tryz.underlying64 ?_ (by kernel_rfl)
  refine decfs_cons (s1 := 1) (s2 := 2) (R1 := (intR .u8)) (b1 := (fun _ => 1)) (R2 := (pairR boolR (pairR (intR .i64) nilR))) (b2 := (fun y => (fun _ => 1) y.1 + (fun y => (fun _ => 1) y.1 + (fun _ : Unit => 0) y.2) y.2)) ?_ ?_ rfl (by kernel_rfl)
  · exact dec_int Tryz.underlying62
  refine decfs_cons (s1 := 1) (s2 := 1) (R1 := boolR) (b1 := (fun _ => 1)) (R2 := (pairR (intR .i64) nilR)) (b2 := (fun y => (fun _ => 1) y.1 + (fun _ : Unit => 0) y.2)) ?_ ?_ rfl (by kernel_rfl)
  · exact dec_bool Tryz.underlying4
  refine decfs_cons (s1 := 1) (s2 := 0) (R1 := (intR .i64)) (b1 := (fun _ => 1)) (R2 := nilR) (b2 := (fun _ : Unit => 0)) ?_ ?_ rfl (by kernel_rfl)
  · exact dec_int Tryz.underlying2
  exact decfs_nil

abbrev D_s_api_Global : Type := List D_api_Global
def R_s_api_Global (W : World) : List Value → D_s_api_Global → Prop := sliceR W 3 16 (R_api_Global W)
def b_s_api_Global (ys : D_s_api_Global) : Nat := (ys.map b_api_Global).sum + 1
theorem dec_s_api_Global {W : World} : DecT W 25 1 (R_s_api_Global W) b_s_api_Global := dec_slice Tryz.underlying25 dec_api_Global (by kernel_rfl) (by decide) (by kernel_rfl)

abbrev D_api_Export : Type := ByteArray × Int × Unit
def R_api_Export (_W : World) : List Value → D_api_Export → Prop := (pairR strR (pairR (intR .i64) nilR))
def c_api_Export (y : D_api_Export) : Nat := (fun y => (fun t => t.size + 1) y.1 + (fun y => (fun _ => 1) y.1 + (fun _ : Unit => 0) y.2) y.2) y
def b_api_Export (y : D_api_Export) : Nat := c_api_Export y + 1
theorem dec_api_Export {W : World} : DecT W 68 2 (R_api_Export W) b_api_Export := by
  refine dec_struct (R := R_api_Export W) (bk := c_api_Export) Tryz.underlying68 ?_ (by kernel_rfl)
  refine decfs_cons (s1 := 1) (s2 := 1) (R1 := strR) (b1 := (fun t => t.size + 1)) (R2 := (pairR (intR .i64) nilR)) (b2 := (fun y => (fun _ => 1) y.1 + (fun _ : Unit => 0) y.2)) ?_ ?_ rfl (by kernel_rfl)
  · exact dec_string Tryz.underlying9
  refine decfs_cons (s1 := 1) (s2 := 0) (R1 := (intR .i64)) (b1 := (fun _ => 1)) (R2 := nilR) (b2 := (fun _ : Unit => 0)) ?_ ?_ rfl (by kernel_rfl)
  · exact dec_int Tryz.underlying3
  exact decfs_nil

abbrev D_s_api_Export : Type := List D_api_Export
def R_s_api_Export (W : World) : List Value → D_s_api_Export → Prop := sliceR W 2 24 (R_api_Export W)
def b_s_api_Export (ys : D_s_api_Export) : Nat := (ys.map b_api_Export).sum + 1
theorem dec_s_api_Export {W : World} : DecT W 26 1 (R_s_api_Export W) b_s_api_Export := dec_slice Tryz.underlying26 dec_api_Export (by kernel_rfl) (by decide) (by kernel_rfl)

abbrev D_s_int : Type := List Int
def R_s_int (W : World) : List Value → D_s_int → Prop := sliceR W 1 8 (intR .i64)
def b_s_int (ys : D_s_int) : Nat := (ys.map (fun _ => 1)).sum + 1
theorem dec_s_int {W : World} : DecT W 71 1 (R_s_int W) b_s_int := dec_slice Tryz.underlying71 (dec_int Tryz.underlying3) (by kernel_rfl) (by decide) (by kernel_rfl)

abbrev D_api_Elem : Type := Int × D_s_int × Unit
def R_api_Elem (W : World) : List Value → D_api_Elem → Prop := (pairR (intR .i64) (pairR (R_s_int W) nilR))
def c_api_Elem (y : D_api_Elem) : Nat := (fun y => (fun _ => 1) y.1 + (fun y => b_s_int y.1 + (fun _ : Unit => 0) y.2) y.2) y
def b_api_Elem (y : D_api_Elem) : Nat := c_api_Elem y + 1
theorem dec_api_Elem {W : World} : DecT W 73 2 (R_api_Elem W) b_api_Elem := by
  refine dec_struct (R := R_api_Elem W) (bk := c_api_Elem) Tryz.underlying73 ?_ (by kernel_rfl)
  refine decfs_cons (s1 := 1) (s2 := 1) (R1 := (intR .i64)) (b1 := (fun _ => 1)) (R2 := (pairR (R_s_int W) nilR)) (b2 := (fun y => b_s_int y.1 + (fun _ : Unit => 0) y.2)) ?_ ?_ rfl (by kernel_rfl)
  · exact dec_int Tryz.underlying3
  refine decfs_cons (s1 := 1) (s2 := 0) (R1 := (R_s_int W)) (b1 := b_s_int) (R2 := nilR) (b2 := (fun _ : Unit => 0)) ?_ ?_ rfl (by kernel_rfl)
  · exact dec_s_int
  exact decfs_nil

abbrev D_s_api_Elem : Type := List D_api_Elem
def R_s_api_Elem (W : World) : List Value → D_s_api_Elem → Prop := sliceR W 2 32 (R_api_Elem W)
def b_s_api_Elem (ys : D_s_api_Elem) : Nat := (ys.map b_api_Elem).sum + 1
theorem dec_s_api_Elem {W : World} : DecT W 27 1 (R_s_api_Elem W) b_s_api_Elem := dec_slice Tryz.underlying27 dec_api_Elem (by kernel_rfl) (by decide) (by kernel_rfl)

abbrev D_api_Data : Type := Int × ByteArray × Unit
def R_api_Data (_W : World) : List Value → D_api_Data → Prop := (pairR (intR .i64) (pairR strR nilR))
def c_api_Data (y : D_api_Data) : Nat := (fun y => (fun _ => 1) y.1 + (fun y => (fun t => t.size + 1) y.1 + (fun _ : Unit => 0) y.2) y.2) y
def b_api_Data (y : D_api_Data) : Nat := c_api_Data y + 1
theorem dec_api_Data {W : World} : DecT W 78 2 (R_api_Data W) b_api_Data := by
  refine dec_struct (R := R_api_Data W) (bk := c_api_Data) Tryz.underlying78 ?_ (by kernel_rfl)
  refine decfs_cons (s1 := 1) (s2 := 1) (R1 := (intR .i64)) (b1 := (fun _ => 1)) (R2 := (pairR strR nilR)) (b2 := (fun y => (fun t => t.size + 1) y.1 + (fun _ : Unit => 0) y.2)) ?_ ?_ rfl (by kernel_rfl)
  · exact dec_int Tryz.underlying3
  refine decfs_cons (s1 := 1) (s2 := 0) (R1 := strR) (b1 := (fun t => t.size + 1)) (R2 := nilR) (b2 := (fun _ : Unit => 0)) ?_ ?_ rfl (by kernel_rfl)
  · exact dec_string Tryz.underlying9
  exact decfs_nil

abbrev D_s_api_Data : Type := List D_api_Data
def R_s_api_Data (W : World) : List Value → D_s_api_Data → Prop := sliceR W 2 24 (R_api_Data W)
def b_s_api_Data (ys : D_s_api_Data) : Nat := (ys.map b_api_Data).sum + 1
theorem dec_s_api_Data {W : World} : DecT W 28 1 (R_s_api_Data W) b_s_api_Data := dec_slice Tryz.underlying28 dec_api_Data (by kernel_rfl) (by decide) (by kernel_rfl)

abbrev D_api_Module : Type := D_s_api_Sig × D_s_api_Import × D_s_api_Func × Int × Int × Int × D_s_api_Global × D_s_api_Export × Int × D_s_api_Elem × D_s_api_Data × Unit
def R_api_Module (W : World) : List Value → D_api_Module → Prop := (pairR (R_s_api_Sig W) (pairR (R_s_api_Import W) (pairR (R_s_api_Func W) (pairR (intR .i64) (pairR (intR .i64) (pairR (intR .i64) (pairR (R_s_api_Global W) (pairR (R_s_api_Export W) (pairR (intR .i64) (pairR (R_s_api_Elem W) (pairR (R_s_api_Data W) nilR)))))))))))
def c_api_Module (y : D_api_Module) : Nat := (fun y => b_s_api_Sig y.1 + (fun y => b_s_api_Import y.1 + (fun y => b_s_api_Func y.1 + (fun y => (fun _ => 1) y.1 + (fun y => (fun _ => 1) y.1 + (fun y => (fun _ => 1) y.1 + (fun y => b_s_api_Global y.1 + (fun y => b_s_api_Export y.1 + (fun y => (fun _ => 1) y.1 + (fun y => b_s_api_Elem y.1 + (fun y => b_s_api_Data y.1 + (fun _ : Unit => 0) y.2) y.2) y.2) y.2) y.2) y.2) y.2) y.2) y.2) y.2) y.2) y
def b_api_Module (y : D_api_Module) : Nat := c_api_Module y + 1
theorem dec_api_Module {W : World} : DecT W 30 11 (R_api_Module W) b_api_Module := by
  refine dec_struct (R := R_api_Module W) (bk := c_api_Module) Tryz.underlying30 ?_ (by kernel_rfl)
  refine decfs_cons (s1 := 1) (s2 := 10) (R1 := (R_s_api_Sig W)) (b1 := b_s_api_Sig) (R2 := (pairR (R_s_api_Import W) (pairR (R_s_api_Func W) (pairR (intR .i64) (pairR (intR .i64) (pairR (intR .i64) (pairR (R_s_api_Global W) (pairR (R_s_api_Export W) (pairR (intR .i64) (pairR (R_s_api_Elem W) (pairR (R_s_api_Data W) nilR))))))))))) (b2 := (fun y => b_s_api_Import y.1 + (fun y => b_s_api_Func y.1 + (fun y => (fun _ => 1) y.1 + (fun y => (fun _ => 1) y.1 + (fun y => (fun _ => 1) y.1 + (fun y => b_s_api_Global y.1 + (fun y => b_s_api_Export y.1 + (fun y => (fun _ => 1) y.1 + (fun y => b_s_api_Elem y.1 + (fun y => b_s_api_Data y.1 + (fun _ : Unit => 0) y.2) y.2) y.2) y.2) y.2) y.2) y.2) y.2) y.2) y.2)) ?_ ?_ rfl (by kernel_rfl)
  · exact dec_s_api_Sig
  refine decfs_cons (s1 := 1) (s2 := 9) (R1 := (R_s_api_Import W)) (b1 := b_s_api_Import) (R2 := (pairR (R_s_api_Func W) (pairR (intR .i64) (pairR (intR .i64) (pairR (intR .i64) (pairR (R_s_api_Global W) (pairR (R_s_api_Export W) (pairR (intR .i64) (pairR (R_s_api_Elem W) (pairR (R_s_api_Data W) nilR)))))))))) (b2 := (fun y => b_s_api_Func y.1 + (fun y => (fun _ => 1) y.1 + (fun y => (fun _ => 1) y.1 + (fun y => (fun _ => 1) y.1 + (fun y => b_s_api_Global y.1 + (fun y => b_s_api_Export y.1 + (fun y => (fun _ => 1) y.1 + (fun y => b_s_api_Elem y.1 + (fun y => b_s_api_Data y.1 + (fun _ : Unit => 0) y.2) y.2) y.2) y.2) y.2) y.2) y.2) y.2) y.2)) ?_ ?_ rfl (by kernel_rfl)
  · exact dec_s_api_Import
  refine decfs_cons (s1 := 1) (s2 := 8) (R1 := (R_s_api_Func W)) (b1 := b_s_api_Func) (R2 := (pairR (intR .i64) (pairR (intR .i64) (pairR (intR .i64) (pairR (R_s_api_Global W) (pairR (R_s_api_Export W) (pairR (intR .i64) (pairR (R_s_api_Elem W) (pairR (R_s_api_Data W) nilR))))))))) (b2 := (fun y => (fun _ => 1) y.1 + (fun y => (fun _ => 1) y.1 + (fun y => (fun _ => 1) y.1 + (fun y => b_s_api_Global y.1 + (fun y => b_s_api_Export y.1 + (fun y => (fun _ => 1) y.1 + (fun y => b_s_api_Elem y.1 + (fun y => b_s_api_Data y.1 + (fun _ : Unit => 0) y.2) y.2) y.2) y.2) y.2) y.2) y.2) y.2)) ?_ ?_ rfl (by kernel_rfl)
  · exact dec_s_api_Func
  refine decfs_cons (s1 := 1) (s2 := 7) (R1 := (intR .i64)) (b1 := (fun _ => 1)) (R2 := (pairR (intR .i64) (pairR (intR .i64) (pairR (R_s_api_Global W) (pairR (R_s_api_Export W) (pairR (intR .i64) (pairR (R_s_api_Elem W) (pairR (R_s_api_Data W) nilR)))))))) (b2 := (fun y => (fun _ => 1) y.1 + (fun y => (fun _ => 1) y.1 + (fun y => b_s_api_Global y.1 + (fun y => b_s_api_Export y.1 + (fun y => (fun _ => 1) y.1 + (fun y => b_s_api_Elem y.1 + (fun y => b_s_api_Data y.1 + (fun _ : Unit => 0) y.2) y.2) y.2) y.2) y.2) y.2) y.2)) ?_ ?_ rfl (by kernel_rfl)
  · exact dec_int Tryz.underlying3
  refine decfs_cons (s1 := 1) (s2 := 6) (R1 := (intR .i64)) (b1 := (fun _ => 1)) (R2 := (pairR (intR .i64) (pairR (R_s_api_Global W) (pairR (R_s_api_Export W) (pairR (intR .i64) (pairR (R_s_api_Elem W) (pairR (R_s_api_Data W) nilR))))))) (b2 := (fun y => (fun _ => 1) y.1 + (fun y => b_s_api_Global y.1 + (fun y => b_s_api_Export y.1 + (fun y => (fun _ => 1) y.1 + (fun y => b_s_api_Elem y.1 + (fun y => b_s_api_Data y.1 + (fun _ : Unit => 0) y.2) y.2) y.2) y.2) y.2) y.2)) ?_ ?_ rfl (by kernel_rfl)
  · exact dec_int Tryz.underlying3
  refine decfs_cons (s1 := 1) (s2 := 5) (R1 := (intR .i64)) (b1 := (fun _ => 1)) (R2 := (pairR (R_s_api_Global W) (pairR (R_s_api_Export W) (pairR (intR .i64) (pairR (R_s_api_Elem W) (pairR (R_s_api_Data W) nilR)))))) (b2 := (fun y => b_s_api_Global y.1 + (fun y => b_s_api_Export y.1 + (fun y => (fun _ => 1) y.1 + (fun y => b_s_api_Elem y.1 + (fun y => b_s_api_Data y.1 + (fun _ : Unit => 0) y.2) y.2) y.2) y.2) y.2)) ?_ ?_ rfl (by kernel_rfl)
  · exact dec_int Tryz.underlying3
  refine decfs_cons (s1 := 1) (s2 := 4) (R1 := (R_s_api_Global W)) (b1 := b_s_api_Global) (R2 := (pairR (R_s_api_Export W) (pairR (intR .i64) (pairR (R_s_api_Elem W) (pairR (R_s_api_Data W) nilR))))) (b2 := (fun y => b_s_api_Export y.1 + (fun y => (fun _ => 1) y.1 + (fun y => b_s_api_Elem y.1 + (fun y => b_s_api_Data y.1 + (fun _ : Unit => 0) y.2) y.2) y.2) y.2)) ?_ ?_ rfl (by kernel_rfl)
  · exact dec_s_api_Global
  refine decfs_cons (s1 := 1) (s2 := 3) (R1 := (R_s_api_Export W)) (b1 := b_s_api_Export) (R2 := (pairR (intR .i64) (pairR (R_s_api_Elem W) (pairR (R_s_api_Data W) nilR)))) (b2 := (fun y => (fun _ => 1) y.1 + (fun y => b_s_api_Elem y.1 + (fun y => b_s_api_Data y.1 + (fun _ : Unit => 0) y.2) y.2) y.2)) ?_ ?_ rfl (by kernel_rfl)
  · exact dec_s_api_Export
  refine decfs_cons (s1 := 1) (s2 := 2) (R1 := (intR .i64)) (b1 := (fun _ => 1)) (R2 := (pairR (R_s_api_Elem W) (pairR (R_s_api_Data W) nilR))) (b2 := (fun y => b_s_api_Elem y.1 + (fun y => b_s_api_Data y.1 + (fun _ : Unit => 0) y.2) y.2)) ?_ ?_ rfl (by kernel_rfl)
  · exact dec_int Tryz.underlying3
  refine decfs_cons (s1 := 1) (s2 := 1) (R1 := (R_s_api_Elem W)) (b1 := b_s_api_Elem) (R2 := (pairR (R_s_api_Data W) nilR)) (b2 := (fun y => b_s_api_Data y.1 + (fun _ : Unit => 0) y.2)) ?_ ?_ rfl (by kernel_rfl)
  · exact dec_s_api_Elem
  refine decfs_cons (s1 := 1) (s2 := 0) (R1 := (R_s_api_Data W)) (b1 := b_s_api_Data) (R2 := nilR) (b2 := (fun _ : Unit => 0)) ?_ ?_ rfl (by kernel_rfl)
  · exact dec_s_api_Data
  exact decfs_nil

end Go.Proofs.YthoalneknadheaaGreatDoor
