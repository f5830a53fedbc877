/-
  HOW THE ARGUMENTS OF THE LAWS READ, by type. No condition. Printed by a program of mine.
-/
import Derived.Test.YtpapblahnbeccaaDec
namespace Go.Proofs.Ytpapblahnbeccaa
open Go.RowKit
set_option maxRecDepth 100000

abbrev D_s_int64 : Type := List Int
def R_s_int64 (W : World) : List Value → D_s_int64 → Prop := sliceR W 1 8 (intR .i64)
def b_s_int64 (ys : D_s_int64) : Nat := (ys.map (fun _ => 1)).sum + 1
theorem dec_s_int64 {W : World} : DecT W 112 1 (R_s_int64 W) b_s_int64 := dec_slice Try.underlying112 (dec_int Try.underlying2) (by kernel_rfl) (by decide) (by kernel_rfl)

end Go.Proofs.Ytpapblahnbeccaa
