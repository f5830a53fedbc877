/-
  THE LAW TurnsDeals: Share is the reference's, for all arguments. No condition.
-/
import Derived.Test.YtbjhedfgnocflaaShr
import Derived.Test.YtbjhedfgnocflaaEqs
import Derived.Test.YtbjhedfgnocflaaOpen
namespace Go.Proofs.Ytbjhedfgnocflaa
open Go.RowKit

set_option maxRecDepth 100000 in
set_option maxHeartbeats 1000000 in
theorem law_TurnsDeals (v0 v1 v2 : Value) (x0 : List Int) (x1 x2 : Int) (W : World) (i0 : IsInts .i64 8 W v0 x0) (i1 : IsInt .i64 W v1 x1) (i2 : IsInt .i64 W v2 x2) :
    Calls Try.prog 10 #[v0, v1, v2] W fun e w' => e = .returned (.bool true) ∧ Below W.heap.size W w' := by
  obtain ⟨h0, _, _⟩ := i0
  obtain ⟨rfl, _⟩ := i1
  obtain ⟨rfl, _⟩ := i2
  have H0 := hid h0
  clear h0
  go_enter Try.func10, Try.ntmps10
  go_wp2_with fail
  refine (share_any _ x0 x1 x2 _ H0.out).mono ?_
  rintro e w1 ⟨a, a', rfl, ha, ha', b1⟩
  go_wp2_with fail
  refine (refShare_any _ x0 x1 x2 _ (L1.below H0.out b1)).mono ?_
  rintro e w2 ⟨c, c', rfl, hc, hc', b2⟩
  generalize shareF x0 x1 x2 = r at *
  obtain ⟨r1, r2, r3⟩ := r
  go_wp2_with fail
  refine (eq_int _ _ r1 r1 _ (L1.below (OwnI.ints ha) b2) (OwnI.ints hc)).mono ?_
  rintro e w3 ⟨rfl, rfl⟩
  have hr : decide (r1 = r1) = true := by simp
  have hr2 : decide (r2 = r2) = true := by simp
  go_wp2_with fail
  refine (eq_int _ _ r2 r2 _ (L1.below (OwnI.ints ha') b2) (OwnI.ints hc')).mono ?_
  rintro e w3 ⟨rfl, rfl⟩
  go_wp2_with fail
  go_ret
  exact ⟨rfl, b1.trans (b2.mono b1.size)⟩
end Go.Proofs.Ytbjhedfgnocflaa
