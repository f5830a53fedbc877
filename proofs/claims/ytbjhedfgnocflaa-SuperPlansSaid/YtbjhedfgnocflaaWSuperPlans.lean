/-
  THE LAW SuperPlans: Plan is the reference's, for all arguments. No condition.
-/
import Derived.Test.YtbjhedfgnocflaaSupPa
import Derived.Test.YtbjhedfgnocflaaEqs
import Derived.Test.YtbjhedfgnocflaaOpen
namespace Go.Proofs.Ytbjhedfgnocflaa
open Go.RowKit

def IsKids (w : World) (v : Value) (xs : List (Bool × Bool)) : Prop := Kids w v xs

set_option maxRecDepth 100000 in
theorem op_s_Kid {H : Type} {enc : TypeId × Value → H} {W : World} {base : Nat} {v : Value} {d : DataW H} {p : List MemPlace} (hv : Value.okWide Try.prog W .any base 46 v) (h : DataW.Trod enc Try.prog W 0 (fun _ => true) true 46 v d p) (hs : ∀ m ∈ d.weights Try.prog 46, m ≤ reachBytes) : ∃ x, IsKids W v x := by
  obtain ⟨xs, h1, _, _⟩ := open_flat (s := 2) (bytes := 2) encKid (fun _ => True) Try.underlying46 (by kernel_rfl) (by decide) (by kernel_rfl) (by
    intro fuel cs x hx _
    obtain ⟨y0, y1, n, _, hl, g0, g1⟩ := Go.ChangeShapes.trod_struct2 Try.underlying137 hx
    obtain ⟨b0, e0, _⟩ := DataW.trod_bool Try.underlying4 g0
    obtain ⟨b1, e1, _⟩ := DataW.trod_bool Try.underlying4 g1
    have c1 : Try.prog.cellsOf 4 = 1 := by kernel_rfl
    have c2 : Try.prog.cellsOf 137 = 2 := by kernel_rfl
    rw [c2] at hl
    simp only [c1] at e0 e1
    match cs, hl with
    | [x0, x1], _ =>
      simp at e0 e1
      subst e0; subst e1
      exact ⟨(b0, b1), rfl, trivial⟩) encKid_len hv h hs
  exact ⟨xs, h1⟩

set_option maxRecDepth 100000 in
set_option maxHeartbeats 1000000 in
theorem law_SuperPlans (v0 v1 v2 : Value) (x0 : Int) (x1 : List (Bool × Bool)) (x2 : Int) (W : World) (i0 : IsInt .i64 W v0 x0) (i1 : IsKids W v1 x1) (i2 : IsInt .i64 W v2 x2) :
    Calls Try.prog 8 #[v0, v1, v2] W fun e w' => e = .returned (.bool true) ∧ Below W.heap.size W w' := by
  obtain ⟨rfl, _⟩ := i0
  obtain ⟨rfl, _⟩ := i2
  have H0 := hid i1
  clear i1
  go_enter Try.func8, Try.ntmps8
  go_wp2_with fail
  refine (plan_any _ x1 x0 x2 _ H0.out).mono ?_
  rintro e w1 ⟨a, b, rfl, ha, hb, _, b1⟩
  go_wp2_with fail
  refine (refPlan_any _ x1 x0 x2 _ (Lk.below H0.out b1)).mono ?_
  rintro e w2 ⟨c, d, rfl, hc, hd, _, b2⟩
  generalize planF x0 x1 x2 = r at *
  obtain ⟨r1, r2, r3⟩ := r
  have hr1 : decide (r1 = r1) = true := by simp
  have hr2 : decide (r2 = r2) = true := by simp
  go_wp2_with fail
  refine (eq_int _ _ r1 r1 _ (L1.below (OwnI.ints ha) b2) (OwnI.ints hc)).mono ?_
  rintro e w3 ⟨rfl, rfl⟩
  go_wp2_with fail
  refine (eq_int _ _ r2 r2 _ (L1.below (OwnI.ints hb) b2) (OwnI.ints hd)).mono ?_
  rintro e w3 ⟨rfl, rfl⟩
  go_wp2_with fail
  go_ret
  exact ⟨rfl, b1.trans (b2.mono b1.size)⟩
end Go.Proofs.Ytbjhedfgnocflaa
