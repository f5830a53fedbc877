/-
  THE PROGRAM's compare, at 32 and 64 bits. Condition: the number of the comparison is 0 to 9.
-/
import Derived.Test.YtomaiolhaenmhaaWdy
namespace Go.Proofs.Ytomaiolhaenmhaa
open Go.RowKit Go.Lib

theorem ptruth_b (b : Bool) (w : World) : Calls Try.prog 142 #[.bool b] w fun e w' => e = .returned (.int .i64 (tv b)) ∧ w = w' := by
  cases b
  · go_enter Try.func142, Try.ntmps142
    go_wp2_with fail
    go_ret
    exact ⟨rfl, rfl⟩
  · go_enter Try.func142, Try.ntmps142
    go_wp2_with fail
    go_ret
    exact ⟨rfl, rfl⟩
def cmpI (which : Nat) (s t p q : Int) : Bool :=
  match which with
  | 0 => decide (s = t)
  | 1 => s != t
  | 2 => decide (s < t)
  | 3 => decide (p < q)
  | 4 => decide (t < s)
  | 5 => decide (q < p)
  | 6 => decide (s ≤ t)
  | 7 => decide (p ≤ q)
  | 8 => decide (t ≤ s)
  | _ => decide (q ≤ p)
theorem cmp_eq {n : Nat} (which : Nat) (x y : BitVec n) : cmpI which x.toInt y.toInt x.toNat y.toNat = cmpF which x y := by
  unfold cmpI cmpF
  split <;> (rw [Bool.eq_iff_iff]; simp [BitVec.slt, BitVec.ult, BitVec.toInt_inj, bne_iff_ne])

set_option maxRecDepth 100000 in
set_option maxHeartbeats 4000000 in
theorem pcmp_int32 (which : Nat) (hw : which ≤ 9) (s t p q : Int) (w : World) :
    Calls Try.prog 81 #[.int .u8 which, .int .i32 s, .int .i32 t, .int .u32 p, .int .u32 q] w fun e w' => e = .returned (.int .i64 (tv (cmpI which s t p q))) ∧ w = w' := by
  have HT := hid (fun x w' => ptruth_b x w')
  rcases (by omega : which = 0 ∨ which = 1 ∨ which = 2 ∨ which = 3 ∨ which = 4 ∨ which = 5 ∨ which = 6 ∨ which = 7 ∨ which = 8 ∨ which = 9) with rfl | rfl | rfl | rfl | rfl | rfl | rfl | rfl | rfl | rfl
  all_goals
    simp only [cmpI]
    go_enter Try.func81, Try.ntmps81
    go_wp2_with (go_at_call 142; refine (HT.out _ _).mono ?_; rintro r w1 ⟨rfl, rfl⟩)
    all_goals
      go_ret
      exact ⟨ret1 (by first | rfl | (congr 1; simp) | simp_all), rfl⟩

set_option maxRecDepth 100000 in
set_option maxHeartbeats 4000000 in
theorem pcmp_int64 (which : Nat) (hw : which ≤ 9) (s t p q : Int) (w : World) :
    Calls Try.prog 82 #[.int .u8 which, .int .i64 s, .int .i64 t, .int .u64 p, .int .u64 q] w fun e w' => e = .returned (.int .i64 (tv (cmpI which s t p q))) ∧ w = w' := by
  have HT := hid (fun x w' => ptruth_b x w')
  rcases (by omega : which = 0 ∨ which = 1 ∨ which = 2 ∨ which = 3 ∨ which = 4 ∨ which = 5 ∨ which = 6 ∨ which = 7 ∨ which = 8 ∨ which = 9) with rfl | rfl | rfl | rfl | rfl | rfl | rfl | rfl | rfl | rfl
  all_goals
    simp only [cmpI]
    go_enter Try.func82, Try.ntmps82
    go_wp2_with (go_at_call 142; refine (HT.out _ _).mono ?_; rintro r w1 ⟨rfl, rfl⟩)
    all_goals
      go_ret
      exact ⟨ret1 (by first | rfl | (congr 1; simp) | simp_all), rfl⟩
end Go.Proofs.Ytomaiolhaenmhaa
