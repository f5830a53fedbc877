/-
  Fit, BOTH SIDES: the value of a kind with the same lowest bits. No condition.
-/
import Derived.Test.YtomaiolhaenmhaaDoorWdw
import Derived.IntWalk
namespace Go.Proofs.YtomaiolhaenmhaaDoor
open Go.RowKit Go.Lib

def w32 (a : Int) : Int := (a + 2147483648) % 4294967296 - 2147483648
def fitM (k a : Int) : Int := if k = 127 then w32 a else a
theorem w32_bd (a : Int) : -2147483648 ≤ w32 a ∧ w32 a ≤ 2147483647 := by unfold w32; omega
theorem w32_mod (a : Int) : w32 a % 4294967296 = a % 4294967296 := by unfold w32; omega
theorem fit_toInt (a : Int) : (BitVec.ofInt 32 a).toInt = w32 a := by
  rw [BitVec.toInt_ofInt]
  unfold w32
  rw [Int.bmod_def]
  simp only [Nat.reducePow]
  split <;> omega
theorem wrap_w32 (a : Int) : wrap64 (wrap32 a) = w32 a := by unfold wrap64 wrap32 w32; omega
set_option maxRecDepth 100000 in
set_option maxHeartbeats 1000000 in
theorem fit_any (k a : Int) (w : World) :
    Calls Tryd.prog 11 #[.int .u8 k, .int .i64 a] w fun e w' => e = .returned (.int .i64 (fitM k a)) ∧ w = w' := by
  by_cases h : k = 127
  · subst h
    rw [show fitM 127 a = w32 a from if_pos rfl]
    have hw := hid (wrap_w32 a)
    go_enter Tryd.func11, Tryd.ntmps11
    go_wp2_with fail
    go_ret
    exact ⟨ret1 (by first | exact hw.out | (unfold wrap32 w32; omega)), rfl⟩
  · rw [show fitM k a = a from if_neg h]
    have h2 : (k == 127) = false := by simpa using h
    go_enter Tryd.func11, Tryd.ntmps11
    go_wp2_with fail
    go_ret
    exact ⟨rfl, rfl⟩
set_option maxRecDepth 100000 in
set_option maxHeartbeats 1000000 in
theorem rfit_any (k a : Int) (w : World) :
    Calls Tryd.prog 12 #[.int .u8 k, .int .i64 a] w fun e w' => e = .returned (.int .i64 (fitM k a)) ∧ Below w.heap.size w w' := by
  by_cases h : k = 127
  · subst h
    rw [show fitM 127 a = w32 a from if_pos rfl]
    have H1 := hid (wordOf_any a 32 (by decide) w)
    have H2 := hid (fun w' v h => value_any (BitVec.ofInt 32 a) (by decide) (.inl (by decide)) w' v h)
    rw [fit_toInt] at H2
    rw [show ((32 : Nat) : Int) = 32 from rfl] at H1
    go_enter Tryd.func12, Tryd.ntmps12
    go_wp2_with fail
    refine H1.out.mono ?_
    rintro e w1 ⟨v, rfl, ho, hb⟩
    have HO := hid ho
    have HB := hid hb
    clear ho hb
    go_wp2_with fail
    refine (H2.out _ _ (O1.l1 HO.out)).mono ?_
    rintro e w2 ⟨rfl, rfl⟩
    go_wp2_with fail
    go_ret
    exact ⟨rfl, HB.out⟩
  · rw [show fitM k a = a from if_neg h]
    have h2 : (k == 127) = false := by simpa using h
    go_enter Tryd.func12, Tryd.ntmps12
    go_wp2_with fail
    go_ret
    exact ⟨rfl, Below.refl _ _⟩
end Go.Proofs.YtomaiolhaenmhaaDoor
