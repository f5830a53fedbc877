/-
  THE WALK of the law Names: it returns true and writes nothing that was there. No condition.
-/
import Derived.Test.YtbjhedfgnocflaaEqs
namespace Go.Proofs.Ytbjhedfgnocflaa
open Go.RowKit

theorem names_a (k : Nat) (hk : k < 17) : (#[Value.int .i64 0, Value.int .i64 1, Value.int .i64 2, Value.int .i64 3, Value.int .i64 4, Value.int .i64 5, Value.int .i64 6, Value.int .i64 7, Value.int .i64 8, Value.int .i64 9, Value.int .i64 10, Value.int .i64 11, Value.int .i64 12, Value.int .i64 13, Value.int .i64 14, Value.int .i64 15, Value.int .i64 16] : Array Value)[k]? = some (.int .i64 (k : Int)) := by
  have e : (#[Value.int .i64 0, Value.int .i64 1, Value.int .i64 2, Value.int .i64 3, Value.int .i64 4, Value.int .i64 5, Value.int .i64 6, Value.int .i64 7, Value.int .i64 8, Value.int .i64 9, Value.int .i64 10, Value.int .i64 11, Value.int .i64 12, Value.int .i64 13, Value.int .i64 14, Value.int .i64 15, Value.int .i64 16] : Array Value) = ((List.range 17).map fun i : Nat => Value.int .i64 (i : Int)).toArray := by rfl
  rw [e]; simp [hk]
theorem names_b (k : Nat) (hk : k < 9) : (#[Value.int .i64 20, Value.int .i64 21, Value.int .i64 22, Value.int .i64 23, Value.int .i64 24, Value.int .i64 25, Value.int .i64 26, Value.int .i64 27, Value.int .i64 28] : Array Value)[k]? = some (.int .i64 (20 + (k : Int))) := by
  have e : (#[Value.int .i64 20, Value.int .i64 21, Value.int .i64 22, Value.int .i64 23, Value.int .i64 24, Value.int .i64 25, Value.int .i64 26, Value.int .i64 27, Value.int .i64 28] : Array Value) = ((List.range 9).map fun i : Nat => Value.int .i64 (20 + (i : Int))).toArray := by rfl
  rw [e]; simp [hk]

set_option maxRecDepth 100000 in
set_option maxHeartbeats 1000000 in
theorem law_Names (W : World) :
    Calls Try.prog 3 #[] W fun e w' => e = .returned (.bool true) ∧ Below W.heap.size W w' := by
  go_enter Try.func3, Try.ntmps3
  go_wp2_with fail
  go_loopw [12] (fun i wr => ∃ k : Nat, k ≤ 17 ∧ i = .int .i64 k ∧ Below W.heap.size W wr ∧ ∀ j, j < 17 → wr.cell? ⟨W.heap.size, j, none⟩ = some (.int .i64 (j : Int))) (fun i _ => 17 - (intOf i).toNat)
  case atStart => exact ⟨0, Nat.zero_le _, rfl, (Below.refl _ _).alloc (Nat.le_refl _) _, fun j hj => by rw [World.cell?_alloc_new]; exact names_a j hj⟩
  case round =>
    obtain ⟨k, hk, rfl, hb, hc⟩ := hrel
    by_cases hlt : k < 17
    · go_wp2_with fail
      go_roundw
      case rel => exact ⟨k + 1, by omega, by go_num, hb, hc⟩
      case measure => simp [intOf]; omega
    · obtain rfl : k = 17 := by omega
      clear hlt hk hc
      go_wp2_with fail
      obtain ⟨wo, rfl⟩ : ∃ wo : World, wo = wr := ⟨_, rfl⟩
      go_loopw [24] (fun i w2 => ∃ k : Nat, k ≤ 9 ∧ i = .int .i64 k ∧ Below W.heap.size W w2 ∧ ∀ j, j < 9 → w2.cell? ⟨wo.heap.size, j, none⟩ = some (.int .i64 (20 + (j : Int)))) (fun i _ => 9 - (intOf i).toNat)
      case atStart => exact ⟨0, Nat.zero_le _, rfl, hb.alloc hb.size _, fun j hj => by rw [World.cell?_alloc_new]; exact names_b j hj⟩
      case round =>
        obtain ⟨k, hk, rfl, hb2, hc⟩ := hrel
        by_cases hlt : k < 9
        · go_wp2_with fail
          go_roundw
          case rel => exact ⟨k + 1, by omega, by go_num, hb2, hc⟩
          case measure => simp [intOf]; omega
        · obtain rfl : k = 9 := by omega
          clear hlt hk hc
          obtain ⟨wp, rfl⟩ : ∃ wo : World, wo = wr := ⟨_, rfl⟩
          go_wp2_with fail
          refine (eq_int _ _ [4096, 16, 16, 4, 16, 16, 16, 200, 12, 16, 16, 8, 256, 8, 8, 4, 4, 64, 40, 100000] [4096, 16, 16, 4, 16, 16, 16, 200, 12, 16, 16, 8, 256, 8, 8, 4, 4, 64, 40, 100000] _ ?h1 ?h2).mono ?h3
          case h1 => exact (Ints.made wp 3 [4096, 16, 16, 4, 16, 16, 16, 200, 12, 16, 16, 8, 256, 8, 8, 4, 4, 64, 40, 100000] _ rfl (by decide)).below ((Below.refl _ _).alloc (Nat.le_refl _) _)
          case h2 => refine Ints.made _ 3 [4096, 16, 16, 4, 16, 16, 16, 200, 12, 16, 16, 8, 256, 8, 8, 4, 4, 64, 40, 100000] _ ?_ (by decide); simp
          rintro e w' ⟨rfl, rfl⟩
          go_wp2_with fail
          refine (eq_int _ _ [6000, 32, 16, 32, 1099511627776, 16, 64, 8, 64, 64, 4, 3, 64, 3, 40, 2000, 200, 4, 8, 40, 60, 200] [6000, 32, 16, 32, 1099511627776, 16, 64, 8, 64, 64, 4, 3, 64, 3, 40, 2000, 200, 4, 8, 40, 60, 200] _ ?k1 ?k2).mono ?k3
          case k1 => refine Sl.below (Ints.made _ 3 [6000, 32, 16, 32, 1099511627776, 16, 64, 8, 64, 64, 4, 3, 64, 3, 40, 2000, 200, 4, 8, 40, 60, 200] _ ?_ (by decide)) ((Below.refl _ _).alloc (Nat.le_refl _) _); simp
          case k2 => refine Ints.made _ 3 [6000, 32, 16, 32, 1099511627776, 16, 64, 8, 64, 64, 4, 3, 64, 3, 40, 2000, 200, 4, 8, 40, 60, 200] _ ?_ (by decide); simp
          rintro e w' ⟨rfl, rfl⟩
          go_wp2_with fail
          go_ret
          exact ⟨rfl, (((hb2.alloc hb2.size _).alloc (by simp; have := hb2.size; omega) _).alloc (by simp; have := hb2.size; omega) _).alloc (by simp; have := hb2.size; omega) _⟩
end Go.Proofs.Ytbjhedfgnocflaa
