/-
  MEMORIES, the program's: All, New. Conditions: the object's own invariant.
-/
import Derived.Test.YtdiiefhklcchmaaMeU
import Derived.Laws.OwnMore
namespace Go.Proofs.Ytdiiefhklcchmaa
open Go.RowKit Go.Lib
attribute [local go_sem ↓] Go.wp_at_zero Go.wp_at_succ

set_option maxRecDepth 100000 in
set_option maxHeartbeats 2000000 in
theorem mall_any (w : World) (base B p : Nat) (v : Value) (most : Int) (m : List Int) (hp : p ≤ 8) (hm : ∀ x ∈ m, 0 ≤ x ∧ x ≤ 255) (h : MP w base B v p most m) :
    Calls Try.prog 9 #[.pointer (some ⟨B, 0, none⟩)] w fun e w' => (∃ s : ByteArray, e = .returned (.string s) ∧ nums s = m) ∧ Below w.heap.size w w' := by
  have HB := mbytes_good w base B p v most m 0 (p * 256) hp (by omega) hm h
  have ht : (m.drop 0).take (p * 256) = m := by rw [List.drop_zero, List.take_of_length_le (by rw [h.len]; exact Nat.le_refl _)]
  rw [ht, show ((p * 256 : Nat) : Int) = (p : Int) * 256 by omega] at HB
  have HB := hid HB
  obtain ⟨ao, cap, rfl, -⟩ := own_sl h.own
  have c0 := h.blk.cell (i := 0) rfl
  have hp2 : (p : Int) ≤ 8 := by omega
  clear h ht
  go_enter Try.func9, Try.ntmps9
  go_wp2_with fail
  refine HB.out.mono ?_
  rintro e w1 ⟨⟨s, rfl, hs⟩, hb⟩
  go_wp2_with fail
  go_ret
  exact ⟨⟨s, rfl, hs⟩, hb⟩
theorem info_page : (Try.prog.info? 60).map (fun i => (i.zero, i.size, i.bytes)) = some (some (.agg (Array.replicate 256 (.int .u8 0))), 256, 256) := by kernel_rfl
theorem made_page (n : Nat) : (madeCells (Value.agg (Array.replicate 256 (.int .u8 0))).cells (n * 256)).toList = (List.replicate (n * 256) (0 : Int)).map (Value.int .u8) := by
  apply List.ext_getElem?
  intro i
  have hc : (Value.agg (Array.replicate 256 (.int .u8 0))).cells = Array.replicate 256 (.int .u8 0) := by kernel_rfl
  rw [hc]
  rcases Nat.lt_or_ge i (n * 256) with h | h
  · rw [List.getElem?_eq_getElem (by simpa [madeCells] using h), List.getElem?_eq_getElem (by simpa using h)]
    have h2 : i % 256 < 256 := Nat.mod_lt _ (by decide)
    simp [madeCells, h2]
  · rw [List.getElem?_eq_none (by simpa [madeCells] using h), List.getElem?_eq_none (by simpa using h)]
def mnewE (p most : Int) : Int := if p < 0 ∨ most < p ∨ 8 < most then 1 else 0
set_option maxRecDepth 100000 in
set_option maxHeartbeats 2000000 in
theorem mnew_good (w : World) (p : Nat) (most : Int) (h1 : (p : Int) ≤ most) (h2 : most ≤ 8) :
    Calls Try.prog 5 #[.int .i64 p, .int .i64 most] w fun e w' => (∃ B v, e = .returned (.tuple #[.pointer (some ⟨B, 0, none⟩), .int .i64 0]) ∧ MP w' w.heap.size B v p most (List.replicate (p * 256) 0)) ∧ Below w.heap.size w w' := by
  obtain ⟨i0, hi0, hz0, hz1, hzb⟩ := info_parts info_page
  obtain ⟨w2, hmk, hmo, hmg⟩ := run_makeSlice_full w w.heap.size 42 60 i0 _ 256 Try.underlying42 hi0 hz0 hz1 .i64 .i64 p (by omega) (by rw [hzb]; omega) (by unfold maxLen; omega) (Nat.le_refl _)
  rw [made_page] at hmo
  have HMO := hid hmo
  have hbe : Below w.heap.size w w2 := (Below.refl _ _).grown hmg (Nat.le_refl _) (fun k hk => by cases hk)
  have HB2 := hid hbe
  clear hi0 hz0 hz1 hzb hmo hmg hbe
  go_enter Try.func5, Try.ntmps5
  go_wp2_with fail
  go_ret2
  have hs := HB2.out.size
  refine ⟨⟨_, _, rfl, ⟨Blk.new w2 _ _ _ rfl, HMO.out.alloc _, fun e => ?_, hs, by simp; omega⟩⟩, HB2.out.alloc hs _⟩
  have := (World.ownsRow.lt HMO.out _ e).2
  omega
set_option maxRecDepth 100000 in
theorem mnew_bad (w : World) (p most : Int) (h : p < 0 ∨ most < p ∨ 8 < most) :
    Calls Try.prog 5 #[.int .i64 p, .int .i64 most] w fun e w' => e = .returned (.tuple #[.pointer none, .int .i64 1]) ∧ w = w' := by
  rcases (show p < 0 ∨ (¬ p < 0 ∧ most < p) ∨ (¬ p < 0 ∧ ¬ most < p ∧ 8 < most) from by omega) with g1 | ⟨g1, g2⟩ | ⟨g1, g2, g3⟩
  all_goals
    clear h
    go_enter Try.func5, Try.ntmps5
    go_wp2_with fail
    go_ret2
    exact ⟨rfl, rfl⟩
end Go.Proofs.Ytdiiefhklcchmaa
