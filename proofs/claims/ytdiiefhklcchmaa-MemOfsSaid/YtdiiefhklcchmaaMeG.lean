/-
  MEMORIES, the program's: Of. Conditions: the object's own invariant.
-/
import Derived.Test.YtdiiefhklcchmaaMeQ
namespace Go.Proofs.Ytdiiefhklcchmaa
open Go.RowKit Go.Lib
attribute [local go_sem ↓] Go.wp_at_zero Go.wp_at_succ

set_option maxRecDepth 100000 in
set_option maxHeartbeats 4000000 in
theorem mof_good (w : World) (p : Nat) (most : Int) (l : List UInt8) (hl : l.length = p * 256) (h1 : (p : Int) ≤ most) (h2 : most ≤ 8) :
    Calls Try.prog 10 #[.string (S l), .int .i64 most] w fun e w' => (∃ B v, e = .returned (.tuple #[.pointer (some ⟨B, 0, none⟩), .int .i64 0]) ∧ MP w' w.heap.size B v p most (putL (List.replicate (p * 256) 0) 0 l)) ∧ Below w.heap.size w w' := by
  obtain ⟨i0, hi0, hz0, hz1, hzb⟩ := info_parts info_page
  have hsz : (S l).size = l.length := S_size l
  have hm0 : 0 ≤ most := by omega
  have hdv : ((l.length : Nat) : Int).tdiv 256 = (p : Int) := by rw [Int.tdiv_eq_ediv_of_nonneg (by omega)]; omega
  have hmd : ((l.length : Nat) : Int).tmod 256 = 0 := by rw [Int.tmod_eq_emod_of_nonneg (by omega)]; omega
  obtain ⟨w2, hmk, hmo, hmg⟩ := run_makeSlice_full w w.heap.size 42 60 i0 _ 256 Try.underlying42 hi0 hz0 hz1 .i64 .i64 p (by omega) (by rw [hzb]; omega) (by unfold maxLen; omega) (Nat.le_refl _)
  rw [made_page] at hmo
  have HMO := hid hmo
  have hbe : Below w.heap.size w w2 := (Below.refl _ _).grown hmg (Nat.le_refl _) (fun k hk => by cases hk)
  have HB2 := hid hbe
  have HL := hid hl
  clear hi0 hz0 hz1 hzb hmo hmg hbe hl
  go_enter Try.func10, Try.ntmps10
  go_wp2_with fail
  have HP := mput_good (w2.alloc (.cells #[.slice (some ⟨w.heap.size, 0, none⟩) p p, .int .i64 most] 44)) w.heap.size w2.heap.size p (.slice (some ⟨w.heap.size, 0, none⟩) p p) most (List.replicate (p * 256) 0) 0 l (by omega) (by rw [HL.out]; omega) ⟨Blk.new w2 _ _ _ rfl, HMO.out.alloc _, fun e => by
    have := (World.ownsRow.lt HMO.out _ e).2
    omega, HB2.out.size, by have := HB2.out.size; simp; omega⟩
  refine HP.mono ?_
  rintro e w3 ⟨rfl, hm, ht⟩
  have HM := hid hm
  have HT := hid ht
  clear HP hm ht
  go_wp2_with fail
  go_ret2
  have hs := HB2.out.size
  refine ⟨⟨_, _, rfl, HM.out⟩, ?_⟩
  refine (HB2.out.alloc hs _).trans (HT.out.below (by simp; omega) ?_)
  rintro k (e | e)
  · subst e; exact hs
  · simp only [Value.ownBlock, Option.some.injEq] at e
    omega
set_option maxRecDepth 100000 in
set_option maxHeartbeats 4000000 in
theorem mof_bad (w : World) (most : Int) (s : ByteArray) (hs : (s.size : Int) ≤ 9223372036854775807) (h : most < 0 ∨ 8 < most ∨ (s.size : Int) % 256 ≠ 0 ∨ most < (s.size : Int) / 256) :
    Calls Try.prog 10 #[.string s, .int .i64 most] w fun e w' => e = .returned (.tuple #[.pointer none, .int .i64 1]) ∧ w = w' := by
  obtain ⟨n, hn⟩ : ∃ n, s.size = n := ⟨_, rfl⟩
  rw [hn] at h hs
  have hwr : wrap64 ((n : Int) / 256) = (n : Int) / 256 := by unfold wrap64; omega
  have hdv : (n : Int).tdiv 256 = (n : Int) / 256 := Int.tdiv_eq_ediv_of_nonneg (by omega)
  have hmd : (n : Int).tmod 256 = (n : Int) % 256 := Int.tmod_eq_emod_of_nonneg (by omega)
  rcases (show most < 0 ∨ (¬ most < 0 ∧ 8 < most) ∨ (¬ most < 0 ∧ ¬ 8 < most ∧ ¬ (n : Int) % 256 = 0) ∨ (¬ most < 0 ∧ ¬ 8 < most ∧ (n : Int) % 256 = 0 ∧ most < (n : Int) / 256) from by omega) with g1 | ⟨g1, g2⟩ | ⟨g1, g2, g3⟩ | ⟨g1, g2, g3, g4⟩
  all_goals
    clear h hs
    go_enter Try.func10, Try.ntmps10
    go_wp2_with fail
    go_ret2
    exact ⟨rfl, rfl⟩
end Go.Proofs.Ytdiiefhklcchmaa
