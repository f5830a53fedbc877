/-
  MEMORIES, the reference's: Bytes, Put. Conditions: the object's own invariant.
-/
import Derived.Test.YtdiiefhklcchmaaMrC
import Derived.Test.YtdiiefhklcchmaaMeP
namespace Go.Proofs.Ytdiiefhklcchmaa
open Go.RowKit Go.Lib
attribute [local go_sem ↓] Go.wp_at_zero Go.wp_at_succ

theorem nums_backR (xs : List Int) (h : ∀ x ∈ xs, 0 ≤ x ∧ x ≤ 255) : nums (S (xs.map fun n => UInt8.ofNat n.toNat)) = xs := by
  unfold nums
  rw [S_data, List.map_map]
  conv => rhs; rw [← List.map_id xs]
  refine List.map_congr_left (fun x hx => ?_)
  have := h x hx
  show (((UInt8.ofNat x.toNat).toNat : Nat) : Int) = x
  rw [UInt8.toNat_ofNat']
  omega
/-- m.B[a : a+n] -/
theorem run_cut_m (w : World) (base g cap : Nat) (m : List Int) (a n : Nat) (h : OwnM w base g cap m) (hin : a + n ≤ m.length) :
    ∃ v, (Instr.slice 34 (.slice (some ⟨g, 0, none⟩) m.length cap) (some (.int .i64 (a : Int))) (some (.int .i64 ((a : Int) + n))) none).run Try.prog w = .ok v w ∧ Ints w .u8 v ((m.drop a).take n) := by
  have hle := h.le
  have hcm : cap ≤ 9223372036854775807 := by have := h.cap; unfold maxLen at this; omega
  have hel : Try.prog.elem 34 = 5 := by kernel_rfl
  have hs : (sizeOf (Try.prog.elem 34)).run Try.prog w = .ok 1 w := by kernel_rfl
  rw [run_slice_lh (P := Try.prog) w 34 (some ⟨g, 0, none⟩) m.length cap (by rw [hel]; exact Try.underlying34) .i64 .i64 (a : Int) ((a : Int) + n) (by omega) (by omega) (by omega), hs]
  simp only [Result.andThen_ok, Int.toNat_natCast]
  refine ⟨_, rfl, ?_⟩
  rw [show ((a : Int) + n).toNat = a + n by omega]
  have hl : ((m.drop a).take n).length = n := by rw [List.length_take, List.length_drop]; omega
  have hadd : (⟨g, 0, none⟩ : Addr).add (a * 1) = ⟨g, a, none⟩ := by unfold Addr.add; split <;> simp_all
  unfold sliced Ints L1 Sl
  rw [hl]
  by_cases he : cap = a
  · have hn0 : n = 0 := by omega
    subst hn0
    refine ⟨some ⟨g, 0, none⟩, cap - a, ?_, by omega, by omega, (fun e => by cases e), .inl (by simp)⟩
    rw [if_pos he]
    congr 1 <;> omega
  · refine ⟨some ⟨g, a, none⟩, cap - a, ?_, by omega, by omega, (fun e => by cases e), .inr ⟨g, a, rfl, ?_⟩⟩
    · rw [if_neg he, Option.map_some, hadd]
      congr 1
      omega
    · intro j hj
      rw [List.length_map, hl] at hj
      rw [h.at (a + j) (by omega)]
      simp
set_option maxRecDepth 100000 in
set_option maxHeartbeats 4000000 in
theorem rbytes_good (w : World) (base B g cap : Nat) (most : Int) (m : List Int) (a n : Nat) (hlen : m.length ≤ 2048) (hin : a + n ≤ m.length) (hm : ∀ x ∈ m, 0 ≤ x ∧ x ≤ 255) (h : MR w base B g cap most m) :
    Calls Try.prog 20 #[.pointer (some ⟨B, 0, none⟩), .int .i64 a, .int .i64 n] w fun e w' => (∃ s : ByteArray, e = .returned (.tuple #[.string s, .int .i64 0]) ∧ nums s = (m.drop a).take n) ∧ w = w' := by
  have c0 := h.blk.cell (i := 0) rfl
  obtain ⟨v, hv, hI⟩ := run_cut_m w base g cap m a n h.own hin
  have hcv := conv_bytes hI
  have hle := h.own.le
  have hcm : cap ≤ 9223372036854775807 := by have := h.own.cap; unfold maxLen at this; omega
  have HN := hid (nums_backR ((m.drop a).take n) (fun x hx => hm x (List.mem_of_mem_drop (List.mem_of_mem_take hx))))
  generalize S (((m.drop a).take n).map fun n => UInt8.ofNat n.toNat) = s at *
  generalize m.length = L at *
  have ha : (a : Int) + (n : Int) ≤ (L : Int) := by omega
  have hL8 : (L : Int) ≤ 2048 := by omega
  have d1 : decide (L < a) = false := decide_eq_false (by omega)
  have hal : a ≤ L := by omega
  have d2 : decide ((L : Int) - (a : Int) < (n : Int)) = false := decide_eq_false (by omega)
  have ha8 : (a : Int) ≤ 2048 := by omega
  have hn8 : (n : Int) ≤ 2048 := by omega
  clear h hI hin hlen ha hm
  go_enter Try.func20, Try.ntmps20
  go_wp2_with fail
  go_ret2
  exact ⟨⟨s, rfl, HN.out⟩, rfl⟩
set_option maxRecDepth 100000 in
set_option maxHeartbeats 2000000 in
theorem rbytes_bad (w : World) (base B g cap : Nat) (most : Int) (m : List Int) (a n : Int) (hlen : m.length ≤ 2048) (hbad : a < 0 ∨ n < 0 ∨ (m.length : Int) < a ∨ (m.length : Int) - a < n) (h : MR w base B g cap most m) :
    Calls Try.prog 20 #[.pointer (some ⟨B, 0, none⟩), .int .i64 a, .int .i64 n] w fun e w' => e = .returned (.tuple #[.string ⟨#[]⟩, .int .i64 23]) ∧ w = w' := by
  have c0 := h.blk.cell (i := 0) rfl
  have hle := h.own.le
  have hcm : cap ≤ 9223372036854775807 := by have := h.own.cap; unfold maxLen at this; omega
  generalize m.length = L at *
  have hL8 : (L : Int) ≤ 2048 := by omega
  clear h hlen
  rcases (show a < 0 ∨ (¬ a < 0 ∧ n < 0) ∨ (¬ a < 0 ∧ ¬ n < 0 ∧ (L : Int) < a) ∨ (¬ a < 0 ∧ ¬ n < 0 ∧ ¬ (L : Int) < a ∧ (L : Int) - a < n) from by omega) with g1 | ⟨g1, g2⟩ | ⟨g1, g2, g3⟩ | ⟨g1, g2, g3, g4⟩
  all_goals
    clear hbad
    go_enter Try.func20, Try.ntmps20
    go_wp2_with fail
    go_ret2
    exact ⟨rfl, rfl⟩
end Go.Proofs.Ytdiiefhklcchmaa
