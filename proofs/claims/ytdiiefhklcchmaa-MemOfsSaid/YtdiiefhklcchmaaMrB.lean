/-
  MEMORIES, the reference's: MemNew, MemOf, Grow. Conditions: the object's own invariant; lengths in the form's reach.
-/
import Derived.Test.YtdiiefhklcchmaaMrA
import Derived.Test.YtdiiefhklcchmaaStrs
import Derived.Laws.OwnMore
namespace Go.Proofs.Ytdiiefhklcchmaa
open Go.RowKit Go.Lib
attribute [local go_sem ↓] Go.wp_at_zero Go.wp_at_succ

/-- the reference's memory -/
structure MR (w : World) (base B g cap : Nat) (most : Int) (m : List Int) : Prop where
  blk : Blk w B 36 [.slice (some ⟨g, 0, none⟩) m.length cap, .int .i64 most]
  own : OwnM w base g cap m
  ne : g ≠ B
  le : base ≤ B
def footR (B g : Nat) (k : Nat) : Prop := k = B ∨ k = g
theorem MR.part {w : World} {base B g cap : Nat} {most : Int} {m : List Int} (h : MR w base B g cap most m) : Part base (footR B g) (fun w => MR w base B g cap most m) w := by
  refine ⟨h, Nat.le_trans h.le (Nat.le_of_lt h.blk.lt), ?_, ?_⟩
  · rintro k (e | e)
    · subst e; exact ⟨h.le, h.blk.lt⟩
    · subst e; exact ⟨h.own.base, h.own.lt⟩
  · intro w' hs hb
    exact ⟨h.blk.same (hb B (.inl rfl)), h.own.same (hb g (.inr rfl)), h.ne, h.le⟩
theorem MR.below {w w' : World} {base B g cap : Nat} {most : Int} {m : List Int} (h : MR w base B g cap most m) (hb : Below w.heap.size w w') : MR w' base B g cap most m := (h.part.below hb).holds
theorem madeCells_u8 (n : Nat) : (madeCells (Value.int .u8 0).cells (n * 1)).toList = (List.replicate n (0 : Int)).map (Value.int .u8) := by
  apply List.ext_getElem?
  intro i
  have hc : (Value.int .u8 0).cells = #[.int .u8 0] := rfl
  rw [hc, Nat.mul_one]
  rcases Nat.lt_or_ge i n with h | h
  · rw [List.getElem?_eq_getElem (by simpa [madeCells] using h), List.getElem?_eq_getElem (by simpa using h)]
    simp [madeCells, Nat.mod_one]
  · rw [List.getElem?_eq_none (by simpa [madeCells] using h), List.getElem?_eq_none (by simpa using h)]
set_option maxRecDepth 100000 in
set_option maxHeartbeats 2000000 in
theorem rnew_good (w : World) (p : Nat) (most : Int) (h1 : (p : Int) ≤ most) (h2 : most ≤ 8) :
    Calls Try.prog 6 #[.int .i64 p, .int .i64 most] w fun e w' => (∃ B g cap, e = .returned (.tuple #[.pointer (some ⟨B, 0, none⟩), .int .i64 0]) ∧ MR w' w.heap.size B g cap most (List.replicate (p * 256) 0)) ∧ Below w.heap.size w w' := by
  obtain ⟨i0, hi0, hz0, hz1, hzb⟩ := info_parts (show (Try.prog.info? 5).map (fun i => (i.zero, i.size, i.bytes)) = some (some (.int .u8 0), 1, 1) from by kernel_rfl)
  obtain ⟨w2, hmk, hmo, hmg⟩ := run_makeSlice_full w w.heap.size 34 5 i0 (.int .u8 0) 1 Try.underlying34 hi0 hz0 hz1 .i64 .i64 (p * 256) (by omega) (by rw [hzb]; omega) (by unfold maxLen; omega) (Nat.le_refl _)
  rw [madeCells_u8] at hmo
  rw [show ((p * 256 : Nat) : Int) = 256 * (p : Int) by omega] at hmk
  have HMO := hid (OwnM.of_own hmo)
  have HB2 := hid (show Below w.heap.size w w2 from (Below.refl _ _).grown hmg (Nat.le_refl _) (fun k hk => by cases hk))
  clear hi0 hz0 hz1 hzb hmo hmg
  have hp8 : (p : Int) ≤ 8 := by omega
  go_enter Try.func6, Try.ntmps6
  go_wp2_with fail
  go_ret2
  have hs := HB2.out.size
  have hlt := HMO.out.1.lt
  refine ⟨⟨_, _, _, rfl, ⟨?_, HMO.out.1.same (Below.heap_alloc _ _ _ hlt), by omega, hs⟩⟩, HB2.out.alloc hs _⟩
  rw [List.length_replicate]
  exact Blk.new w2 _ _ _ rfl
set_option maxRecDepth 100000 in
theorem rnew_bad (w : World) (p most : Int) (h : p < 0 ∨ most < p ∨ 8 < most) :
    Calls Try.prog 6 #[.int .i64 p, .int .i64 most] w fun e w' => e = .returned (.tuple #[.pointer none, .int .i64 1]) ∧ w = w' := by
  rcases (show p < 0 ∨ (¬ p < 0 ∧ most < p) ∨ (¬ p < 0 ∧ ¬ most < p ∧ 8 < most) from by omega) with g1 | ⟨g1, g2⟩ | ⟨g1, g2, g3⟩
  all_goals
    clear h
    go_enter Try.func6, Try.ntmps6
    go_wp2_with fail
    go_ret2
    exact ⟨rfl, rfl⟩
theorem own_bytes (w : World) (s : ByteArray) (h : s.size ≤ 4096) : OwnM (bytesWorld w 5 s) w.heap.size w.heap.size (grownCap w s.size 0 5) (nums s) ∧ (nums s).length = s.size ∧ Below w.heap.size w (bytesWorld w 5 s) := by
  have hln : (nums s).length = s.size := by unfold nums; rw [List.length_map]; rfl
  have hge := grownCap_ge w s.size 0 5
  have hle := grownCap_le_maxLen w s.size 0 5 (by unfold maxLen; omega)
  have hsz : (bytesCells w 5 s).size = grownCap w s.size 0 5 := by
    simp only [bytesCells, Array.size_append, Array.size_map, Array.size_replicate]
    have : s.data.size = s.size := rfl
    omega
  refine ⟨⟨Nat.le_refl _, ⟨_, _, bytesWorld_at_new w _ s, .inr (by show _ ≤ (bytesCells w 5 s).size; omega), hsz, ?_⟩, by omega, hle⟩, hln, ⟨rfl, rfl, rfl, by rw [bytesWorld_size]; omega, fun k hk => bytesWorld_at_old w _ s k hk⟩⟩
  have : (bytesCells w 5 s).toList = (nums s).map (Value.int .u8) ++ List.replicate (grownCap w s.size 0 5 - s.size) (.int .u8 0) := by
    simp [bytesCells, nums]
  rw [this]
  exact List.take_left' (by simp)
set_option maxRecDepth 100000 in
set_option maxHeartbeats 4000000 in
theorem rof_good (w : World) (p : Nat) (most : Int) (s : ByteArray) (hl : s.size = p * 256) (h1 : (p : Int) ≤ most) (h2 : most ≤ 8) :
    Calls Try.prog 11 #[.string s, .int .i64 most] w fun e w' => (∃ B g cap, e = .returned (.tuple #[.pointer (some ⟨B, 0, none⟩), .int .i64 0]) ∧ MR w' w.heap.size B g cap most (nums s)) ∧ Below w.heap.size w w' := by
  have hm0 : 0 ≤ most := by omega
  have hcv := Go.Lib.run_convert_string_bytes (P := Try.prog) w 9 34 5 s Try.underlying9 Try.underlying34 Try.underlying5
  obtain ⟨o1, o2, o3⟩ := own_bytes w s (by omega)
  generalize bytesWorld w 5 s = w2 at *
  generalize grownCap w s.size 0 5 = cap at *
  have hmd : ((s.size : Nat) : Int).tmod 256 = 0 := by rw [Int.tmod_eq_emod_of_nonneg (by omega)]; omega
  have hsz : (s.size : Int) ≤ 256 * most := by omega
  have hs2 : (s.size : Int) ≤ 2048 := by omega
  have HL := hid hl
  have O1 := hid o1
  have O2 := hid o2
  have O3 := hid o3
  clear hl o1 o2 o3
  go_enter Try.func11, Try.ntmps11
  go_wp2_with fail
  go_ret2
  have hs := O3.out.size
  have hlt := O1.out.lt
  refine ⟨⟨_, _, _, rfl, ⟨?_, O1.out.same (Below.heap_alloc _ _ _ hlt), by omega, hs⟩⟩, O3.out.alloc hs _⟩
  rw [O2.out]
  exact Blk.new w2 _ _ _ rfl
set_option maxRecDepth 100000 in
set_option maxHeartbeats 4000000 in
theorem rof_bad (w : World) (most : Int) (s : ByteArray) (hs : (s.size : Int) ≤ 9223372036854775807) (h : most < 0 ∨ 8 < most ∨ (s.size : Int) % 256 ≠ 0 ∨ most < (s.size : Int) / 256) :
    Calls Try.prog 11 #[.string s, .int .i64 most] w fun e w' => e = .returned (.tuple #[.pointer none, .int .i64 1]) ∧ w = w' := by
  obtain ⟨n, hn⟩ : ∃ n, s.size = n := ⟨_, rfl⟩
  rw [hn] at h hs
  have hmd : (n : Int).tmod 256 = (n : Int) % 256 := Int.tmod_eq_emod_of_nonneg (by omega)
  rcases (show most < 0 ∨ (¬ most < 0 ∧ 8 < most) ∨ (¬ most < 0 ∧ ¬ 8 < most ∧ 0 < (n : Int) % 256) ∨ (¬ most < 0 ∧ ¬ 8 < most ∧ (n : Int) % 256 = 0 ∧ 256 * most < (n : Int)) from by omega) with g1 | ⟨g1, g2⟩ | ⟨g1, g2, g3⟩ | ⟨g1, g2, g3, g4⟩
  all_goals
    clear h hs
    go_enter Try.func11, Try.ntmps11
    go_wp2_with fail
    go_ret2
    exact ⟨rfl, rfl⟩
end Go.Proofs.Ytdiiefhklcchmaa
