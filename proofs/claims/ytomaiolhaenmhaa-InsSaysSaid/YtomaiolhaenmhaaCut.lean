/-
  strings.Cut AT A SEPARATOR OF ONE LETTER. Condition: the letter is there, behind a piece that lacks it; sizes in the form's reach.
-/
import Derived.Test.YtomaiolhaenmhaaRowK
import Derived.Lib.Bytealg
import Derived.Lib.IndexLaws
import Derived.Laws.Externs
import Derived.Deep.RegionHeld3
import Derived.IntWalk
namespace Go.Proofs.Ytomaiolhaenmhaa
open Go.RowKit Go.Lib

set_option maxRecDepth 100000 in
set_option maxHeartbeats 1000000 in
theorem indexByte_any (s : ByteArray) (c : Int) (w : World) :
    Calls Try.prog 187 #[.string s, .int .u8 c] w fun e w' => e = .returned (.int .i64 (Lib.indexByte s.data.toList c.toNat.toUInt8)) ∧ w = w' := by
  go_enter Try.func187, Try.ntmps187
  go_wp2
  rw [run_callFunc_extern Try.func193 (by kernel_rfl) (by kernel_rfl) (by kernel_rfl) (e := Extern.BytealgIndexByte.indexByte) (by kernel_rfl), Lib.run_indexByteString]
  simp only [Result.andThen]
  rw [Oper.upon_value]
  go_wp2
  go_ret
  exact ⟨rfl, rfl⟩
theorem indexByte_at {a b : List UInt8} {c : UInt8} (h : ∀ x ∈ a, x ≠ c) : Lib.indexByte (a ++ c :: b) c = a.length := by
  induction a with
  | nil => simp [Lib.indexByte]
  | cons x r ih =>
    have hx : (x == c) = false := by simpa using h x (by simp)
    have := ih (fun y hy => h y (by simp [hy]))
    rw [List.cons_append, Lib.indexByte, hx, this]
    have hn : ((r.length : Int) == -1) = false := by rw [beq_eq_false_iff_ne]; omega
    simp only [Bool.false_eq_true, if_false, hn]
    rw [List.length_cons]
    omega
set_option maxRecDepth 100000 in
set_option maxHeartbeats 1000000 in
theorem index1_any (s : ByteArray) (c : UInt8) (w : World) (hs : s.size ≤ 140737488351232) (h2 : 2 ≤ s.size) :
    Calls Try.prog 182 #[.string s, .string ⟨#[c]⟩] w fun e w' => e = .returned (.int .i64 (Lib.indexByte s.data.toList c)) ∧ w = w' := by
  have H := hid (indexByte_any s (c.toNat : Int) w)
  rw [show ((c.toNat : Int)).toNat.toUInt8 = c from by simp] at H
  have hne : ([c] == s.toList) = false := by
    rw [beq_eq_false_iff_ne]
    intro e
    have h3 := congrArg List.length e
    rw [Go.ByteArray.toList_eq] at h3
    have h4 : s.data.toList.length = s.size := rfl
    simp at h3
    omega
  go_enter Try.func182, Try.ntmps182
  go_wp2_with fail
  refine H.out.mono ?_
  rintro e w1 ⟨rfl, rfl⟩
  go_wp2_with fail
  go_ret
  exact ⟨rfl, rfl⟩

theorem cutS (a b : List UInt8) (c : UInt8) : (S (a ++ c :: b)).extract 0 a.length = S a ∧ (S (a ++ c :: b)).extract (a.length + 1) (S (a ++ c :: b)).size = S b := by
  constructor
  · apply ByteArray.ext
    simp [S]
  · apply ByteArray.ext
    simp [S, ByteArray.size]
    exact List.take_of_length_le (by omega)
set_option maxRecDepth 100000 in
set_option maxHeartbeats 1000000 in
theorem cut1_any (a b : List UInt8) (c : UInt8) (h : ∀ x ∈ a, x ≠ c) (w : World) (hs : (a ++ c :: b).length ≤ 140737488351232) (h2 : 0 < (a ++ b).length) :
    Calls Try.prog 173 #[.string (S (a ++ c :: b)), .string ⟨#[c]⟩] w fun e w' => e = .returned (.tuple #[.string (S a), .string (S b), .bool true]) ∧ Below w.heap.size w w' := by
  have hl : (a ++ c :: b).length = a.length + 1 + b.length := by simp; omega
  have hsz : (S (a ++ c :: b)).size = a.length + 1 + b.length := by rw [S_size, hl]
  have h1 := index1_any (S (a ++ c :: b)) c w (by rw [hsz]; omega) (by rw [hsz]; simp at h2; omega)
  rw [S_data, indexByte_at h] at h1
  have H1 := hid h1
  obtain ⟨e1, e2⟩ := cutS a b c
  have E1 := hid e1
  have E2 := hid e2
  rw [hl] at hs
  clear h1 h2 hl h e1 e2
  generalize S (a ++ c :: b) = s at *
  have g0 : (0 : Int) ≤ (a.length : Int) := by omega
  have g1 : (a.length : Int) ≤ (s.size : Int) := by omega
  have g2 : (a.length : Int) + 1 ≤ (s.size : Int) := by omega
  have g3 : IntKind.i64.wrap ((a.length : Int) + 1) = (a.length : Int) + 1 := by rw [IntKind.wrap_i64]; omega
  have g4 : ¬ (9223372036854775807 < s.size) := by omega
  have g5 : (0 : Int) ≤ (a.length : Int) + 1 := by omega
  have g6 : ((a.length : Int) + 1).toNat = a.length + 1 := by omega
  clear hsz
  go_enter Try.func173, Try.ntmps173
  go_wp2_with fail
  refine H1.out.mono ?_
  rintro e w1 ⟨rfl, rfl⟩
  go_wp2_with fail
  go_region_held3 (fun _ => True) (trivial) (fail)
  all_goals
    go_wp2_with fail
    go_ret3
    exact ⟨by rw [← E1.out, ← E2.out]; rfl, drew_bel' (n := 1) (Below.refl _ _)⟩
set_option maxRecDepth 100000 in
set_option maxHeartbeats 1000000 in
/-- strings.Cut -/
theorem cut_any (a b : List UInt8) (c : UInt8) (h : ∀ x ∈ a, x ≠ c) (w : World) (hs : (a ++ c :: b).length ≤ 140737488351232) (h2 : 0 < (a ++ b).length) :
    Calls Try.prog 126 #[.string (S (a ++ c :: b)), .string ⟨#[c]⟩] w fun e w' => e = .returned (.tuple #[.string (S a), .string (S b), .bool true]) ∧ Below w.heap.size w w' := by
  have H := hid (cut1_any a b c h w hs h2)
  clear h hs h2
  generalize S (a ++ c :: b) = s at *
  go_enter Try.func126, Try.ntmps126
  go_wp2_with fail
  refine H.out.mono ?_
  rintro e w1 ⟨rfl, hb⟩
  go_wp2_with fail
  go_ret3
  exact ⟨rfl, hb⟩
end Go.Proofs.Ytomaiolhaenmhaa
