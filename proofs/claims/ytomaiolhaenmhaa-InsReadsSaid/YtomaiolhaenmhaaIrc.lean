/-
  THE REFERENCE's CURSOR: octet. Conditions: lengths in the form's reach.
-/
import Derived.Test.YtomaiolhaenmhaaIrd
namespace Go.Proofs.Ytomaiolhaenmhaa
open Go.RowKit Go.Lib
attribute [local go_sem ↓] Go.wp_at_zero Go.wp_at_succ

theorem say_same {is : Bool} {e : Int} {s : ByteArray × Int} (h : s.2 ≠ 0) : sayM is e s = s := if_neg (fun g => h g.2)
set_option maxRecDepth 100000 in
set_option maxHeartbeats 1000000 in
theorem coctet_any (w : World) (B : Nat) (all : Int) (s : ByteArray × Int) (h : CuB w B all s) (hs : okSc s) :
    Calls Try.prog 110 #[.pointer (some ⟨B, 0, none⟩)] w fun r w' => r = .returned (.int .i64 (octM s).1) ∧ CuB w' B all (octM s).2 ∧ ToC B w w' := by
  have HS := hid (fun is => csay_any w B all s is 3 h)
  obtain ⟨rest, bad⟩ := s
  unfold okSc at hs
  unfold octM
  simp only at hs HS ⊢
  have b0 := h.cell (i := 0) rfl
  clear h
  by_cases hb : bad ≠ 0
  · rw [if_pos hb]
    have hb2 : (bad != 0) = true := by simpa using hb
    have HS2 := hid (fun is => by have := HS.out is; rw [say_same (s := (rest, bad)) hb] at this; exact this)
    clear hb HS
    go_enter Try.func110, Try.ntmps110
    go_wp2_with fail
    refine (HS2.out _).mono ?_
    rintro r w1 ⟨rfl, h1, h2⟩
    have c2 := h1.cell (i := 2) rfl
    have HX := hid (And.intro h1 h2)
    clear h1 h2
    go_wp2_with fail
    go_ret
    exact ⟨rfl, HX.out.1, HX.out.2⟩
  · rw [if_neg hb]
    have hb0 : bad = 0 := Classical.byContradiction hb
    subst hb0
    clear hb
    by_cases hz : 0 < rest.size
    · rw [dif_pos hz]
      have hne : (rest.toList == []) = false := by
        rw [ByteArray.toList_eq]
        obtain ⟨⟨l⟩⟩ := rest
        cases l with
        | nil => exact absurd hz (by decide)
        | cons a r => rfl
      have HS2 := hid (show Calls Try.prog 112 #[.pointer (some ⟨B, 0, none⟩), .bool false, .int .i64 3] w fun r w' => r = .returned (.tuple #[]) ∧ CuB w' B all (rest, 0) ∧ ToC B w w' from HS.out false)
      have RI := fun wx => (run_index_string wx 9 rest .i64 (0 : Int) Try.underlying9).trans (dif_pos (show (0 : Int) ≤ 0 ∧ (0 : Int) < (rest.size : Int) from ⟨Int.le_refl _, by omega⟩))
      simp only [Int.toNat_zero] at RI
      have hv : (rest[0]'hz).toNat < 256 := UInt8.toNat_lt _
      have hk1 : (1 : Int) ≤ (rest.size : Int) := by omega
      have hx : ¬ (9223372036854775807 < rest.size) := by omega
      generalize (rest[0]'hz).toNat = V at *
      have hw : wrap64 (V : Int) = V := by unfold wrap64; omega
      have hwi : IntKind.i64.wrap (V : Int) = V := IntWalk.i64_in _ (by omega)
      clear HS hz hv
      go_enter Try.func110, Try.ntmps110
      go_wp2_with fail
      refine HS2.out.mono ?_
      rintro r w1 ⟨rfl, h1, h2⟩
      have c0 := h1.cell (i := 0) rfl
      have c2 := h1.cell (i := 2) rfl
      have cf := h1.free 0
      have HX := hid (And.intro (h1.set 0 (.string (rest.extract 1 rest.size))) h2)
      clear h1 h2
      go_wp2_with fail
      go_ret
      exact ⟨rfl, HX.out.1, HX.out.2.trans (Touch.setCell (F := fun j => j = B) (a := ⟨B, 0, none⟩) rfl _)⟩
    · rw [dif_neg hz]
      have hne : (rest.toList == []) = true := by
        rw [ByteArray.toList_eq]
        obtain ⟨⟨l⟩⟩ := rest
        cases l with
        | nil => rfl
        | cons a r => exact absurd (Nat.succ_pos _) hz
      have HS2 := hid (show Calls Try.prog 112 #[.pointer (some ⟨B, 0, none⟩), .bool true, .int .i64 3] w fun r w' => r = .returned (.tuple #[]) ∧ CuB w' B all (rest, 3) ∧ ToC B w w' from HS.out true)
      clear HS hz
      go_enter Try.func110, Try.ntmps110
      go_wp2_with fail
      refine HS2.out.mono ?_
      rintro r w1 ⟨rfl, h1, h2⟩
      have c2 := h1.cell (i := 2) rfl
      have HX := hid (And.intro h1 h2)
      clear h1 h2
      go_wp2_with fail
      go_ret
      exact ⟨rfl, HX.out.1, HX.out.2⟩
end Go.Proofs.Ytomaiolhaenmhaa
