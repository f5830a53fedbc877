/-
  READERS THAT TAKE NUMBERS OFF A TEXT: what both sides compute, told by (rest, first fault). No condition.
-/
import Derived.Test.YtomaiolhaenmhaaLebR
import Derived.Test.YtomaiolhaenmhaaRowK
namespace Go.Proofs.Ytomaiolhaenmhaa
open Go.RowKit

def numM (s : ByteArray × Int) : Int × ByteArray × Int := if s.2 ≠ 0 then (0, s) else (((ru 32 s.1.data.toList 0 0).1 : Int), s.1.extract (ru 32 s.1.data.toList 0 0).2.1 s.1.size, ((ru 32 s.1.data.toList 0 0).2.2 : Int))
def sgnM (bits : Nat) (s : ByteArray × Int) : Int × ByteArray × Int := if s.2 ≠ 0 then (0, s) else ((rs bits s.1.data.toList 0 0).1, s.1.extract (rs bits s.1.data.toList 0 0).2.1 s.1.size, ((rs bits s.1.data.toList 0 0).2.2 : Int))
def cntM (most : Int) (s : ByteArray × Int) : Int × ByteArray × Int := if (numM s).2.2 ≠ 0 then (0, (numM s).2) else if most < (numM s).1 then (0, ((numM s).2.1, 2)) else numM s
def valsN (bits : Nat) : Nat → ByteArray × Int → List Int × ByteArray × Int
  | 0, s => ([], s)
  | n + 1, s => ((valsN bits n s).1 ++ [(sgnM bits (valsN bits n s).2).1], (sgnM bits (valsN bits n s).2).2)
def listM (most : Int) (s : ByteArray × Int) : List Int × ByteArray × Int := valsN 64 (cntM most s).1.toNat (cntM most s).2

theorem numM_facts (s : ByteArray × Int) : 0 ≤ (numM s).1 ∧ (numM s).1 < 4294967296 ∧ (numM s).2.1.size ≤ s.1.size ∧ ((numM s).2.2 ≠ 0 → (numM s).1 = 0) := by
  have h := ru_facts (b := 32) (.inl rfl) s.1.data.toList 0 0 (by decide) (by decide)
  unfold numM
  by_cases hb : s.2 ≠ 0
  · rw [if_pos hb]; exact ⟨Int.le_refl _, (by show (0 : Int) < 4294967296; decide), Nat.le_refl _, fun _ => rfl⟩
  · rw [if_neg hb]
    simp only
    generalize ru 32 s.1.data.toList 0 0 = q at *
    refine ⟨by omega, ?_, by rw [ByteArray.size_extract]; omega, fun g => ?_⟩
    · by_cases h0 : q.2.2 = 0
      · have := (h.1 h0).2.2; have e : (2 : Nat) ^ 32 = 4294967296 := by decide
        omega
      · have := (h.2 h0).1; omega
    · have := (h.2 (by omega)).1; omega
theorem sgnM_facts {bits : Nat} (hb2 : bits = 32 ∨ bits = 64) (s : ByteArray × Int) : -9223372036854775808 ≤ (sgnM bits s).1 ∧ (sgnM bits s).1 ≤ 9223372036854775807 ∧ (sgnM bits s).2.1.size ≤ s.1.size := by
  have h := rs_facts hb2 s.1.data.toList 0 0 (by decide) (by omega)
  unfold sgnM
  by_cases hb : s.2 ≠ 0
  · rw [if_pos hb]; exact ⟨(by show (-9223372036854775808 : Int) ≤ 0; decide), (by show (0 : Int) ≤ 9223372036854775807; decide), Nat.le_refl _⟩
  · rw [if_neg hb]
    simp only
    generalize rs bits s.1.data.toList 0 0 = q at *
    by_cases h0 : q.2.2 = 0
    · have := h.1 h0
      exact ⟨by omega, by omega, by rw [ByteArray.size_extract]; omega⟩
    · have := h.2 h0
      exact ⟨by omega, by omega, by rw [ByteArray.size_extract]; omega⟩
theorem cntM_facts (most : Int) (hm : 0 ≤ most) (s : ByteArray × Int) : 0 ≤ (cntM most s).1 ∧ (cntM most s).1 ≤ most ∧ (cntM most s).2.1.size ≤ s.1.size ∧ ((cntM most s).2.2 ≠ 0 → (cntM most s).1 = 0) := by
  have h := numM_facts s
  unfold cntM
  split
  · exact ⟨Int.le_refl _, hm, h.2.2.1, fun _ => rfl⟩
  · split
    · exact ⟨Int.le_refl _, hm, h.2.2.1, fun _ => rfl⟩
    · exact ⟨h.1, by omega, h.2.2.1, h.2.2.2⟩
theorem valsN_facts {bits : Nat} (hb : bits = 32 ∨ bits = 64) (n : Nat) (s : ByteArray × Int) : (valsN bits n s).1.length = n ∧ (∀ z ∈ (valsN bits n s).1, -9223372036854775808 ≤ z ∧ z ≤ 9223372036854775807) ∧ (valsN bits n s).2.1.size ≤ s.1.size := by
  induction n with
  | zero => exact ⟨rfl, (fun z hz => by cases hz), Nat.le_refl _⟩
  | succ n ih =>
    have h := sgnM_facts hb (valsN bits n s).2
    obtain ⟨h1, h2, h3⟩ := ih
    refine ⟨by rw [valsN, List.length_append, h1]; rfl, ?_, by rw [valsN]; exact Nat.le_trans h.2.2 h3⟩
    intro z hz
    rw [valsN] at hz
    rcases List.mem_append.1 hz with hz | hz
    · exact h2 z hz
    · simp only [List.mem_singleton] at hz
      subst hz
      exact ⟨h.1, h.2.1⟩
end Go.Proofs.Ytomaiolhaenmhaa
