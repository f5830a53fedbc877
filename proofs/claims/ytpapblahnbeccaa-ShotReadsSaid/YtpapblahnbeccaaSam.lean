/-
  ROWS OF STRUCTS AS LISTS OF LISTS OF CELLS, for SameAll. No condition.
-/
import Derived.Test.YtpapblahnbeccaaRowK
import Derived.Test.YtpapblahnbeccaaFl0
namespace Go.Proofs.Ytpapblahnbeccaa
open Go.RowKit Go.Lib

theorem sm_open {s : Nat} {w : World} {v : Value} {css : List (List Value)} (hs : 0 < s) (hl : ∀ c ∈ css, c.length = s) (h : Sl w v css.length css.flatten) :
    (∃ ao cap, v = .slice ao 0 cap ∧ css.length = 0) ∨ ∃ b off cap, v = .slice (some ⟨b, off, none⟩) css.length cap ∧ 0 < css.length ∧ css.length ≤ cap ∧ cap ≤ 9223372036854775807 ∧ At w b off css.flatten := by
  obtain ⟨ao, cap, rfl, h1, h2, h3, h4⟩ := h
  by_cases h0 : css.length = 0
  · exact .inl ⟨ao, cap, by rw [h0], h0⟩
  · rcases h4 with h4 | ⟨b, off, rfl, hat⟩
    · have := flatten_len css hl
      rw [h4] at this
      have h5 : 1 * 1 ≤ css.length * s := Nat.mul_le_mul (by omega) hs
      simp at this
      omega
    · exact .inr ⟨b, off, cap, rfl, by omega, h1, h2, hat⟩
theorem sm_at {s k f : Nat} {w wr : World} {b off : Nat} {css : List (List Value)} {c : List Value} {v : Value} (h : At w b off css.flatten) (hb : Below w.heap.size w wr) (hk : k < css.length) (hl : ∀ c ∈ css, c.length = s) (hc : css[k] = c) (hv : c[f]? = some v) : wr.cell? ⟨b, off + k * s + f, none⟩ = some v := by
  have hf : f < s := by
    have h1 := hl _ (List.getElem_mem hk)
    rw [hc] at h1
    rcases Nat.lt_or_ge f c.length with h | h
    · omega
    · rw [List.getElem?_eq_none h] at hv; cases hv
  have h2 := flatten_get css hl k f hf hk
  rw [hc, hv] at h2
  have hlt : k * s + f < css.flatten.length := by
    rcases Nat.lt_or_ge (k * s + f) css.flatten.length with h | h
    · exact h
    · rw [List.getElem?_eq_none h] at h2; cases h2
  have h3 := (h.below hb) (k * s + f) hlt
  rw [List.getElem?_eq_getElem hlt] at h2
  rw [← Nat.add_assoc] at h3
  rw [h3, h2]
theorem sm_split2 {c : List Value} (h : c.length = 2) : ∃ a0 a1, c = [a0, a1] := by
  match c, h with
  | [a, b], _ => exact ⟨_, _, rfl⟩
theorem sm_split3 {c : List Value} (h : c.length = 3) : ∃ a0 a1 a2, c = [a0, a1, a2] := by
  match c, h with
  | [a, b, d], _ => exact ⟨_, _, _, rfl⟩
theorem sm_split4 {c : List Value} (h : c.length = 4) : ∃ a0 a1 a2 a3, c = [a0, a1, a2, a3] := by
  match c, h with
  | [a, b, d, e], _ => exact ⟨_, _, _, _, rfl⟩
theorem below_dr {W w : World} {B : Nat} (h : Below B W w) : Below B W w.drew := drew_bel' (n := 1) h
end Go.Proofs.Ytpapblahnbeccaa
