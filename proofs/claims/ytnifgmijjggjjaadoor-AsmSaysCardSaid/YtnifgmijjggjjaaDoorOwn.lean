/-
  ROWS THAT THE CALL OWNS, of one cell an element: reading, storing at a place, cutting. No condition.
-/
import Derived.Test.YtnifgmijjggjjaaDoorPart
import Derived.Test.YtnifgmijjggjjaaDoorKt
namespace Go.Proofs.YtnifgmijjggjjaaDoor
open Go.RowKit Go.Lib

/-- an owned row that is not empty -/
theorem own_at {w : World} {base : Nat} {e : TypeId} {v : Value} {n : Nat} {xs : List Value} (h : w.ownsRow base e 1 v n xs) (hn : 0 < n) : ∃ g cap, v = .slice (some ⟨g, 0, none⟩) n cap ∧ base ≤ g ∧ n ≤ cap ∧ cap ≤ maxLen ∧ xs.length = n ∧ (∀ i x, xs[i]? = some x → w.cell? ⟨g, i, none⟩ = some x) ∧ (∀ i, w.frozen? ⟨g, i, none⟩ = false) ∧ g < w.heap.size := by
  obtain ⟨h1, h2⟩ := h
  rcases h2 with ⟨_, h2⟩ | ⟨g, cap, cur, hv, hg, hh, hnc, hcm, hs, ht⟩
  · omega
  · have hb : Blk w g e cur.toList := hh
    refine ⟨g, cap, hv, hg, hnc, hcm, by omega, fun i x hx => hb.cell ?_, hb.free, hb.lt⟩
    rw [← ht] at hx
    have hi := (List.getElem?_eq_some_iff.1 hx).1
    rw [List.length_take] at hi
    rw [List.getElem?_take_of_lt (by omega)] at hx
    exact hx
/-- a store at a place -/
theorem own_put {w : World} {base : Nat} {e : TypeId} {g n cap : Nat} {xs : List Value} (h : w.ownsRow base e 1 (.slice (some ⟨g, 0, none⟩) n cap) n xs) (i : Nat) (a : Value) (_hi : i < n) : (w.setCell ⟨g, i, none⟩ a).ownsRow base e 1 (.slice (some ⟨g, 0, none⟩) n cap) n (xs.set i a) := by
  obtain ⟨h1, h2⟩ := h
  refine ⟨by simpa using h1, ?_⟩
  rcases h2 with ⟨h2, _⟩ | ⟨g', cap', cur, hv, hg, hh, hnc, hcm, hs, ht⟩
  · simp at h2
  · simp only [Value.slice.injEq, Option.some.injEq, Addr.mk.injEq, and_true, true_and] at hv
    obtain ⟨rfl, rfl⟩ := hv
    have hb : Blk w g e cur.toList := hh
    have hb2 := hb.set i a
    refine .inr ⟨g, cap, (cur.toList.set i a).toArray, rfl, hg, hb2, hnc, hcm, by simp [hs], ?_⟩
    rw [← ht]
    simp only
    rw [List.take_set]
/-- cut at the end -/
theorem own_cut {w : World} {base : Nat} {e : TypeId} {g n cap : Nat} {xs : List Value} (h : w.ownsRow base e 1 (.slice (some ⟨g, 0, none⟩) n cap) n xs) (i : Nat) (hi : i ≤ n) : w.ownsRow base e 1 (.slice (some ⟨g, 0, none⟩) i cap) i (xs.take i) := by
  have := own_prefix h i hi
  rw [Nat.mul_one] at this
  exact this
theorem OwnI.at {w : World} {base : Nat} {k : IntKind} {e : TypeId} {v : Value} {xs : List Int} {n : Nat} (h : OwnI w base k e v xs) (hl : xs.length = n) (hn : 0 < n) : ∃ g cap, v = .slice (some ⟨g, 0, none⟩) n cap ∧ base ≤ g ∧ n ≤ cap ∧ cap ≤ maxLen ∧ (∀ i x, xs[i]? = some x → w.cell? ⟨g, i, none⟩ = some (.int k x)) ∧ (∀ i, w.frozen? ⟨g, i, none⟩ = false) ∧ g < w.heap.size ∧ ∃ cs, Blk w g e cs := by
  subst hl
  obtain ⟨g, cap, h1, h2, h3, h4, _, h5, h6, h7⟩ := own_at h hn
  subst h1
  refine ⟨g, cap, rfl, h2, h3, h4, fun i x hx => h5 i _ ?_, h6, h7, ?_⟩
  · rw [List.getElem?_map, hx]; rfl
  · obtain ⟨_, k2⟩ := h
    rcases k2 with ⟨k2, _⟩ | ⟨g', cap', cur, hv, hg, hh, _⟩
    · simp at k2
    · simp only [Value.slice.injEq, Option.some.injEq, Addr.mk.injEq, and_true, true_and] at hv
      obtain ⟨rfl, rfl⟩ := hv
      exact ⟨cur.toList, hh⟩
theorem blk_diff {w : World} {a b : Nat} {e f : TypeId} {cs ds : List Value} (h : Blk w a e cs) (k : Blk w b f ds) (hne : e ≠ f) : a ≠ b := by
  intro hab
  subst hab
  unfold Blk at h k
  rw [h] at k
  simp at k
  exact hne k.2
theorem OwnI.put {w : World} {base : Nat} {k : IntKind} {e : TypeId} {g n cap : Nat} {xs : List Int} (h : OwnI w base k e (.slice (some ⟨g, 0, none⟩) n cap) xs) (hn : n = xs.length) (i : Nat) (a : Int) (hi : i < xs.length) : OwnI (w.setCell ⟨g, i, none⟩ (.int k a)) base k e (.slice (some ⟨g, 0, none⟩) n cap) (xs.set i a) := by
  subst hn
  have := own_put h i (.int k a) hi
  rw [← List.map_set] at this
  show World.ownsRow _ _ _ _ _ (xs.set i a).length _
  rw [List.length_set]
  exact this
theorem OwnI.cut {w : World} {base : Nat} {k : IntKind} {e : TypeId} {g n cap : Nat} {xs ys : List Int} (h : OwnI w base k e (.slice (some ⟨g, 0, none⟩) n cap) xs) (hn : n = xs.length) (i : Nat) (hi : i ≤ xs.length) (hy : xs.take i = ys) : OwnI w base k e (.slice (some ⟨g, 0, none⟩) i cap) ys := by
  subst hn
  have := own_cut h i hi
  rw [← List.map_take, hy] at this
  have hl : ys.length = i := by rw [← hy, List.length_take]; omega
  show World.ownsRow _ _ _ _ _ ys.length _
  rw [hl]
  exact this
end Go.Proofs.YtnifgmijjggjjaaDoor
