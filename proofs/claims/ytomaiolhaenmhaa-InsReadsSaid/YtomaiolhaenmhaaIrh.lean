/-
  INSTRUCTIONS: the reference's Read answers as the program's; SameIns at equal instructions. Conditions: lengths in the form's reach; the library's variable that strings.Contains reads holds some number.
-/
import Derived.Test.YtomaiolhaenmhaaIrg
import Derived.Test.YtomaiolhaenmhaaEq64
namespace Go.Proofs.Ytomaiolhaenmhaa
open Go.RowKit Go.Lib

theorem rdq_rdp {w w' : World} {t : ByteArray} {e : Ending} {op : Nat} {so : ByteArray × Int} (ho : octM (t, 0) = (op, so)) (h9 : tB op ≤ 9) (h : RdQ w t.size op (frmL (sdL (tB op)) ((0, 0, []), sayM (decide (tB op = 0)) 6 so)) e w') : RdP w t e w' := by
  unfold RdP rdI
  rw [ho]
  simp only
  have hsb : tB op = 0 → (sayM (decide (tB op = 0)) 6 so).2 ≠ 0 := fun g => by rw [g]; exact say_bad (e := 6) (by decide) so
  generalize sayM (decide (tB op = 0)) 6 so = s at *
  by_cases hb : s.2 = 0
  · have hk : 1 ≤ tB op ∧ tB op ≤ 9 := ⟨by have : tB op ≠ 0 := fun g => hsb g hb
                                           omega, h9⟩
    rw [show frmL (sdL (tB op)) ((0, 0, []), s) = besM (tB op) s from frm_bes _ hk s] at h
    simp only [if_pos hb]
    exact h
  · simp only [if_neg hb]
    obtain ⟨u, h1, h2⟩ := h
    have hk := frmL_keep (sdL (tB op)) ((0, 0, []), s) hb
    rw [hk] at h1
    simp only [if_neg hb] at h1
    exact ⟨u, h1, h2⟩
theorem sd_letters : ∀ k, k < 10 → (sdL k).length ≤ 2 ∧ ∀ c ∈ sdL k, (c = 63 ∨ c = 107 ∨ c = 97 ∨ c = 116 ∨ c = 122 ∨ c = 98 ∨ c = 99 ∨ c = 100) := by decide +kernel
theorem sd_quest : ∀ k, k < 10 → (sdL k == [63]) = decide (k = 0) := by decide +kernel
theorem rread_any (w : World) (t : ByteArray) (ht : t.size ≤ 140737488351232) (hM : MaxL w) :
    Calls Try.prog 50 #[.string t] w fun e w' => RdP w t e w' := by
  have hop := octM_lt (t, 0)
  generalize ho : octM (t, 0) = o at hop
  obtain ⟨op, so⟩ := o
  simp only at hop
  have h9 := tB_le ⟨op, hop⟩
  simp only at h9
  refine (rread_q w t ht op so hop ho (S (sdL (tB op))) ?_ ?_ (fun w' hb => rbeside_any op hop w' (hM.below hb)) _ (by rw [Go.ByteArray.toList_eq]; exact sd_quest _ (by omega)) _ rfl).mono (fun e w' h => rdq_rdp ho h9 h)
  · rw [S_size]; exact (sd_letters _ (by omega)).1
  · intro i h
    exact (sd_letters (tB op) (by omega)).2 _ (List.getElem_mem (l := sdL (tB op)) (by rw [S_size] at h; exact h))

set_option maxRecDepth 100000 in
set_option maxHeartbeats 1000000 in
theorem sameIns_any (op : Nat) (A B : Int) (v u : Value) (xs : List Int) (w : World) (hv : Ints w .i64 v xs) (hu : Ints w .i64 u xs) :
    Calls Try.prog 51 #[insV op A B v, insV op A B u] w fun e w' => e = .returned (.bool true) ∧ Below w.heap.size w w' := by
  have hb : Below w.heap.size w ((w.alloc (.cells #[.int .u8 op, .int .i64 A, .int .i64 B, v] 90)).alloc (.cells #[.int .u8 op, .int .i64 A, .int .i64 B, u] 90)) := ((Below.refl _ _).alloc (Nat.le_refl _) _).alloc (by simp) _
  have X := (Blk.new w #[.int .u8 op, .int .i64 A, .int .i64 B, v] 90 _ rfl).alloc (.cells #[.int .u8 op, .int .i64 A, .int .i64 B, u] 90)
  have Y := Blk.new (w.alloc (.cells #[.int .u8 op, .int .i64 A, .int .i64 B, v] 90)) #[.int .u8 op, .int .i64 A, .int .i64 B, u] 90 (w.heap.size + 1) (by simp)
  have HQ := hid (eq_int64 v u xs xs _ (L1.below hv hb) (L1.below hu hb))
  rw [decide_eq_true rfl] at HQ
  have HB := hid hb
  have x0 := X.cell (i := 0) rfl
  have x1 := X.cell (i := 1) rfl
  have x2 := X.cell (i := 2) rfl
  have x3 := X.cell (i := 3) rfl
  have y0 := Y.cell (i := 0) rfl
  have y1 := Y.cell (i := 1) rfl
  have y2 := Y.cell (i := 2) rfl
  have y3 := Y.cell (i := 3) rfl
  obtain ⟨ao, cap, rfl, -⟩ := id hv
  obtain ⟨ao', cap', rfl, -⟩ := id hu
  clear hv hu hb X Y
  go_enter Try.func51, Try.ntmps51
  go_wp2_with (go_at_call 116; refine HQ.out.mono ?_; rintro r w1 ⟨rfl, rfl⟩)
  go_ret
  exact ⟨rfl, HB.out⟩
end Go.Proofs.Ytomaiolhaenmhaa
