/-
  INSTRUCTIONS: what stands beside an instruction, read by the program: all kinds in one. Conditions: lengths in the form's reach.
-/
import Derived.Test.YtomaiolhaenmhaaIbw
namespace Go.Proofs.Ytomaiolhaenmhaa
open Go.RowKit Go.Lib

/-- what stands beside an instruction: two numbers, a list; and what is left -/
def besM (k : Nat) (s : ByteArray × Int) : (Int × Int × List Int) × (ByteArray × Int) :=
  match k with
  | 2 => (((octM s).1, 0, []), sayM (okK (octM s).1) 6 (octM s).2)
  | 3 => (((numM s).1, 0, []), (numM s).2)
  | 4 => (((numM (takeM (numM s).1.toNat (sayM (decide (16 < (numM s).1)) 2 (numM s).2)).2).1, 0, (takeM (numM s).1.toNat (sayM (decide (16 < (numM s).1)) 2 (numM s).2)).1), (numM (takeM (numM s).1.toNat (sayM (decide (16 < (numM s).1)) 2 (numM s).2)).2).2)
  | 5 => (((numM s).1, 0, []), nogM (numM s).2)
  | 6 => (((numM s).1, (numM (numM s).2).1, []), (numM (numM s).2).2)
  | 7 => ((0, 0, []), nogM s)
  | 8 => (((sgnM 32 s).1, 0, []), (sgnM 32 s).2)
  | 9 => (((sgnM 64 s).1, 0, []), (sgnM 64 s).2)
  | _ => ((0, 0, []), s)
theorem own_nil0 (w : World) (H : Nat) : OwnI w H .i64 2 (.slice none 0 0) [] := OwnI.nil _ _ _ _
theorem ibs_any (w : World) (R X : Nat) (t : ByteArray) (s : ByteArray × Int) (op k : Nat) (hk : 1 ≤ k ∧ k ≤ 9) (h : DuI w R X t s op 0 0 (.slice none 0 0)) (h0 : s.2 = 0) :
    Calls Try.prog 108 #[.pointer (some ⟨R, 0, none⟩), .pointer (some ⟨X, 0, none⟩), .int .i64 k] w fun r w' => r = .returned (.tuple #[]) ∧
      (∃ u, DuI w' R X t (besM k s).2 op (besM k s).1.1 (besM k s).1.2.1 u ∧ OwnI w' w.heap.size .i64 2 u (besM k s).1.2.2) ∧ ToD R X w w' := by
  rcases (by omega : k = 1 ∨ k = 2 ∨ k = 3 ∨ k = 4 ∨ k = 5 ∨ k = 6 ∨ k = 7 ∨ k = 8 ∨ k = 9) with rfl | rfl | rfl | rfl | rfl | rfl | rfl | rfl | rfl
  · exact (ibs_1 w R X t s op _ h).mono (fun _ _ ⟨e, g, ht⟩ => ⟨e, ⟨_, g, own_nil0 _ _⟩, ht⟩)
  · exact (ibs_2 w R X t s op _ h).mono (fun _ _ ⟨e, g, ht⟩ => ⟨e, ⟨_, g, own_nil0 _ _⟩, ht⟩)
  · exact (ibs_3 w R X t s op _ h).mono (fun _ _ ⟨e, g, ht⟩ => ⟨e, ⟨_, g, own_nil0 _ _⟩, ht⟩)
  · unfold besM
    simp only
    by_cases hn : 16 < (numM s).1
    · rw [decide_eq_true hn, take_bad _ _ (say_bad (by decide) _)]
      exact (ibs_4x w R X t s op h hn).mono (fun _ _ ⟨e, g, ht⟩ => ⟨e, ⟨_, g, own_nil0 _ _⟩, ht⟩)
    · rw [decide_eq_false hn, say_false]
      exact ibs_4 w R X t s op h (by omega)
  · exact (ibs_5 w R X t s op _ h).mono (fun _ _ ⟨e, g, ht⟩ => ⟨e, ⟨_, g, own_nil0 _ _⟩, ht⟩)
  · exact (ibs_6 w R X t s op _ h).mono (fun _ _ ⟨e, g, ht⟩ => ⟨e, ⟨_, g, own_nil0 _ _⟩, ht⟩)
  · exact (ibs_7 w R X t s op _ h).mono (fun _ _ ⟨e, g, ht⟩ => ⟨e, ⟨_, g, own_nil0 _ _⟩, ht⟩)
  · exact (ibs_8 w R X t s op _ h h0).mono (fun _ _ ⟨e, g, ht⟩ => ⟨e, ⟨_, g, own_nil0 _ _⟩, ht⟩)
  · exact (ibs_9 w R X t s op _ h h0).mono (fun _ _ ⟨e, g, ht⟩ => ⟨e, ⟨_, g, own_nil0 _ _⟩, ht⟩)
end Go.Proofs.Ytomaiolhaenmhaa
