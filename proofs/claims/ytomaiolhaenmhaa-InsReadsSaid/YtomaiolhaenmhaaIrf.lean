/-
  INSTRUCTIONS: the reference's Read: its cursor and its instruction, and what one letter of the form does. Conditions: lengths in the form's reach.
-/
import Derived.Test.YtomaiolhaenmhaaIba
import Derived.Lib.OthersKept
namespace Go.Proofs.Ytomaiolhaenmhaa
open Go.RowKit Go.Lib

/-- the cursor at block R, s left; the instruction at block X -/
structure DuC (w : World) (R X : Nat) (all : Int) (s : ByteArray × Int) (op : Nat) (A B : Int) (u : Value) : Prop where
  cu : CuB w R all s
  ins : Blk w X 90 [.int .u8 op, .int .i64 A, .int .i64 B, u]
  ne : R ≠ X
  sz : (s.1.size : Int) ≤ all ∧ all ≤ 140737488351232
theorem octM_size (s : ByteArray × Int) : (octM s).2.1.size ≤ s.1.size := by
  unfold octM
  split
  · exact Nat.le_refl _
  · split
    · simp only [ByteArray.size_extract]; omega
    · exact Nat.le_refl _
theorem say_fst (is : Bool) (e : Int) (s : ByteArray × Int) : (sayM is e s).1 = s.1 := by unfold sayM; split <;> rfl
section
variable {w : World} {R X : Nat} {all : Int} {s : ByteArray × Int} {op : Nat} {A B : Int} {u : Value}
theorem DuC.setA (h : DuC w R X all s op A B u) (C : Int) : DuC (w.setCell ⟨X, 1, none⟩ (.int .i64 C)) R X all s op C B u := ⟨h.cu.other (fun g => h.ne g.symm) _, h.ins.set 1 _, h.ne, h.sz⟩
theorem DuC.setB (h : DuC w R X all s op A B u) (C : Int) : DuC (w.setCell ⟨X, 2, none⟩ (.int .i64 C)) R X all s op A C u := ⟨h.cu.other (fun g => h.ne g.symm) _, h.ins.set 2 _, h.ne, h.sz⟩
theorem DuC.setT (h : DuC w R X all s op A B u) (v : Value) : DuC (w.setCell ⟨X, 3, none⟩ v) R X all s op A B v := ⟨h.cu.other (fun g => h.ne g.symm) _, h.ins.set 3 _, h.ne, h.sz⟩
theorem DuC.drew (h : DuC w R X all s op A B u) : DuC w.drew R X all s op A B u := ⟨h.cu, h.ins, h.ne, h.sz⟩
theorem DuC.kt {w' : World} (h : DuC w R X all s op A B u) (k : KT 2 w w') : DuC w' R X all s op A B u := ⟨k.blk h.cu rfl, k.blk h.ins rfl, h.ne, h.sz⟩
theorem DuC.lt (h : DuC w R X all s op A B u) : R < w.heap.size ∧ X < w.heap.size := ⟨h.cu.lt, h.ins.lt⟩
theorem DuC.okS (h : DuC w R X all s op A B u) : okSc s := by have := h.sz; unfold okSc; omega
theorem DuC.same {w' : World} (h : DuC w R X all s op A B u) (hR : w'.heap[R]? = w.heap[R]?) (hX : w'.heap[X]? = w.heap[X]?) : DuC w' R X all s op A B u := ⟨h.cu.same hR, h.ins.same hX, h.ne, h.sz⟩
theorem DuC.below {w' : World} (h : DuC w R X all s op A B u) (hb : Below w.heap.size w w') : DuC w' R X all s op A B u := ⟨h.cu.below hb, h.ins.below hb, h.ne, h.sz⟩
theorem DuC.next {w' : World} {s' : ByteArray × Int} (h : DuC w R X all s op A B u) (g : CuB w' R all s') (hs : s'.1.size ≤ s.1.size) (ht : ToC R w w') : DuC w' R X all s' op A B u :=
  ⟨g, h.ins.touch ht (fun e => h.ne e.symm), h.ne, by have := h.sz; omega⟩
theorem cnumD (h : DuC w R X all s op A B u) :
    Calls Try.prog 113 #[.pointer (some ⟨R, 0, none⟩)] w fun r w' => r = .returned (.int .i64 (numM s).1) ∧ DuC w' R X all (numM s).2 op A B u ∧ ToD R X w w' :=
  (cnum_any w R all s h.cu h.okS).mono (fun _ _ ⟨e, g, ht⟩ => ⟨e, h.next g (numM_facts s).2.2.1 ht, .of ht⟩)
theorem csgnD (bits : Nat) (hb : bits = 32 ∨ bits = 64) (h : DuC w R X all s op A B u) :
    Calls Try.prog 114 #[.pointer (some ⟨R, 0, none⟩), .int .i64 bits] w fun r w' => r = .returned (.int .i64 (sgnM bits s).1) ∧ DuC w' R X all (sgnM bits s).2 op A B u ∧ ToD R X w w' :=
  (csigned_any w R all s bits hb h.cu h.okS).mono (fun _ _ ⟨e, g, ht⟩ => ⟨e, h.next g (sgnM_facts hb s).2.2 ht, .of ht⟩)
theorem coctD (h : DuC w R X all s op A B u) :
    Calls Try.prog 110 #[.pointer (some ⟨R, 0, none⟩)] w fun r w' => r = .returned (.int .i64 (octM s).1) ∧ DuC w' R X all (octM s).2 op A B u ∧ ToD R X w w' :=
  (coctet_any w R all s h.cu h.okS).mono (fun _ _ ⟨e, g, ht⟩ => ⟨e, h.next g (octM_size s) ht, .of ht⟩)
theorem csayD (is : Bool) (e : Int) (h : DuC w R X all s op A B u) :
    Calls Try.prog 112 #[.pointer (some ⟨R, 0, none⟩), .bool is, .int .i64 e] w fun r w' => r = .returned (.tuple #[]) ∧ DuC w' R X all (sayM is e s) op A B u ∧ ToD R X w w' :=
  (csay_any w R all s is e h.cu).mono (fun _ _ ⟨e, g, ht⟩ => ⟨e, h.next g (by rw [say_fst]; exact Nat.le_refl _) ht, .of ht⟩)
end

abbrev FQ := (Int × Int × List Int) × (ByteArray × Int)
/-- the letter t: how many, the list, the last -/
def frmT (q : FQ) : FQ :=
  (((numM (takeM ((numM q.2).1.toNat - q.1.2.2.length) (sayM (decide (16 < (numM q.2).1)) 2 (numM q.2).2)).2).1, q.1.2.1, q.1.2.2 ++ (takeM ((numM q.2).1.toNat - q.1.2.2.length) (sayM (decide (16 < (numM q.2).1)) 2 (numM q.2).2)).1),
    (numM (takeM ((numM q.2).1.toNat - q.1.2.2.length) (sayM (decide (16 < (numM q.2).1)) 2 (numM q.2).2)).2).2)
/-- what one letter of the form does -/
def frm1 (c : UInt8) (q : FQ) : FQ :=
  if c = 107 then (((octM q.2).1, q.1.2.1, q.1.2.2), sayM (okK (octM q.2).1) 6 (octM q.2).2)
  else if c = 97 then (((numM q.2).1, q.1.2.1, q.1.2.2), (numM q.2).2)
  else if c = 98 then ((q.1.1, (numM q.2).1, q.1.2.2), (numM q.2).2)
  else if c = 122 then (q.1, nogM q.2)
  else if c = 99 then (((sgnM 32 q.2).1, q.1.2.1, q.1.2.2), (sgnM 32 q.2).2)
  else if c = 100 then (((sgnM 64 q.2).1, q.1.2.1, q.1.2.2), (sgnM 64 q.2).2)
  else if c = 116 then frmT q
  else q
def frmL (l : List UInt8) (q : FQ) : FQ := l.foldl (fun q c => frm1 c q) q
theorem frm_next {l : List UInt8} {k : Nat} (h : k < l.length) (q : FQ) : frmL (l.drop k) q = frmL (l.drop (k + 1)) (frm1 l[k] q) := by
  unfold frmL
  rw [List.drop_eq_getElem_cons h]
  rfl
theorem num_keep {s : ByteArray × Int} (h : s.2 ≠ 0) : (numM s).2 = s := by unfold numM; split; rfl; contradiction
theorem sgn_keep {b : Nat} {s : ByteArray × Int} (h : s.2 ≠ 0) : (sgnM b s).2 = s := by unfold sgnM; split; rfl; contradiction
theorem oct_keep {s : ByteArray × Int} (h : s.2 ≠ 0) : (octM s).2 = s := by unfold octM; rw [if_pos h]
theorem frm1_keep (c : UInt8) (q : FQ) (h : q.2.2 ≠ 0) : (frm1 c q).2 = q.2 := by
  unfold frm1
  split
  · simp only [oct_keep h]; exact say_same h
  split
  · simp only [num_keep h]
  split
  · simp only [num_keep h]
  split
  · simp only [nogM, oct_keep h]; exact say_same h
  split
  · simp only [sgn_keep h]
  split
  · simp only [sgn_keep h]
  split
  · simp only [frmT, num_keep h]
    rw [say_same h, take_bad _ _ h]
    exact num_keep h
  · rfl
theorem frmL_keep (l : List UInt8) (q : FQ) (h : q.2.2 ≠ 0) : (frmL l q).2 = q.2 := by
  induction l generalizing q with
  | nil => rfl
  | cons c l ih =>
    have e := frm1_keep c q h
    show (frmL l (frm1 c q)).2 = q.2
    rw [ih _ (by rw [e]; exact h), e]
theorem take_len (n : Nat) (s : ByteArray × Int) : (takeM n s).1.length ≤ n := by
  induction n generalizing s with
  | zero => simp [takeM]
  | succ n ih =>
    unfold takeM
    split
    · simp
    · simp only [List.length_cons]; have := ih (numM s).2; omega
/-- the form of a kind reads what stands beside it -/
theorem frm_bes (k : Nat) (hk : 1 ≤ k ∧ k ≤ 9) (s : ByteArray × Int) : frmL (([[63], [], [107], [97], [116], [97, 122], [97, 98], [122], [99], [100]] : List (List UInt8)).getD k []) ((0, 0, []), s) = besM k s := by
  rcases (by omega : k = 1 ∨ k = 2 ∨ k = 3 ∨ k = 4 ∨ k = 5 ∨ k = 6 ∨ k = 7 ∨ k = 8 ∨ k = 9) with rfl | rfl | rfl | rfl | rfl | rfl | rfl | rfl | rfl
  all_goals rfl
end Go.Proofs.Ytomaiolhaenmhaa
