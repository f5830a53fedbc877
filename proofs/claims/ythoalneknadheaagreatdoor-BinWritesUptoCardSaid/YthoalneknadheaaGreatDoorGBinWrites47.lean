/-
  MODULES AS BYTES: the sections' texts as a list of twelve; an array of twelve cells, indexed. No condition.
-/
import Derived.Test.YthoalneknadheaaGreatDoorGBinWrites45
namespace Go.Proofs.YthoalneknadheaaGreatDoor
open Go.RowKit Go.Lib

def secVals (y : D_api_Module) : Array Value := #[.string ⟨#[]⟩, .string (listB wSig y.1), .string (listB wImport y.2.1), .string (listB wFunc y.2.2.1), .string (tabB y), .string (memB y), .string (listB wGlobal y.2.2.2.2.2.2.1), .string (listB wExport y.2.2.2.2.2.2.2.1), .string (begB y), .string (listB wElem y.2.2.2.2.2.2.2.2.2.1), .string (listB wCode y.2.2.1), .string (listB wData y.2.2.2.2.2.2.2.2.2.2.1)]
def secL (y : D_api_Module) : List ByteArray := [⟨#[]⟩, listB wSig y.1, listB wImport y.2.1, listB wFunc y.2.2.1, tabB y, memB y, listB wGlobal y.2.2.2.2.2.2.1, listB wExport y.2.2.2.2.2.2.2.1, begB y, listB wElem y.2.2.2.2.2.2.2.2.2.1, listB wCode y.2.2.1, listB wData y.2.2.2.2.2.2.2.2.2.2.1]
def secAt (y : D_api_Module) (k : Nat) : ByteArray := (secL y).getD k ⟨#[]⟩
def outK (y : D_api_Module) : Nat → ByteArray
  | 0 => S [0, 97, 115, 109, 1, 0, 0, 0]
  | k + 1 => outK y k ++ secB k (secAt y k)
theorem outK_all (y : D_api_Module) : outK y 12 = allB y := by
  rw [allB_eq]
  show S [0, 97, 115, 109, 1, 0, 0, 0] ++ secB 0 ⟨#[]⟩ ++ secB 1 _ ++ secB 2 _ ++ secB 3 _ ++ secB 4 _ ++ secB 5 _ ++ secB 6 _ ++ secB 7 _ ++ secB 8 _ ++ secB 9 _ ++ secB 10 _ ++ secB 11 _ = _
  rw [secB_none, ba_nil]
  rfl
theorem secAt_size {y : D_api_Module} (g : GoodW y) (k : Nat) (hk : k < 12) : (secAt y k).size ≤ 100000000 := by
  have h1 := listB_size wSig y.1 100 (fun x hx => wSig_size (g.typ.2 x hx))
  have h2 := listB_size wImport y.2.1 100 (fun x _ => wImport_size x)
  have h3 := listB_size wFunc y.2.2.1 100 (fun x _ => wFunc_size x)
  have h4 := tabB_size y
  have h5 := memB_size y
  have h6 := listB_size wGlobal y.2.2.2.2.2.2.1 100 (fun x _ => wGlobal_size x)
  have h7 := listB_size wExport y.2.2.2.2.2.2.2.1 100 (fun x _ => wExport_size x)
  have h8 := begB_size y
  have h9 := listB_size wElem y.2.2.2.2.2.2.2.2.2.1 200 (fun x hx => wElem_size (g.elem.2 x hx))
  have h10 := listB_size wCode y.2.2.1 2000000 (fun x hx => wCode_size (g.fun_.2 x hx))
  have h11 := listB_size wData y.2.2.2.2.2.2.2.2.2.2.1 100 (fun x hx => wData_size (g.data.2 x hx))
  have l1 := g.typ.1
  have l2 := g.imp.1
  have l3 := g.fun_.1
  have l6 := g.glo.1
  have l7 := g.exp.1
  have l9 := g.elem.1
  have l11 := g.data.1
  match k, hk with
  | 0, _ => exact Nat.zero_le _
  | 1, _ => show (listB wSig y.1).size ≤ _; omega
  | 2, _ => show (listB wImport y.2.1).size ≤ _; omega
  | 3, _ => show (listB wFunc y.2.2.1).size ≤ _; omega
  | 4, _ => show (tabB y).size ≤ _; omega
  | 5, _ => show (memB y).size ≤ _; omega
  | 6, _ => show (listB wGlobal _).size ≤ _; omega
  | 7, _ => show (listB wExport _).size ≤ _; omega
  | 8, _ => show (begB y).size ≤ _; omega
  | 9, _ => show (listB wElem _).size ≤ _; omega
  | 10, _ => show (listB wCode _).size ≤ _; omega
  | 11, _ => show (listB wData _).size ≤ _; omega
theorem outK_size {y : D_api_Module} (g : GoodW y) : ∀ k, k ≤ 12 → (outK y k).size ≤ 8 + k * 100000011
  | 0, _ => Nat.le_of_eq (S_size _)
  | k + 1, h => by
    show (outK y k ++ secB k (secAt y k)).size ≤ _
    rw [ba_size]
    have h1 := outK_size g k (by omega)
    have h2 := secB_size k (secAt y k)
    have h3 := secAt_size g k (by omega)
    omega
theorem idxS_0 (w : World) (s0 s1 s2 s3 s4 s5 s6 s7 s8 s9 s10 s11 : ByteArray) : (Instr.index 80 (.agg #[.string s0, .string s1, .string s2, .string s3, .string s4, .string s5, .string s6, .string s7, .string s8, .string s9, .string s10, .string s11]) (.int .i64 0)).run Tryz.prog w = .ok (.string s0) w := by kernel_rfl
theorem idxS_1 (w : World) (s0 s1 s2 s3 s4 s5 s6 s7 s8 s9 s10 s11 : ByteArray) : (Instr.index 80 (.agg #[.string s0, .string s1, .string s2, .string s3, .string s4, .string s5, .string s6, .string s7, .string s8, .string s9, .string s10, .string s11]) (.int .i64 1)).run Tryz.prog w = .ok (.string s1) w := by kernel_rfl
theorem idxS_2 (w : World) (s0 s1 s2 s3 s4 s5 s6 s7 s8 s9 s10 s11 : ByteArray) : (Instr.index 80 (.agg #[.string s0, .string s1, .string s2, .string s3, .string s4, .string s5, .string s6, .string s7, .string s8, .string s9, .string s10, .string s11]) (.int .i64 2)).run Tryz.prog w = .ok (.string s2) w := by kernel_rfl
theorem idxS_3 (w : World) (s0 s1 s2 s3 s4 s5 s6 s7 s8 s9 s10 s11 : ByteArray) : (Instr.index 80 (.agg #[.string s0, .string s1, .string s2, .string s3, .string s4, .string s5, .string s6, .string s7, .string s8, .string s9, .string s10, .string s11]) (.int .i64 3)).run Tryz.prog w = .ok (.string s3) w := by kernel_rfl
theorem idxS_4 (w : World) (s0 s1 s2 s3 s4 s5 s6 s7 s8 s9 s10 s11 : ByteArray) : (Instr.index 80 (.agg #[.string s0, .string s1, .string s2, .string s3, .string s4, .string s5, .string s6, .string s7, .string s8, .string s9, .string s10, .string s11]) (.int .i64 4)).run Tryz.prog w = .ok (.string s4) w := by kernel_rfl
theorem idxS_5 (w : World) (s0 s1 s2 s3 s4 s5 s6 s7 s8 s9 s10 s11 : ByteArray) : (Instr.index 80 (.agg #[.string s0, .string s1, .string s2, .string s3, .string s4, .string s5, .string s6, .string s7, .string s8, .string s9, .string s10, .string s11]) (.int .i64 5)).run Tryz.prog w = .ok (.string s5) w := by kernel_rfl
theorem idxS_6 (w : World) (s0 s1 s2 s3 s4 s5 s6 s7 s8 s9 s10 s11 : ByteArray) : (Instr.index 80 (.agg #[.string s0, .string s1, .string s2, .string s3, .string s4, .string s5, .string s6, .string s7, .string s8, .string s9, .string s10, .string s11]) (.int .i64 6)).run Tryz.prog w = .ok (.string s6) w := by kernel_rfl
theorem idxS_7 (w : World) (s0 s1 s2 s3 s4 s5 s6 s7 s8 s9 s10 s11 : ByteArray) : (Instr.index 80 (.agg #[.string s0, .string s1, .string s2, .string s3, .string s4, .string s5, .string s6, .string s7, .string s8, .string s9, .string s10, .string s11]) (.int .i64 7)).run Tryz.prog w = .ok (.string s7) w := by kernel_rfl
theorem idxS_8 (w : World) (s0 s1 s2 s3 s4 s5 s6 s7 s8 s9 s10 s11 : ByteArray) : (Instr.index 80 (.agg #[.string s0, .string s1, .string s2, .string s3, .string s4, .string s5, .string s6, .string s7, .string s8, .string s9, .string s10, .string s11]) (.int .i64 8)).run Tryz.prog w = .ok (.string s8) w := by kernel_rfl
theorem idxS_9 (w : World) (s0 s1 s2 s3 s4 s5 s6 s7 s8 s9 s10 s11 : ByteArray) : (Instr.index 80 (.agg #[.string s0, .string s1, .string s2, .string s3, .string s4, .string s5, .string s6, .string s7, .string s8, .string s9, .string s10, .string s11]) (.int .i64 9)).run Tryz.prog w = .ok (.string s9) w := by kernel_rfl
theorem idxS_10 (w : World) (s0 s1 s2 s3 s4 s5 s6 s7 s8 s9 s10 s11 : ByteArray) : (Instr.index 80 (.agg #[.string s0, .string s1, .string s2, .string s3, .string s4, .string s5, .string s6, .string s7, .string s8, .string s9, .string s10, .string s11]) (.int .i64 10)).run Tryz.prog w = .ok (.string s10) w := by kernel_rfl
theorem idxS_11 (w : World) (s0 s1 s2 s3 s4 s5 s6 s7 s8 s9 s10 s11 : ByteArray) : (Instr.index 80 (.agg #[.string s0, .string s1, .string s2, .string s3, .string s4, .string s5, .string s6, .string s7, .string s8, .string s9, .string s10, .string s11]) (.int .i64 11)).run Tryz.prog w = .ok (.string s11) w := by kernel_rfl
theorem idxI_0 (w : World) (s0 s1 s2 s3 s4 s5 s6 s7 s8 s9 s10 s11 : Int) : (Instr.index 149 (.agg #[.int .i64 s0, .int .i64 s1, .int .i64 s2, .int .i64 s3, .int .i64 s4, .int .i64 s5, .int .i64 s6, .int .i64 s7, .int .i64 s8, .int .i64 s9, .int .i64 s10, .int .i64 s11]) (.int .i64 0)).run Tryz.prog w = .ok (.int .i64 s0) w := by kernel_rfl
theorem idxI_1 (w : World) (s0 s1 s2 s3 s4 s5 s6 s7 s8 s9 s10 s11 : Int) : (Instr.index 149 (.agg #[.int .i64 s0, .int .i64 s1, .int .i64 s2, .int .i64 s3, .int .i64 s4, .int .i64 s5, .int .i64 s6, .int .i64 s7, .int .i64 s8, .int .i64 s9, .int .i64 s10, .int .i64 s11]) (.int .i64 1)).run Tryz.prog w = .ok (.int .i64 s1) w := by kernel_rfl
theorem idxI_2 (w : World) (s0 s1 s2 s3 s4 s5 s6 s7 s8 s9 s10 s11 : Int) : (Instr.index 149 (.agg #[.int .i64 s0, .int .i64 s1, .int .i64 s2, .int .i64 s3, .int .i64 s4, .int .i64 s5, .int .i64 s6, .int .i64 s7, .int .i64 s8, .int .i64 s9, .int .i64 s10, .int .i64 s11]) (.int .i64 2)).run Tryz.prog w = .ok (.int .i64 s2) w := by kernel_rfl
theorem idxI_3 (w : World) (s0 s1 s2 s3 s4 s5 s6 s7 s8 s9 s10 s11 : Int) : (Instr.index 149 (.agg #[.int .i64 s0, .int .i64 s1, .int .i64 s2, .int .i64 s3, .int .i64 s4, .int .i64 s5, .int .i64 s6, .int .i64 s7, .int .i64 s8, .int .i64 s9, .int .i64 s10, .int .i64 s11]) (.int .i64 3)).run Tryz.prog w = .ok (.int .i64 s3) w := by kernel_rfl
theorem idxI_4 (w : World) (s0 s1 s2 s3 s4 s5 s6 s7 s8 s9 s10 s11 : Int) : (Instr.index 149 (.agg #[.int .i64 s0, .int .i64 s1, .int .i64 s2, .int .i64 s3, .int .i64 s4, .int .i64 s5, .int .i64 s6, .int .i64 s7, .int .i64 s8, .int .i64 s9, .int .i64 s10, .int .i64 s11]) (.int .i64 4)).run Tryz.prog w = .ok (.int .i64 s4) w := by kernel_rfl
theorem idxI_5 (w : World) (s0 s1 s2 s3 s4 s5 s6 s7 s8 s9 s10 s11 : Int) : (Instr.index 149 (.agg #[.int .i64 s0, .int .i64 s1, .int .i64 s2, .int .i64 s3, .int .i64 s4, .int .i64 s5, .int .i64 s6, .int .i64 s7, .int .i64 s8, .int .i64 s9, .int .i64 s10, .int .i64 s11]) (.int .i64 5)).run Tryz.prog w = .ok (.int .i64 s5) w := by kernel_rfl
theorem idxI_6 (w : World) (s0 s1 s2 s3 s4 s5 s6 s7 s8 s9 s10 s11 : Int) : (Instr.index 149 (.agg #[.int .i64 s0, .int .i64 s1, .int .i64 s2, .int .i64 s3, .int .i64 s4, .int .i64 s5, .int .i64 s6, .int .i64 s7, .int .i64 s8, .int .i64 s9, .int .i64 s10, .int .i64 s11]) (.int .i64 6)).run Tryz.prog w = .ok (.int .i64 s6) w := by kernel_rfl
theorem idxI_7 (w : World) (s0 s1 s2 s3 s4 s5 s6 s7 s8 s9 s10 s11 : Int) : (Instr.index 149 (.agg #[.int .i64 s0, .int .i64 s1, .int .i64 s2, .int .i64 s3, .int .i64 s4, .int .i64 s5, .int .i64 s6, .int .i64 s7, .int .i64 s8, .int .i64 s9, .int .i64 s10, .int .i64 s11]) (.int .i64 7)).run Tryz.prog w = .ok (.int .i64 s7) w := by kernel_rfl
theorem idxI_8 (w : World) (s0 s1 s2 s3 s4 s5 s6 s7 s8 s9 s10 s11 : Int) : (Instr.index 149 (.agg #[.int .i64 s0, .int .i64 s1, .int .i64 s2, .int .i64 s3, .int .i64 s4, .int .i64 s5, .int .i64 s6, .int .i64 s7, .int .i64 s8, .int .i64 s9, .int .i64 s10, .int .i64 s11]) (.int .i64 8)).run Tryz.prog w = .ok (.int .i64 s8) w := by kernel_rfl
theorem idxI_9 (w : World) (s0 s1 s2 s3 s4 s5 s6 s7 s8 s9 s10 s11 : Int) : (Instr.index 149 (.agg #[.int .i64 s0, .int .i64 s1, .int .i64 s2, .int .i64 s3, .int .i64 s4, .int .i64 s5, .int .i64 s6, .int .i64 s7, .int .i64 s8, .int .i64 s9, .int .i64 s10, .int .i64 s11]) (.int .i64 9)).run Tryz.prog w = .ok (.int .i64 s9) w := by kernel_rfl
theorem idxI_10 (w : World) (s0 s1 s2 s3 s4 s5 s6 s7 s8 s9 s10 s11 : Int) : (Instr.index 149 (.agg #[.int .i64 s0, .int .i64 s1, .int .i64 s2, .int .i64 s3, .int .i64 s4, .int .i64 s5, .int .i64 s6, .int .i64 s7, .int .i64 s8, .int .i64 s9, .int .i64 s10, .int .i64 s11]) (.int .i64 10)).run Tryz.prog w = .ok (.int .i64 s10) w := by kernel_rfl
theorem idxI_11 (w : World) (s0 s1 s2 s3 s4 s5 s6 s7 s8 s9 s10 s11 : Int) : (Instr.index 149 (.agg #[.int .i64 s0, .int .i64 s1, .int .i64 s2, .int .i64 s3, .int .i64 s4, .int .i64 s5, .int .i64 s6, .int .i64 s7, .int .i64 s8, .int .i64 s9, .int .i64 s10, .int .i64 s11]) (.int .i64 11)).run Tryz.prog w = .ok (.int .i64 s11) w := by kernel_rfl
theorem idxS (k : Nat) (hk : k < 12) (w : World) (s0 s1 s2 s3 s4 s5 s6 s7 s8 s9 s10 s11 : ByteArray) : (Instr.index 80 (.agg #[.string s0, .string s1, .string s2, .string s3, .string s4, .string s5, .string s6, .string s7, .string s8, .string s9, .string s10, .string s11]) (.int .i64 (k : Int))).run Tryz.prog w = .ok (.string ([s0, s1, s2, s3, s4, s5, s6, s7, s8, s9, s10, s11].getD k ⟨#[]⟩)) w := by
  have hk' : k = 0 ∨ k = 1 ∨ k = 2 ∨ k = 3 ∨ k = 4 ∨ k = 5 ∨ k = 6 ∨ k = 7 ∨ k = 8 ∨ k = 9 ∨ k = 10 ∨ k = 11 := by omega
  rcases hk' with rfl | rfl | rfl | rfl | rfl | rfl | rfl | rfl | rfl | rfl | rfl | rfl
  · exact idxS_0 w _ _ _ _ _ _ _ _ _ _ _ _
  · exact idxS_1 w _ _ _ _ _ _ _ _ _ _ _ _
  · exact idxS_2 w _ _ _ _ _ _ _ _ _ _ _ _
  · exact idxS_3 w _ _ _ _ _ _ _ _ _ _ _ _
  · exact idxS_4 w _ _ _ _ _ _ _ _ _ _ _ _
  · exact idxS_5 w _ _ _ _ _ _ _ _ _ _ _ _
  · exact idxS_6 w _ _ _ _ _ _ _ _ _ _ _ _
  · exact idxS_7 w _ _ _ _ _ _ _ _ _ _ _ _
  · exact idxS_8 w _ _ _ _ _ _ _ _ _ _ _ _
  · exact idxS_9 w _ _ _ _ _ _ _ _ _ _ _ _
  · exact idxS_10 w _ _ _ _ _ _ _ _ _ _ _ _
  · exact idxS_11 w _ _ _ _ _ _ _ _ _ _ _ _
theorem idxI (k : Nat) (hk : k < 12) (w : World) (s0 s1 s2 s3 s4 s5 s6 s7 s8 s9 s10 s11 : Int) : (Instr.index 149 (.agg #[.int .i64 s0, .int .i64 s1, .int .i64 s2, .int .i64 s3, .int .i64 s4, .int .i64 s5, .int .i64 s6, .int .i64 s7, .int .i64 s8, .int .i64 s9, .int .i64 s10, .int .i64 s11]) (.int .i64 (k : Int))).run Tryz.prog w = .ok (.int .i64 ([s0, s1, s2, s3, s4, s5, s6, s7, s8, s9, s10, s11].getD k 0)) w := by
  have hk' : k = 0 ∨ k = 1 ∨ k = 2 ∨ k = 3 ∨ k = 4 ∨ k = 5 ∨ k = 6 ∨ k = 7 ∨ k = 8 ∨ k = 9 ∨ k = 10 ∨ k = 11 := by omega
  rcases hk' with rfl | rfl | rfl | rfl | rfl | rfl | rfl | rfl | rfl | rfl | rfl | rfl
  · exact idxI_0 w _ _ _ _ _ _ _ _ _ _ _ _
  · exact idxI_1 w _ _ _ _ _ _ _ _ _ _ _ _
  · exact idxI_2 w _ _ _ _ _ _ _ _ _ _ _ _
  · exact idxI_3 w _ _ _ _ _ _ _ _ _ _ _ _
  · exact idxI_4 w _ _ _ _ _ _ _ _ _ _ _ _
  · exact idxI_5 w _ _ _ _ _ _ _ _ _ _ _ _
  · exact idxI_6 w _ _ _ _ _ _ _ _ _ _ _ _
  · exact idxI_7 w _ _ _ _ _ _ _ _ _ _ _ _
  · exact idxI_8 w _ _ _ _ _ _ _ _ _ _ _ _
  · exact idxI_9 w _ _ _ _ _ _ _ _ _ _ _ _
  · exact idxI_10 w _ _ _ _ _ _ _ _ _ _ _ _
  · exact idxI_11 w _ _ _ _ _ _ _ _ _ _ _ _
theorem getD_at {α : Type} (l : List α) (d : α) {k : Nat} (h : k < l.length) : l.getD k d = l[k] := by rw [List.getD_eq_getElem?_getD, List.getElem?_eq_getElem h]; rfl
def manyL (M : List Int) (C : List ByteArray) : List ByteArray := List.zipWith (fun m c => if 0 < m then numB m ++ c else c) M C
def stepV (M : List Int) (C : List ByteArray) (k : Nat) : List Value := ((manyL M C).take k ++ C.drop k).map Value.string
theorem manyL_len {M : List Int} {C : List ByteArray} (hM : M.length = 12) (hC : C.length = 12) : (manyL M C).length = 12 := by unfold manyL; rw [List.length_zipWith, hM, hC]; rfl
theorem manyL_at {M : List Int} {C : List ByteArray} (hM : M.length = 12) (hC : C.length = 12) {k : Nat} (hk : k < 12) : (manyL M C).getD k ⟨#[]⟩ = if 0 < M.getD k 0 then numB (M.getD k 0) ++ C.getD k ⟨#[]⟩ else C.getD k ⟨#[]⟩ := by
  have h0 : k < (manyL M C).length := by rw [manyL_len hM hC]; exact hk
  rw [getD_at _ _ h0, getD_at M _ (by omega), getD_at C _ (by omega)]
  exact List.getElem_zipWith
theorem stepV_end {M : List Int} {C : List ByteArray} (hM : M.length = 12) (hC : C.length = 12) : stepV M C 12 = (manyL M C).map Value.string := by
  unfold stepV
  rw [List.take_of_length_le (by rw [manyL_len hM hC]; exact Nat.le_refl _), List.drop_eq_nil_of_le (by omega), List.append_nil]
theorem stepV_cell {M : List Int} {C : List ByteArray} (hM : M.length = 12) (hC : C.length = 12) {k : Nat} (hk : k < 12) : (stepV M C k)[k]? = some (.string (C.getD k ⟨#[]⟩)) := by
  have hl := manyL_len hM hC
  unfold stepV
  rw [List.getElem?_map, List.getElem?_append_right (by rw [List.length_take, hl]; omega), List.length_take, hl, Nat.min_eq_left (by omega), Nat.sub_self, List.getElem?_drop, Nat.add_zero, List.getElem?_eq_getElem (by omega), getD_at C _ (by omega)]
  rfl
theorem stepV_set {M : List Int} {C : List ByteArray} (hM : M.length = 12) (hC : C.length = 12) {k : Nat} (hk : k < 12) : (stepV M C k).set k (.string ((manyL M C).getD k ⟨#[]⟩)) = stepV M C (k + 1) := by
  have hl := manyL_len hM hC
  have hkl : k < (manyL M C).length := by omega
  unfold stepV
  rw [← List.map_set, List.set_append_right _ _ (by rw [List.length_take, hl]; omega), List.length_take, hl, Nat.min_eq_left (by omega), Nat.sub_self, List.drop_eq_getElem_cons (by omega : k < C.length), List.set_cons_zero, List.take_succ_eq_append_getElem hkl, List.append_assoc, getD_at _ _ hkl]
  rfl
theorem stepV_skip {M : List Int} {C : List ByteArray} (hM : M.length = 12) (hC : C.length = 12) {k : Nat} (hk : k < 12) (h : (manyL M C).getD k ⟨#[]⟩ = C.getD k ⟨#[]⟩) : stepV M C k = stepV M C (k + 1) := by
  rw [← stepV_set hM hC hk, h]
  refine (List.ext_getElem? fun i => ?_)
  rw [List.getElem?_set]
  by_cases e : k = i
  · subst e
    rw [if_pos rfl, stepV_cell hM hC hk]
    have hl := manyL_len hM hC
    have : k < (stepV M C k).length := by unfold stepV; rw [List.length_map, List.length_append, List.length_take, List.length_drop, hl, hC]; omega
    rw [if_pos this]
  · rw [if_neg e]
theorem listB_of {α : Type} {f : α → ByteArray} {l : List α} {n : Nat} {t : ByteArray} (hn : l.length = n) (ht : t = catB f l) : (if 0 < (n : Int) then numB n ++ t else t) = listB f l := by
  subst hn ht
  unfold listB
  by_cases h : l.length = 0
  · rw [if_neg (by omega), if_pos h]
    have : l = [] := List.length_eq_zero_iff.1 h
    subst this; rfl
  · rw [if_pos (by omega), if_neg h]
def mzL (n1 n2 n3 n4 n5 n6 n7 : Nat) : List Int := [0, (n1 : Int), (n2 : Int), (n3 : Int), 0, 0, (n4 : Int), (n5 : Int), 0, (n6 : Int), (n3 : Int), (n7 : Int)]
def ctL (t1 t2 t3 t6 t7 t9 t10 t11 : ByteArray) : List ByteArray := [⟨#[]⟩, t1, t2, t3, ⟨#[]⟩, ⟨#[]⟩, t6, t7, ⟨#[]⟩, t9, t10, t11]
theorem mzL_len (n1 n2 n3 n4 n5 n6 n7 : Nat) : (mzL n1 n2 n3 n4 n5 n6 n7).length = 12 := rfl
theorem ctL_len (t1 t2 t3 t6 t7 t9 t10 t11 : ByteArray) : (ctL t1 t2 t3 t6 t7 t9 t10 t11).length = 12 := rfl
theorem mzL_le {n1 n2 n3 n4 n5 n6 n7 : Nat} (h1 : (n1 : Int) ≤ 16) (h2 : (n2 : Int) ≤ 16) (h3 : (n3 : Int) ≤ 16) (h4 : (n4 : Int) ≤ 16) (h5 : (n5 : Int) ≤ 16) (h6 : (n6 : Int) ≤ 16) (h7 : (n7 : Int) ≤ 16) {k : Nat} (hk : k < 12) : 0 ≤ (mzL n1 n2 n3 n4 n5 n6 n7).getD k 0 ∧ (mzL n1 n2 n3 n4 n5 n6 n7).getD k 0 ≤ 16 := by
  have hk' : k = 0 ∨ k = 1 ∨ k = 2 ∨ k = 3 ∨ k = 4 ∨ k = 5 ∨ k = 6 ∨ k = 7 ∨ k = 8 ∨ k = 9 ∨ k = 10 ∨ k = 11 := by omega
  rcases hk' with rfl | rfl | rfl | rfl | rfl | rfl | rfl | rfl | rfl | rfl | rfl | rfl
  all_goals (simp only [mzL, List.getD_cons_zero, List.getD_cons_succ]; omega)
theorem ctL_le {t1 t2 t3 t6 t7 t9 t10 t11 : ByteArray} (h1 : t1.size ≤ 100000000) (h2 : t2.size ≤ 100000000) (h3 : t3.size ≤ 100000000) (h6 : t6.size ≤ 100000000) (h7 : t7.size ≤ 100000000) (h9 : t9.size ≤ 100000000) (h10 : t10.size ≤ 100000000) (h11 : t11.size ≤ 100000000) {k : Nat} (hk : k < 12) : ((ctL t1 t2 t3 t6 t7 t9 t10 t11).getD k ⟨#[]⟩).size ≤ 100000000 := by
  have hk' : k = 0 ∨ k = 1 ∨ k = 2 ∨ k = 3 ∨ k = 4 ∨ k = 5 ∨ k = 6 ∨ k = 7 ∨ k = 8 ∨ k = 9 ∨ k = 10 ∨ k = 11 := by omega
  have h0 : (⟨#[]⟩ : ByteArray).size ≤ 100000000 := Nat.zero_le _
  rcases hk' with rfl | rfl | rfl | rfl | rfl | rfl | rfl | rfl | rfl | rfl | rfl | rfl
  all_goals assumption
theorem stp_end {n1 n2 n3 n4 n5 n6 n7 : Nat} {t1 t2 t3 t6 t7 t9 t10 t11 f1 f2 f3 f6 f7 f9 f10 f11 : ByteArray} (h1 : (if 0 < (n1 : Int) then numB n1 ++ t1 else t1) = f1) (h2 : (if 0 < (n2 : Int) then numB n2 ++ t2 else t2) = f2) (h3 : (if 0 < (n3 : Int) then numB n3 ++ t3 else t3) = f3) (h6 : (if 0 < (n4 : Int) then numB n4 ++ t6 else t6) = f6) (h7 : (if 0 < (n5 : Int) then numB n5 ++ t7 else t7) = f7) (h9 : (if 0 < (n6 : Int) then numB n6 ++ t9 else t9) = f9) (h10 : (if 0 < (n3 : Int) then numB n3 ++ t10 else t10) = f10) (h11 : (if 0 < (n7 : Int) then numB n7 ++ t11 else t11) = f11) :
    stepV (mzL n1 n2 n3 n4 n5 n6 n7) (ctL t1 t2 t3 t6 t7 t9 t10 t11) 12 = [.string ⟨#[]⟩, .string f1, .string f2, .string f3, .string ⟨#[]⟩, .string ⟨#[]⟩, .string f6, .string f7, .string ⟨#[]⟩, .string f9, .string f10, .string f11] := by
  rw [stepV_end rfl rfl, ← h1, ← h2, ← h3, ← h6, ← h7, ← h9, ← h10, ← h11]
  rfl
theorem res12 {w : World} {B : Nat} {ty : TypeId} {cs : List Value} (h : Blk w B ty cs) (hl : cs.length = 12) (a0 a1 a2 a3 a4 a5 a6 a7 a8 a9 a10 a11 : Value) :
    Blk ((((((((((((w.setCell ⟨B, 0, none⟩ a0).setCell ⟨B, 1, none⟩ a1).setCell ⟨B, 2, none⟩ a2).setCell ⟨B, 3, none⟩ a3).setCell ⟨B, 4, none⟩ a4).setCell ⟨B, 5, none⟩ a5).setCell ⟨B, 6, none⟩ a6).setCell ⟨B, 7, none⟩ a7).setCell ⟨B, 8, none⟩ a8).setCell ⟨B, 9, none⟩ a9).setCell ⟨B, 10, none⟩ a10).setCell ⟨B, 11, none⟩ a11) B ty [a0, a1, a2, a3, a4, a5, a6, a7, a8, a9, a10, a11] := by
  match cs, hl with
  | [c0, c1, c2, c3, c4, c5, c6, c7, c8, c9, c10, c11], _ => exact (((((((((((h.set 0 a0).set 1 a1).set 2 a2).set 3 a3).set 4 a4).set 5 a5).set 6 a6).set 7 a7).set 8 a8).set 9 a9).set 10 a10).set 11 a11
theorem below12 {w0 w : World} {B m : Nat} (h : Below m w0 w) (hB : m ≤ B) (a0 a1 a2 a3 a4 a5 a6 a7 a8 a9 a10 a11 : Value) : Below m w0 ((((((((((((w.setCell ⟨B, 0, none⟩ a0).setCell ⟨B, 1, none⟩ a1).setCell ⟨B, 2, none⟩ a2).setCell ⟨B, 3, none⟩ a3).setCell ⟨B, 4, none⟩ a4).setCell ⟨B, 5, none⟩ a5).setCell ⟨B, 6, none⟩ a6).setCell ⟨B, 7, none⟩ a7).setCell ⟨B, 8, none⟩ a8).setCell ⟨B, 9, none⟩ a9).setCell ⟨B, 10, none⟩ a10).setCell ⟨B, 11, none⟩ a11) :=
  (((((((((((h.setCell hB a0).setCell hB a1).setCell hB a2).setCell hB a3).setCell hB a4).setCell hB a5).setCell hB a6).setCell hB a7).setCell hB a8).setCell hB a9).setCell hB a10).setCell hB a11
theorem secIdx (y : D_api_Module) (k : Nat) (hk : k < 12) (w : World) : (Instr.index 80 (.agg (secVals y)) (.int .i64 (k : Int))).run Tryz.prog w = .ok (.string (secAt y k)) w :=
  idxS k hk w _ _ _ _ _ _ _ _ _ _ _ _
end Go.Proofs.YthoalneknadheaaGreatDoor
