/-
  MODULES AS BYTES, plain: what Write answers. No program, no condition.
-/
import Derived.Test.YthoalneknadheaaGreatDoorGBinWrites19
import Derived.Test.YthoalneknadheaaGreatDoorGBinWrites31
import Derived.Test.YthoalneknadheaaGreatDoorGBinWrites33
namespace Go.Proofs.YthoalneknadheaaGreatDoor
open Go.RowKit Go.Lib

def placeB (n : Int) : ByteArray := S [0, 65] ++ S (encS 9 n) ++ S [11]
def wSig (y : D_api_Sig) : ByteArray := S [96] ++ kindsB y.1 ++ kindsB y.2.1
def wImport (y : D_api_Import) : ByteArray := S [4, 104, 111, 115, 116] ++ nameX y.1 ++ S [0] ++ numB y.2.1
def wFunc (y : D_api_Func) : ByteArray := numB y.1
def wCode (y : D_api_Func) : ByteArray := codeB y.2.1 (nwM (y.2.2.1.map itOf))
def wGlobal (y : D_api_Global) : ByteArray := S [byteOf y.1, if y.2.1 = true then 1 else 0, if y.1 = 127 then 65 else 66] ++ S (encS 9 y.2.2.1) ++ S [11]
def wExport (y : D_api_Export) : ByteArray := nameX y.1 ++ S [0] ++ numB y.2.1
def wElem (y : D_api_Elem) : ByteArray := placeB y.1 ++ numB y.2.1.length ++ catB numB y.2.1
def wData (y : D_api_Data) : ByteArray := placeB y.1 ++ numB y.2.1.size ++ y.2.1
def tabB (y : D_api_Module) : ByteArray := if 0 < y.2.2.2.1 then S [1, 112, 0] ++ numB y.2.2.2.1 else ⟨#[]⟩
def memB (y : D_api_Module) : ByteArray := if 0 < y.2.2.2.2.2.1 then S [1, 1] ++ numB y.2.2.2.2.1 ++ numB y.2.2.2.2.2.1 else ⟨#[]⟩
def begB (y : D_api_Module) : ByteArray := if 0 < y.2.2.2.2.2.2.2.2.1 then numB (y.2.2.2.2.2.2.2.2.1 - 1) else ⟨#[]⟩
def secs (y : D_api_Module) : List (Int × ByteArray) :=
  [(1, listB wSig y.1), (2, listB wImport y.2.1), (3, listB wFunc y.2.2.1), (4, tabB y), (5, memB y), (6, listB wGlobal y.2.2.2.2.2.2.1), (7, listB wExport y.2.2.2.2.2.2.2.1), (8, begB y),
   (9, listB wElem y.2.2.2.2.2.2.2.2.2.1), (10, listB wCode y.2.2.1), (11, listB wData y.2.2.2.2.2.2.2.2.2.2.1)]
def allB (y : D_api_Module) : ByteArray := S [0, 97, 115, 109, 1, 0, 0, 0] ++ catB (fun p => secB p.1 p.2) (secs y)
def wModX (y : D_api_Module) : ByteArray := if fModule y = 0 ∧ (allB y).size ≤ 4096 then allB y else ⟨#[]⟩
def wModE (y : D_api_Module) : Int := if fModule y = 0 then (if (allB y).size ≤ 4096 then 0 else 2) else fModule y
end Go.Proofs.YthoalneknadheaaGreatDoor
namespace Go.Proofs.YthoalneknadheaaGreatDoor
open Go.RowKit

theorem orEz {a b : Int} (h : orE a b = 0) : a = 0 ∧ b = 0 := by
  unfold orE at h
  by_cases g : a = 0
  · rw [if_pos g] at h; exact ⟨g, h⟩
  · rw [if_neg g] at h; exact absurd h g
theorem foldEz {α : Type} {F : α → Int} {l : List α} (h : foldE F l = 0) : ∀ x ∈ l, F x = 0 := by
  induction l with
  | nil => intro x hx; cases hx
  | cons z r ih =>
    obtain ⟨h1, h2⟩ := orEz (show orE (F z) (foldE F r) = 0 from h)
    intro x hx
    rcases List.mem_cons.1 hx with rfl | hx
    · exact h1
    · exact ih h2 x hx
theorem ndEz {b : Bool} {e : Int} (he : e ≠ 0) (h : ndE b e = 0) : b = true := by
  unfold ndE at h
  cases b
  · exact absurd h he
  · rfl
theorem eachEz {α : Type} {F : α → Int} {l : List α} {m : Int} (h : eachE F l m = 0) : (l.length : Int) ≤ m ∧ ∀ x ∈ l, F x = 0 := by
  obtain ⟨h1, h2⟩ := orEz (show orE _ _ = 0 from h)
  exact ⟨of_decide_eq_true (ndEz (by decide) h1), foldEz h2⟩
theorem fIdxz {n : Int} (h : fIdx n = 0) : 0 ≤ n ∧ n ≤ 4294967295 := of_decide_eq_true (ndEz (by decide) h)
theorem fPlcz {n : Int} (h : fPlc n = 0) : -2147483648 ≤ n ∧ n ≤ 2147483647 := of_decide_eq_true (ndEz (by decide) h)
theorem fKindz {n : Int} (h : fKind n = 0) : n = 127 ∨ n = 126 := of_decide_eq_true (ndEz (by decide) h)
theorem kind8 {n : Int} (h : n = 127 ∨ n = 126) : 0 ≤ n ∧ n ≤ 255 := by omega
theorem gSig {y : D_api_Sig} (h : fSig y = 0) : y.1.length ≤ 4 ∧ y.2.1.length ≤ 1 ∧ (∀ k ∈ y.1, 0 ≤ k ∧ k ≤ 255) ∧ ∀ k ∈ y.2.1, 0 ≤ k ∧ k ≤ 255 := by
  obtain ⟨h1, h2⟩ := orEz (show orE _ _ = 0 from h)
  obtain ⟨a1, a2⟩ := eachEz h1
  obtain ⟨b1, b2⟩ := eachEz h2
  exact ⟨by omega, by omega, fun k hk => kind8 (fKindz (a2 k hk)), fun k hk => kind8 (fKindz (b2 k hk))⟩
theorem gImport {y : D_api_Import} (h : fImport y = 0) : nameE y.1 = 0 ∧ 0 ≤ y.2.1 ∧ y.2.1 ≤ 4294967295 := by
  obtain ⟨h1, h2⟩ := orEz (show orE _ _ = 0 from h)
  exact ⟨h1, fIdxz h2⟩
theorem gExport {y : D_api_Export} (h : fExport y = 0) : nameE y.1 = 0 ∧ 0 ≤ y.2.1 ∧ y.2.1 ≤ 4294967295 := by
  obtain ⟨h1, h2⟩ := orEz (show orE _ _ = 0 from h)
  exact ⟨h1, fIdxz h2⟩
theorem gFunc {y : D_api_Func} (h : fFunc y = 0) : 0 ≤ y.1 ∧ y.1 ≤ 4294967295 ∧ y.2.1.length ≤ 16 ∧ ∀ k ∈ y.2.1, 0 ≤ k ∧ k ≤ 255 := by
  obtain ⟨h1, h2⟩ := orEz (show orE _ _ = 0 from h)
  obtain ⟨h2, _⟩ := orEz h2
  obtain ⟨a1, a2⟩ := eachEz h2
  obtain ⟨i1, i2⟩ := fIdxz h1
  exact ⟨i1, i2, by omega, fun k hk => kind8 (fKindz (a2 k hk))⟩
theorem gGlobal {y : D_api_Global} (h : fGlobal y = 0) : y.1 = 127 ∨ y.1 = 126 := by
  obtain ⟨h1, _⟩ := orEz (show orE _ _ = 0 from h)
  exact fKindz h1
theorem gElem {y : D_api_Elem} (h : fElem y = 0) : -2147483648 ≤ y.1 ∧ y.1 ≤ 2147483647 ∧ y.2.1.length ≤ 16 ∧ ∀ n ∈ y.2.1, 0 ≤ n ∧ n ≤ 4294967295 := by
  obtain ⟨h1, h2⟩ := orEz (show orE _ _ = 0 from h)
  obtain ⟨a1, a2⟩ := eachEz h2
  obtain ⟨p1, p2⟩ := fPlcz h1
  exact ⟨p1, p2, by omega, fun n hn => fIdxz (a2 n hn)⟩
theorem gData {y : D_api_Data} (h : fData y = 0) : -2147483648 ≤ y.1 ∧ y.1 ≤ 2147483647 ∧ y.2.1.size ≤ 64 := by
  obtain ⟨h1, h2⟩ := orEz (show orE _ _ = 0 from h)
  obtain ⟨p1, p2⟩ := fPlcz h1
  have := of_decide_eq_true (ndEz (by decide) h2)
  exact ⟨p1, p2, by omega⟩
structure GoodW (y : D_api_Module) : Prop where
  typ : y.1.length ≤ 16 ∧ ∀ x ∈ y.1, fSig x = 0
  imp : y.2.1.length ≤ 16 ∧ ∀ x ∈ y.2.1, fImport x = 0
  fun_ : y.2.2.1.length ≤ 16 ∧ ∀ x ∈ y.2.2.1, fFunc x = 0
  tab : 0 ≤ y.2.2.2.1 ∧ y.2.2.2.1 ≤ 16
  pag : 0 ≤ y.2.2.2.2.1 ∧ y.2.2.2.2.1 ≤ y.2.2.2.2.2.1 ∧ y.2.2.2.2.2.1 ≤ 8
  glo : y.2.2.2.2.2.2.1.length ≤ 8 ∧ ∀ x ∈ y.2.2.2.2.2.2.1, fGlobal x = 0
  exp : y.2.2.2.2.2.2.2.1.length ≤ 8 ∧ ∀ x ∈ y.2.2.2.2.2.2.2.1, fExport x = 0
  start : 0 ≤ y.2.2.2.2.2.2.2.2.1 ∧ y.2.2.2.2.2.2.2.2.1 ≤ 4294967295
  elem : y.2.2.2.2.2.2.2.2.2.1.length ≤ 4 ∧ ∀ x ∈ y.2.2.2.2.2.2.2.2.2.1, fElem x = 0
  data : y.2.2.2.2.2.2.2.2.2.2.1.length ≤ 4 ∧ ∀ x ∈ y.2.2.2.2.2.2.2.2.2.2.1, fData x = 0
theorem goodW {y : D_api_Module} (h : fModule y = 0) : GoodW y := by
  unfold fModule at h
  obtain ⟨h, _⟩ := orEz h
  obtain ⟨h, hd⟩ := orEz h
  obtain ⟨h, hel⟩ := orEz h
  obtain ⟨h, hst⟩ := orEz h
  obtain ⟨h, hex⟩ := orEz h
  obtain ⟨h, hgl⟩ := orEz h
  obtain ⟨h, hm⟩ := orEz h
  obtain ⟨h, hp⟩ := orEz h
  obtain ⟨h, ht2⟩ := orEz h
  obtain ⟨h, ht1⟩ := orEz h
  obtain ⟨h, hfu⟩ := orEz h
  obtain ⟨hty, him⟩ := orEz h
  obtain ⟨t1, t2⟩ := eachEz hty
  obtain ⟨i1, i2⟩ := eachEz him
  obtain ⟨f1, f2⟩ := eachEz hfu
  obtain ⟨g1, g2⟩ := eachEz hgl
  obtain ⟨e1, e2⟩ := eachEz hex
  obtain ⟨l1, l2⟩ := eachEz hel
  obtain ⟨d1, d2⟩ := eachEz hd
  have q1 := of_decide_eq_true (ndEz (by decide) ht1)
  have q2 := of_decide_eq_true (ndEz (by decide) ht2)
  have q3 : 0 ≤ y.2.2.2.2.1 ∧ y.2.2.2.2.1 ≤ y.2.2.2.2.2.1 := of_decide_eq_true (ndEz (by decide) hp)
  have q4 := of_decide_eq_true (ndEz (by decide) hm)
  exact ⟨⟨by omega, t2⟩, ⟨by omega, i2⟩, ⟨by omega, f2⟩, ⟨q1, q2⟩, ⟨q3.1, q3.2, q4⟩, ⟨by omega, g2⟩, ⟨by omega, e2⟩, fIdxz hst, ⟨by omega, l2⟩, ⟨by omega, d2⟩⟩
theorem nameX_size (s : ByteArray) : (nameX s).size ≤ 17 := by
  rcases name_cases s with ⟨_, h, _⟩ | ⟨h1, _, h, _⟩ | ⟨_, _, h, _⟩
  · rw [h]; exact Nat.zero_le _
  · rw [h, ba_size, S_size]; simp; omega
  · rw [h]; exact Nat.zero_le _
theorem nameX_good {s : ByteArray} (h : nameE s = 0) : s.size ≤ 16 ∧ nameX s = oneB s.size ++ s := by
  rcases name_cases s with ⟨_, _, e⟩ | ⟨h1, _, h2, _⟩ | ⟨_, _, _, e⟩
  · rw [e] at h; exact absurd h (by decide)
  · exact ⟨h1, h2⟩
  · rw [e] at h; exact absurd h (by decide)
theorem encS9_size (n : Int) : (S (encS 9 n)).size ≤ 10 := by rw [S_size]; exact encS_len 9 n
theorem placeB_size (n : Int) : (placeB n).size ≤ 13 := by
  unfold placeB
  rw [ba_size, ba_size]
  have := encS9_size n
  have h1 : (S [0, 65]).size = 2 := S_size _
  have h2 : (S [11]).size = 1 := S_size _
  omega
theorem wSig_size {y : D_api_Sig} (h : fSig y = 0) : (wSig y).size ≤ 100 := by
  obtain ⟨h1, h2, _, _⟩ := gSig h
  unfold wSig
  rw [ba_size, ba_size]
  have a1 := kindsB_size y.1
  have a2 := kindsB_size y.2.1
  have a3 : (S [96]).size = 1 := S_size _
  omega
theorem wImport_size (y : D_api_Import) : (wImport y).size ≤ 100 := by
  unfold wImport
  rw [ba_size, ba_size, ba_size]
  have a1 := nameX_size y.1
  have a2 := numB_size y.2.1
  have a3 : (S [4, 104, 111, 115, 116]).size = 5 := S_size _
  have a4 : (S [0]).size = 1 := S_size _
  omega
theorem wExport_size (y : D_api_Export) : (wExport y).size ≤ 100 := by
  unfold wExport
  rw [ba_size, ba_size]
  have a1 := nameX_size y.1
  have a2 := numB_size y.2.1
  have a4 : (S [0]).size = 1 := S_size _
  omega
theorem wFunc_size (y : D_api_Func) : (wFunc y).size ≤ 100 := by
  have := numB_size y.1
  unfold wFunc; omega
theorem wGlobal_size (y : D_api_Global) : (wGlobal y).size ≤ 100 := by
  unfold wGlobal
  rw [ba_size, ba_size]
  have a1 := encS9_size y.2.2.1
  have a3 : (S [byteOf y.1, if y.2.1 = true then 1 else 0, if y.1 = 127 then 65 else 66]).size = 3 := S_size _
  have a4 : (S [11]).size = 1 := S_size _
  omega
theorem wElem_size {y : D_api_Elem} (h : fElem y = 0) : (wElem y).size ≤ 200 := by
  obtain ⟨_, _, h1, _⟩ := gElem h
  unfold wElem
  rw [ba_size, ba_size]
  have a1 := placeB_size y.1
  have a2 := numB_size y.2.1.length
  have a3 := catB_size numB 10 y.2.1 (fun x _ => numB_size x)
  omega
theorem wData_size {y : D_api_Data} (h : fData y = 0) : (wData y).size ≤ 100 := by
  obtain ⟨_, _, h1⟩ := gData h
  unfold wData
  rw [ba_size, ba_size]
  have a1 := placeB_size y.1
  have a2 := numB_size y.2.1.size
  omega
theorem nwM_size (l : List It) : (nwM l).size ≤ 1000000 := by
  unfold nwM
  by_cases h : ncM l = 0
  · rw [if_pos h, S_size]
    have hn : l.length ≤ 200 ∧ chkR itC It.op l 0 ([(-1, 2)], false) = 0 := by
      unfold ncM at h
      by_cases g : 200 < l.length
      · rw [if_pos g] at h; exact absurd h (by decide)
      · rw [if_neg g] at h; exact ⟨by omega, h⟩
    have hb := flat_bound l 400 200 hn.1 (fun x hx => itW_len x (chk_zero l 0 _ hn.2 x hx))
    omega
  · rw [if_neg h]; exact Nat.zero_le _
theorem wCode_size {y : D_api_Func} (h : fFunc y = 0) : (wCode y).size ≤ 2000000 := by
  obtain ⟨_, _, h1, _⟩ := gFunc h
  unfold wCode codeB
  have hall : (codeAll y.2.1 (nwM (y.2.2.1.map itOf))).size ≤ 1500000 := by
    unfold codeAll
    rw [ba_size, ba_size]
    have a1 := numB_size (runsB y.2.1.length y.2.1).length
    have a2 := runs_size y.2.1.length y.2.1
    have a3 := nwM_size (y.2.2.1.map itOf)
    omega
  rw [ba_size]
  have a1 := numB_size (codeAll y.2.1 (nwM (y.2.2.1.map itOf))).size
  omega
theorem listB_size {α : Type} (f : α → ByteArray) (l : List α) (c : Nat) (h : ∀ x ∈ l, (f x).size ≤ c) : (listB f l).size ≤ 10 + c * l.length := by
  unfold listB
  by_cases g : l.length = 0
  · rw [if_pos g]; exact Nat.zero_le _
  · rw [if_neg g, ba_size]
    have a1 := numB_size l.length
    have a2 := catB_size f c l h
    omega
end Go.Proofs.YthoalneknadheaaGreatDoor
namespace Go.Proofs.YthoalneknadheaaGreatDoor
open Go.RowKit

theorem sliceR_bel {W w' : World} {s b : Nat} {α : Type} {R R' : List Value → α → Prop} {cs : List Value} {ys : List α} (h : sliceR W s b R cs ys) (hb : Below W.heap.size W w') (hR : ∀ c y, R c y → R' c y) : sliceR w' s b R' cs ys := by
  obtain ⟨v, css, h1, h2, h3, h4, h5⟩ := h
  exact ⟨v, css, h1, h2.below hb, h3, h4, fun i a b => ⟨(h5 i a b).1, hR _ _ (h5 i a b).2⟩⟩
theorem module_bel {W w' : World} {cs : List Value} {y : D_api_Module} (h : R_api_Module W cs y) (hb : Below W.heap.size W w') : R_api_Module w' cs y := by
  obtain ⟨_, _, e0, h1, _, _, e1, h2, _, _, e2, h3, _, _, e3, i3, _, _, e4, i4, _, _, e5, i5, _, _, e6, h4, _, _, e7, h5, _, _, e8, i8, _, _, e9, h6, _, _, e10, h7, e11⟩ := h
  refine ⟨_, _, e0, sliceR_bel h1 hb ?_, _, _, e1, sliceR_bel h2 hb (fun _ _ g => g), _, _, e2, sliceR_bel h3 hb ?_, _, _, e3, i3, _, _, e4, i4, _, _, e5, i5, _, _, e6, sliceR_bel h4 hb (fun _ _ g => g), _, _, e7, sliceR_bel h5 hb (fun _ _ g => g), _, _, e8, i8, _, _, e9, sliceR_bel h6 hb ?_, _, _, e10, sliceR_bel h7 hb (fun _ _ g => g), e11⟩
  · rintro c z ⟨_, _, e, r1, _, _, e2, r2, e3⟩
    exact ⟨_, _, e, sliceR_bel r1 hb (fun _ _ g => g), _, _, e2, sliceR_bel r2 hb (fun _ _ g => g), e3⟩
  · rintro c z ⟨_, _, e, r0, _, _, e1, r1, _, _, e2, r2, e3⟩
    refine ⟨_, _, e, r0, _, _, e1, sliceR_bel r1 hb (fun _ _ g => g), _, _, e2, sliceR_bel r2 hb ?_, e3⟩
    rintro c z ⟨_, _, f, q0, _, _, f1, q1, _, _, f2, q2, _, _, f3, q3, f4⟩
    exact ⟨_, _, f, q0, _, _, f1, q1, _, _, f2, q2, _, _, f3, sliceR_bel q3 hb (fun _ _ g => g), f4⟩
  · rintro c z ⟨_, _, e, r1, _, _, e2, r2, e3⟩
    exact ⟨_, _, e, r1, _, _, e2, sliceR_bel r2 hb (fun _ _ g => g), e3⟩
end Go.Proofs.YthoalneknadheaaGreatDoor
