/-
  NAMES: both sides. Condition: unicode/utf8's two tables hold what the row lists (the proofs are XWLebNames').
-/
import Derived.Test.YtakfineljffoaaaGreatDoorGBinReads6
import Derived.Test.YtakfineljffoaaaGreatDoorGBinReads7
import Derived.Test.YtakfineljffoaaaGreatDoorGBinReads8
import Derived.Test.YtakfineljffoaaaGreatDoorGBinReads13
import Derived.Test.YtakfineljffoaaaGreatDoorGBinReads14
import Derived.Test.YtakfineljffoaaaGreatDoorGBinReads15
import Derived.Test.YtakfineljffoaaaGreatDoorGBinReads17
import Derived.Test.YtakfineljffoaaaGreatDoorGBinReads18
import Derived.Lib.LaidU8T
import Derived.Lib.OthersKept
namespace Go.Proofs.YtakfineljffoaaaGreatDoor
open Go.RowKit

abbrev UTabs (w : World) : Prop := Lib.Utf8Tabs (Tryz.laysValid_ren.g 3) (Tryz.laysValid_ren.g 4) w
theorem u8extra : U8Extra Tryz.prog Tryz.laysValid_ren := ⟨by kernel_rfl, by kernel_rfl, by kernel_rfl, by kernel_rfl, by kernel_rfl, by kernel_rfl, by kernel_rfl⟩
theorem valid_any (s : ByteArray) (hs : s.size ≤ 9223372036854775807) (w : World) (hT : UTabs w) :
    Calls Tryz.prog 116 #[.string s] w fun e w' => e = .returned (.bool (Lib.validD s.data.toList)) ∧ Below w.heap.size w w' :=
  Any.utf8_ValidString Tryz.laysValid s w hs hT

theorem UTabs.below {w w' : World} (h : UTabs w) (hb : Below w.heap.size w w') : UTabs w' := Utf8Tabs_below h hb
theorem encU_one (n : Nat) (h : n < 128) : encU 9 n = [byteOf n] := encU_last h
/-- a name, written -/
def nameX (s : ByteArray) : ByteArray := if 16 < s.size then ⟨#[]⟩ else if Lib.validD s.data.toList = true then S [byteOf s.size] ++ s else ⟨#[]⟩
def nameE (s : ByteArray) : Int := if 16 < s.size then 2 else if Lib.validD s.data.toList = true then 0 else 4
theorem name_cases (s : ByteArray) : (16 < s.size ∧ nameX s = ⟨#[]⟩ ∧ nameE s = 2) ∨ (s.size ≤ 16 ∧ Lib.validD s.data.toList = true ∧ nameX s = S [byteOf s.size] ++ s ∧ nameE s = 0) ∨ (s.size ≤ 16 ∧ Lib.validD s.data.toList = false ∧ nameX s = ⟨#[]⟩ ∧ nameE s = 4) := by
  unfold nameX nameE
  by_cases h : 16 < s.size
  · rw [if_pos h, if_pos h]; exact .inl ⟨h, rfl, rfl⟩
  · rw [if_neg h, if_neg h]
    cases hv : Lib.validD s.data.toList
    · rw [if_neg (by decide), if_neg (by decide)]; exact .inr (.inr ⟨by omega, rfl, rfl, rfl⟩)
    · rw [if_pos rfl, if_pos rfl]; exact .inr (.inl ⟨by omega, rfl, rfl, rfl⟩)
end Go.Proofs.YtakfineljffoaaaGreatDoor
namespace Go.Proofs.YtakfineljffoaaaGreatDoor
open Go.RowKit Go.Lib

/-- the cursor at block R, s left; the instruction at block X -/
structure DuC (w : World) (R X : Nat) (all : Int) (s : ByteArray × Int) (op : Nat) (A B : Int) (u : Value) : Prop where
  cu : CuB w R all s
  ins : Blk w X 97 [.int .u8 op, .int .i64 A, .int .i64 B, u]
  ne : R ≠ X
  sz : (s.1.size : Int) ≤ all ∧ all ≤ 140737488351232
theorem octM_size (s : ByteArray × Int) : (octM s).2.1.size ≤ s.1.size := by
  unfold octM
  split
  · exact Nat.le_refl _
  · split
    · simp only [ByteArray.size_extract]; omega
    · exact Nat.le_refl _
theorem say_fst (is : Bool) (e : Int) (s : ByteArray × Int) : (sayM is e s).1 = s.1 := by unfold sayM; split <;> rfl
section
variable {w : World} {R X : Nat} {all : Int} {s : ByteArray × Int} {op : Nat} {A B : Int} {u : Value}
theorem DuC.setA (h : DuC w R X all s op A B u) (C : Int) : DuC (w.setCell ⟨X, 1, none⟩ (.int .i64 C)) R X all s op C B u := ⟨h.cu.other (fun g => h.ne g.symm) _, h.ins.set 1 _, h.ne, h.sz⟩
theorem DuC.setB (h : DuC w R X all s op A B u) (C : Int) : DuC (w.setCell ⟨X, 2, none⟩ (.int .i64 C)) R X all s op A C u := ⟨h.cu.other (fun g => h.ne g.symm) _, h.ins.set 2 _, h.ne, h.sz⟩
theorem DuC.setT (h : DuC w R X all s op A B u) (v : Value) : DuC (w.setCell ⟨X, 3, none⟩ v) R X all s op A B v := ⟨h.cu.other (fun g => h.ne g.symm) _, h.ins.set 3 _, h.ne, h.sz⟩
theorem DuC.drew (h : DuC w R X all s op A B u) : DuC w.drew R X all s op A B u := ⟨h.cu, h.ins, h.ne, h.sz⟩
theorem DuC.kt {w' : World} (h : DuC w R X all s op A B u) (k : KT 2 w w') : DuC w' R X all s op A B u := ⟨k.blk h.cu rfl, k.blk h.ins rfl, h.ne, h.sz⟩
theorem DuC.lt (h : DuC w R X all s op A B u) : R < w.heap.size ∧ X < w.heap.size := ⟨h.cu.lt, h.ins.lt⟩
theorem DuC.okS (h : DuC w R X all s op A B u) : okSc s := by have := h.sz; unfold okSc; omega
theorem DuC.same {w' : World} (h : DuC w R X all s op A B u) (hR : w'.heap[R]? = w.heap[R]?) (hX : w'.heap[X]? = w.heap[X]?) : DuC w' R X all s op A B u := ⟨h.cu.same hR, h.ins.same hX, h.ne, h.sz⟩
theorem DuC.below {w' : World} (h : DuC w R X all s op A B u) (hb : Below w.heap.size w w') : DuC w' R X all s op A B u := ⟨h.cu.below hb, h.ins.below hb, h.ne, h.sz⟩
theorem DuC.next {w' : World} {s' : ByteArray × Int} (h : DuC w R X all s op A B u) (g : CuB w' R all s') (hs : s'.1.size ≤ s.1.size) (ht : ToC R w w') : DuC w' R X all s' op A B u :=
  ⟨g, h.ins.touch ht (fun e => h.ne e.symm), h.ne, by have := h.sz; omega⟩
theorem cnumD (h : DuC w R X all s op A B u) :
    Calls Tryz.prog 54 #[.pointer (some ⟨R, 0, none⟩)] w fun r w' => r = .returned (.int .i64 (numM s).1) ∧ DuC w' R X all (numM s).2 op A B u ∧ ToD R X w w' :=
  (cnum_any w R all s h.cu h.okS).mono (fun _ _ ⟨e, g, ht⟩ => ⟨e, h.next g (numM_facts s).2.2.1 ht, .of ht⟩)
theorem csgnD (bits : Nat) (hb : bits = 32 ∨ bits = 64) (h : DuC w R X all s op A B u) :
    Calls Tryz.prog 92 #[.pointer (some ⟨R, 0, none⟩), .int .i64 bits] w fun r w' => r = .returned (.int .i64 (sgnM bits s).1) ∧ DuC w' R X all (sgnM bits s).2 op A B u ∧ ToD R X w w' :=
  (csigned_any w R all s bits hb h.cu h.okS).mono (fun _ _ ⟨e, g, ht⟩ => ⟨e, h.next g (sgnM_facts hb s).2.2 ht, .of ht⟩)
theorem coctD (h : DuC w R X all s op A B u) :
    Calls Tryz.prog 20 #[.pointer (some ⟨R, 0, none⟩)] w fun r w' => r = .returned (.int .i64 (octM s).1) ∧ DuC w' R X all (octM s).2 op A B u ∧ ToD R X w w' :=
  (coctet_any w R all s h.cu h.okS).mono (fun _ _ ⟨e, g, ht⟩ => ⟨e, h.next g (octM_size s) ht, .of ht⟩)
theorem csayD (is : Bool) (e : Int) (h : DuC w R X all s op A B u) :
    Calls Tryz.prog 21 #[.pointer (some ⟨R, 0, none⟩), .bool is, .int .i64 e] w fun r w' => r = .returned (.tuple #[]) ∧ DuC w' R X all (sayM is e s) op A B u ∧ ToD R X w w' :=
  (csay_any w R all s is e h.cu).mono (fun _ _ ⟨e, g, ht⟩ => ⟨e, h.next g (by rw [say_fst]; exact Nat.le_refl _) ht, .of ht⟩)
end

abbrev FQ := (Int × Int × List Int) × (ByteArray × Int)
/-- the letter t: how many, the list, the last -/
def frmT (q : FQ) : FQ :=
  (((numM (takeM ((numM q.2).1.toNat - q.1.2.2.length) (sayM (decide (16 < (numM q.2).1)) 2 (numM q.2).2)).2).1, q.1.2.1, q.1.2.2 ++ (takeM ((numM q.2).1.toNat - q.1.2.2.length) (sayM (decide (16 < (numM q.2).1)) 2 (numM q.2).2)).1),
    (numM (takeM ((numM q.2).1.toNat - q.1.2.2.length) (sayM (decide (16 < (numM q.2).1)) 2 (numM q.2).2)).2).2)
/-- what one letter of the form does -/
def frm1 (c : UInt8) (q : FQ) : FQ :=
  if c = 107 then (((octM q.2).1, q.1.2.1, q.1.2.2), sayM (okK (octM q.2).1) 6 (octM q.2).2)
  else if c = 97 then (((numM q.2).1, q.1.2.1, q.1.2.2), (numM q.2).2)
  else if c = 98 then ((q.1.1, (numM q.2).1, q.1.2.2), (numM q.2).2)
  else if c = 122 then (q.1, nogM q.2)
  else if c = 99 then (((sgnM 32 q.2).1, q.1.2.1, q.1.2.2), (sgnM 32 q.2).2)
  else if c = 100 then (((sgnM 64 q.2).1, q.1.2.1, q.1.2.2), (sgnM 64 q.2).2)
  else if c = 116 then frmT q
  else q
def frmL (l : List UInt8) (q : FQ) : FQ := l.foldl (fun q c => frm1 c q) q
theorem frm_next {l : List UInt8} {k : Nat} (h : k < l.length) (q : FQ) : frmL (l.drop k) q = frmL (l.drop (k + 1)) (frm1 l[k] q) := by
  unfold frmL
  rw [List.drop_eq_getElem_cons h]
  rfl
theorem num_keep {s : ByteArray × Int} (h : s.2 ≠ 0) : (numM s).2 = s := by unfold numM; split; rfl; contradiction
theorem sgn_keep {b : Nat} {s : ByteArray × Int} (h : s.2 ≠ 0) : (sgnM b s).2 = s := by unfold sgnM; split; rfl; contradiction
theorem oct_keep {s : ByteArray × Int} (h : s.2 ≠ 0) : (octM s).2 = s := by unfold octM; rw [if_pos h]
theorem frm1_keep (c : UInt8) (q : FQ) (h : q.2.2 ≠ 0) : (frm1 c q).2 = q.2 := by
  unfold frm1
  split
  · simp only [oct_keep h]; exact say_same h
  split
  · simp only [num_keep h]
  split
  · simp only [num_keep h]
  split
  · simp only [nogM, oct_keep h]; exact say_same h
  split
  · simp only [sgn_keep h]
  split
  · simp only [sgn_keep h]
  split
  · simp only [frmT, num_keep h]
    rw [say_same h, take_bad _ _ h]
    exact num_keep h
  · rfl
theorem frmL_keep (l : List UInt8) (q : FQ) (h : q.2.2 ≠ 0) : (frmL l q).2 = q.2 := by
  induction l generalizing q with
  | nil => rfl
  | cons c l ih =>
    have e := frm1_keep c q h
    show (frmL l (frm1 c q)).2 = q.2
    rw [ih _ (by rw [e]; exact h), e]
theorem take_len (n : Nat) (s : ByteArray × Int) : (takeM n s).1.length ≤ n := by
  induction n generalizing s with
  | zero => simp [takeM]
  | succ n ih =>
    unfold takeM
    split
    · simp
    · simp only [List.length_cons]; have := ih (numM s).2; omega
/-- the form of a kind reads what stands beside it -/
theorem frm_bes (k : Nat) (hk : 1 ≤ k ∧ k ≤ 9) (s : ByteArray × Int) : frmL (([[63], [], [107], [97], [116], [97, 122], [97, 98], [122], [99], [100]] : List (List UInt8)).getD k []) ((0, 0, []), s) = besM k s := by
  rcases (by omega : k = 1 ∨ k = 2 ∨ k = 3 ∨ k = 4 ∨ k = 5 ∨ k = 6 ∨ k = 7 ∨ k = 8 ∨ k = 9) with rfl | rfl | rfl | rfl | rfl | rfl | rfl | rfl | rfl
  all_goals rfl
end Go.Proofs.YtakfineljffoaaaGreatDoor
namespace Go.Proofs.YtakfineljffoaaaGreatDoor
open Go.RowKit Go.Lib
attribute [local go_sem ↓] Go.wp_at_zero Go.wp_at_succ

/-- what Read makes of a text: the letter, what stands beside it, what is left -/
def rdI (t : ByteArray) : Nat × (Int × Int × List Int) × (ByteArray × Int) :=
  ((octM (t, 0)).1, if (sayM (decide (tB (octM (t, 0)).1 = 0)) 6 (octM (t, 0)).2).2 = 0 then besM (tB (octM (t, 0)).1) (sayM (decide (tB (octM (t, 0)).1 = 0)) 6 (octM (t, 0)).2) else ((0, 0, []), sayM (decide (tB (octM (t, 0)).1 = 0)) 6 (octM (t, 0)).2))
/-- how it is given -/
def RdP (w : World) (t : ByteArray) (e : Ending) (w' : World) : Prop :=
  ∃ u, (if (rdI t).2.2.2 = 0 then e = .returned (.tuple #[insV (rdI t).1 (rdI t).2.1.1 (rdI t).2.1.2.1 u, .int .i64 (t.size - (rdI t).2.2.1.size), .int .i64 0]) ∧ OwnI w' w.heap.size .i64 2 u (rdI t).2.1.2.2
    else e = .returned (.tuple #[insV 0 0 0 (.slice none 0 0), .int .i64 0, .int .i64 (rdI t).2.2.2])) ∧ Below w.heap.size w w'

/-- a block of four cells, stored whole -/
theorem res4 {w : World} {B : Nat} {ty : TypeId} {cs : List Value} (h : Blk w B ty cs) (hl : cs.length = 4) (a0 a1 a2 a3 : Value) :
    Blk ((((w.setCell ⟨B, 0, none⟩ a0).setCell ⟨B, 1, none⟩ a1).setCell ⟨B, 2, none⟩ a2).setCell ⟨B, 3, none⟩ a3) B ty [a0, a1, a2, a3] := by
  match cs, hl with
  | [c0, c1, c2, c3], _ => exact (((h.set 0 a0).set 1 a1).set 2 a2).set 3 a3
theorem touch4 {w : World} {B : Nat} (a0 a1 a2 a3 : Value) : Touch (fun j => j = B) w ((((w.setCell ⟨B, 0, none⟩ a0).setCell ⟨B, 1, none⟩ a1).setCell ⟨B, 2, none⟩ a2).setCell ⟨B, 3, none⟩ a3) :=
  (((Touch.setCell (F := fun j => j = B) (a := ⟨B, 0, none⟩) rfl a0).trans (Touch.setCell (F := fun j => j = B) (a := ⟨B, 1, none⟩) rfl a1)).trans (Touch.setCell (F := fun j => j = B) (a := ⟨B, 2, none⟩) rfl a2)).trans (Touch.setCell (F := fun j => j = B) (a := ⟨B, 3, none⟩) rfl a3)
theorem DuI.below {w w' : World} {R X : Nat} {t : ByteArray} {s : ByteArray × Int} {op : Nat} {A B : Int} {u : Value} (h : DuI w R X t s op A B u) (hb : Below w.heap.size w w') : DuI w' R X t s op A B u := by
  obtain ⟨a, h1, h2, h3⟩ := h.rd
  exact ⟨⟨a, h1, h2, h3.below hb⟩, h.ins.below hb, h.ne, h.sz⟩
set_option maxRecDepth 100000 in
set_option maxHeartbeats 4000000 in
theorem pread_any (w : World) (t : ByteArray) (ht : t.size ≤ 140737488351232) :
    Calls Tryz.prog 118 #[.string t] w fun e w' => RdP w t e w' := by
  have hl0 : left t 0 = t := by unfold left; simp
  have h0 : IrB ((w.alloc (.cells #[.int .u8 0, .int .i64 0, .int .i64 0, .slice none 0 0] 97)).alloc (.cells #[.string t, .int .i64 0, .int .i64 0] 208)) (w.heap.size + 1) t 0 0 := Blk.new _ _ _ _ (by simp)
  have hres : Blk ((w.alloc (.cells #[.int .u8 0, .int .i64 0, .int .i64 0, .slice none 0 0] 97)).alloc (.cells #[.string t, .int .i64 0, .int .i64 0] 208)) w.heap.size 97 [.int .u8 0, .int .i64 0, .int .i64 0, .slice none 0 0] := (Blk.new w _ _ _ rfl).alloc _
  have hB : Below w.heap.size w ((w.alloc (.cells #[.int .u8 0, .int .i64 0, .int .i64 0, .slice none 0 0] 97)).alloc (.cells #[.string t, .int .i64 0, .int .i64 0] 208)) := ((Below.refl _ _).alloc (Nat.le_refl _) _).alloc (by simp) _
  have HO0 := ioctet_any _ (w.heap.size + 1) t 0 0 h0 (Nat.zero_le _) ht
  rw [hl0] at HO0
  have HO := hid HO0
  clear HO0
  have HRES := hid hres
  have HB := hid hB
  have hop := octM_lt (t, 0)
  unfold RdP rdI
  generalize octM (t, 0) = o at *
  obtain ⟨op, so⟩ := o
  simp only at HO hop ⊢
  have HBS := hid (fun w' => besides_any op hop w')
  have hk9 := tB_le ⟨op, hop⟩
  simp only at hk9
  have HS := hid (fun k wx R X s (h1 : 1 ≤ k ∧ k ≤ 9) h h0 => ibs_any wx R X t s op k h1 h h0)
  generalize tB op = k at *
  clear h0 hres hB
  by_cases hk : k = 0
  · subst hk
    rw [decide_eq_true rfl]
    have hb := say_bad (e := 6) (by decide) so
    have HF := hid (fun wx R X (h : DuI wx R X t so op 0 0 (.slice none 0 0)) => dfail 6 h)
    generalize sayM true 6 so = s2 at *
    rw [if_neg hb]
    simp only [if_neg hb]
    have hbz : (s2.2 == 0) = false := by simpa using hb
    have hbn : (s2.2 != 0) = true := by simpa using hb
    clear hb
    go_enter Tryz.func118, Tryz.ntmps118
    go_wp2_with fail
    refine HO.out.mono ?_
    rintro r w3 ⟨rfl, ⟨a1, p1, p2, p3⟩, p4⟩
    have HR3 := hid (HRES.out.touch p4 (by omega))
    have HB3 := hid (HB.out.trans (p4.below HB.out.size (fun j hj => by omega)))
    have hlt3 := p3.lt
    have D4 : Hid (DuI (w3.alloc (.cells #[.int .u8 op, .int .i64 0, .int .i64 0, .slice none 0 0] 97)) (w.heap.size + 1) w3.heap.size t so op 0 0 (.slice none 0 0)) := hid ⟨⟨a1, p1, p2, p3.alloc _⟩, Blk.new _ _ _ _ rfl, by omega, ht⟩
    have HR4 := hid (HR3.out.alloc (.cells #[.int .u8 op, .int .i64 0, .int .i64 0, .slice none 0 0] 97))
    have HB4 := hid (HB3.out.alloc HB3.out.size (.cells #[.int .u8 op, .int .i64 0, .int .i64 0, .slice none 0 0] 97))
    clear p1 p2 p3 p4
    go_wp2_with fail
    refine (HBS.out _).mono ?_
    rintro r w5 ⟨rfl, hb⟩
    have D5 := hid (DuI.below D4.out hb)
    have HR5 := hid (HR4.out.below hb)
    have HB5 := hid (HB4.out.trans (hb.mono HB4.out.size))
    have hlt5 := hb.size
    have hlt5 : w3.heap.size + 1 ≤ w5.heap.size := by simpa using hlt5
    clear hb
    go_wp2_with fail
    refine (HF.out _ _ _ D5.out).mono ?_
    rintro r w6 ⟨rfl, g1, g2⟩
    have HR6 := hid (HR5.out.touch g2 (by omega))
    have HB6 := hid (HB5.out.trans (g2.below HB5.out.size (fun j hj => by omega)))
    have D6 := hid g1
    clear g1 g2
    have hrf := HR6.out.free
    have hr0 := HR6.out.cell (i := 0) rfl
    have hr1 := HR6.out.cell (i := 1) rfl
    have hr2 := HR6.out.cell (i := 2) rfl
    have hr3 := HR6.out.cell (i := 3) rfl
    obtain ⟨a5, p1, p2, p3⟩ := D6.out.rd
    have pb := p3.cell (i := 2) rfl
    clear p1 p2 p3
    have q0 : w6.drew.cell? ⟨w.heap.size, 0, none⟩ = some (.int .u8 0) := hr0
    have q1 : w6.drew.cell? ⟨w.heap.size, 1, none⟩ = some (.int .i64 0) := hr1
    have q2 : w6.drew.cell? ⟨w.heap.size, 2, none⟩ = some (.int .i64 0) := hr2
    have q3 : w6.drew.cell? ⟨w.heap.size, 3, none⟩ = some (.slice none 0 0) := hr3
    have qf : ∀ i, w6.drew.frozen? ⟨w.heap.size, i, none⟩ = false := hrf
    have qb : w6.drew.cell? ⟨w.heap.size + 1, 2, none⟩ = some (.int .i64 s2.2) := pb
    go_wp2_with fail
    go_region_law (fail)
    all_goals
      go_wp2_with fail
      refine bodyPost_ret (v := .tuple #[insV 0 0 0 (.slice none 0 0), .int .i64 0, .int .i64 s2.2]) (by simp [results, Tryz.results118, go_sem, insV, hr0, hr1, hr2, hr3]) rfl ?_
      exact ⟨.slice none 0 0, rfl, drew_bel' (n := 1) (HB6.out.trans ((touch4 (w := w6) (.int .u8 0) (.int .i64 0) (.int .i64 0) (.slice none 0 0)).below (HB6.out.size) (fun j hj => by omega)))⟩
  · rw [decide_eq_false hk, say_false]
    have hkz : ((k : Int) == 0) = false := by simp; omega
    by_cases hb : so.2 = 0
    · rw [if_pos hb]
      have HS5 := hid (fun wx R X h => HS.out k wx R X so (by omega) h hb)
      have hbz : (so.2 == 0) = true := by rw [hb]; rfl
      generalize besM k so = bm at *
      obtain ⟨⟨A, B, xs⟩, s2⟩ := bm
      simp only at HS5 ⊢
      by_cases hc : s2.2 = 0
      · simp only [if_pos hc]
        have hcz : (s2.2 == 0) = true := by rw [hc]; rfl
        have hcn : (s2.2 != 0) = false := by rw [hc]; rfl
        clear hc
        clear hb hk
        go_enter Tryz.func118, Tryz.ntmps118
        go_wp2_with fail
        refine HO.out.mono ?_
        rintro r w3 ⟨rfl, ⟨a1, p1, p2, p3⟩, p4⟩
        have HR3 := hid (HRES.out.touch p4 (by omega))
        have HB3 := hid (HB.out.trans (p4.below HB.out.size (fun j hj => by omega)))
        have hlt3 := p3.lt
        have D4 : Hid (DuI (w3.alloc (.cells #[.int .u8 op, .int .i64 0, .int .i64 0, .slice none 0 0] 97)) (w.heap.size + 1) w3.heap.size t so op 0 0 (.slice none 0 0)) := hid ⟨⟨a1, p1, p2, p3.alloc _⟩, Blk.new _ _ _ _ rfl, by omega, ht⟩
        have HR4 := hid (HR3.out.alloc (.cells #[.int .u8 op, .int .i64 0, .int .i64 0, .slice none 0 0] 97))
        have HB4 := hid (HB3.out.alloc HB3.out.size (.cells #[.int .u8 op, .int .i64 0, .int .i64 0, .slice none 0 0] 97))
        clear p1 p2 p3 p4
        go_wp2_with fail
        refine (HBS.out _).mono ?_
        rintro r w5 ⟨rfl, hb⟩
        have D5 := hid (DuI.below D4.out hb)
        have HR5 := hid (HR4.out.below hb)
        have HB5 := hid (HB4.out.trans (hb.mono HB4.out.size))
        have hlt5 := hb.size
        have hlt5 : w3.heap.size + 1 ≤ w5.heap.size := by simpa using hlt5
        clear hb
        have pb0 := D5.out.rd
        obtain ⟨a5, p1, p2, p3⟩ := pb0
        have pb := p3.cell (i := 2) rfl
        clear p1 p2 p3
        go_wp2_with fail
        clear pb
        refine (HS5.out _ _ _ D5.out).mono ?_
        rintro r w6 ⟨rfl, ⟨u, g1, g3⟩, g2⟩
        have HR6 := hid (HR5.out.touch g2 (by omega))
        have HB6 := hid (HB5.out.trans (g2.below HB5.out.size (fun j hj => by omega)))
        have D6 := hid g1
        have OW6 := hid g3
        clear g1 g2 g3
        obtain ⟨au, cu, hu, _⟩ := own_sl OW6.out
        subst hu
        have hrf := HR6.out.free
        have hr0 := HR6.out.cell (i := 0) rfl
        have hr1 := HR6.out.cell (i := 1) rfl
        have hr2 := HR6.out.cell (i := 2) rfl
        have hr3 := HR6.out.cell (i := 3) rfl
        obtain ⟨a5, p1, p2, p3⟩ := D6.out.rd
        have pb := p3.cell (i := 2) rfl
        clear p1 p2 p3
        have q0 : w6.drew.cell? ⟨w.heap.size, 0, none⟩ = some (.int .u8 0) := hr0
        have q1 : w6.drew.cell? ⟨w.heap.size, 1, none⟩ = some (.int .i64 0) := hr1
        have q2 : w6.drew.cell? ⟨w.heap.size, 2, none⟩ = some (.int .i64 0) := hr2
        have q3 : w6.drew.cell? ⟨w.heap.size, 3, none⟩ = some (.slice none 0 0) := hr3
        have qf : ∀ i, w6.drew.frozen? ⟨w.heap.size, i, none⟩ = false := hrf
        have x0 : w6.drew.cell? ⟨w3.heap.size, 0, none⟩ = some (.int .u8 op) := D6.out.ins.cell (i := 0) rfl
        have x1 : w6.drew.cell? ⟨w3.heap.size, 1, none⟩ = some (.int .i64 A) := D6.out.ins.cell (i := 1) rfl
        have x2 : w6.drew.cell? ⟨w3.heap.size, 2, none⟩ = some (.int .i64 B) := D6.out.ins.cell (i := 2) rfl
        have x3 : w6.drew.cell? ⟨w3.heap.size, 3, none⟩ = some (.slice au xs.length cu) := D6.out.ins.cell (i := 3) rfl
        obtain ⟨a6, p1, p2, p3⟩ := D6.out.rd
        have qa0 := p3.cell (i := 1) rfl
        have qa : w6.drew.cell? ⟨w.heap.size + 1, 1, none⟩ = some (.int .i64 a6) := p3.cell (i := 1) rfl
        have HA := hid (show (a6 : Int) = (t.size : Int) - (s2.1.size : Int) by rw [p2, left_size]; omega)
        clear p1 p2 p3
        have hd1 : ¬ (w.heap.size = w3.heap.size) := by omega
        have hd2 : ¬ (w3.heap.size = w.heap.size) := by omega
        go_wp2_with fail
        go_region_law (fail)
        all_goals
          go_wp2_with fail
          refine bodyPost_ret (v := .tuple #[insV op A B (.slice au xs.length cu), .int .i64 a6, .int .i64 0]) (by simp [results, Tryz.results118, go_sem, insV, hr0, hr1, hr2, hr3]) rfl ?_
          have HX := hid (HB6.out.trans (Touch.below (B := w.heap.size) (touch4 (w := w6) (B := w.heap.size) (.int .u8 op) (.int .i64 A) (.int .i64 B) (.slice au xs.length cu)) HB6.out.size (fun j hj => by omega)))
          refine ⟨_, ⟨by rw [HA.out], ?_⟩, drew_bel' (n := 1) HX.out⟩
          exact own_mono' (c := w5.heap.size) (own_touch (F := fun j => j = w.heap.size) OW6.out (touch4 (w := w6) (B := w.heap.size) (.int .u8 op) (.int .i64 A) (.int .i64 B) (.slice au xs.length cu)).drew1 (fun j g e => by
            have h9 : w5.heap.size ≤ j := (World.ownsRow.lt OW6.out j g).1
            have e9 : j = w.heap.size := e
            omega)) HB5.out.size
      · simp only [if_neg hc]
        have hcz : (s2.2 == 0) = false := by simpa using hc
        have hcn : (s2.2 != 0) = true := by simpa using hc
        clear hc
        clear hb hk
        go_enter Tryz.func118, Tryz.ntmps118
        go_wp2_with fail
        refine HO.out.mono ?_
        rintro r w3 ⟨rfl, ⟨a1, p1, p2, p3⟩, p4⟩
        have HR3 := hid (HRES.out.touch p4 (by omega))
        have HB3 := hid (HB.out.trans (p4.below HB.out.size (fun j hj => by omega)))
        have hlt3 := p3.lt
        have D4 : Hid (DuI (w3.alloc (.cells #[.int .u8 op, .int .i64 0, .int .i64 0, .slice none 0 0] 97)) (w.heap.size + 1) w3.heap.size t so op 0 0 (.slice none 0 0)) := hid ⟨⟨a1, p1, p2, p3.alloc _⟩, Blk.new _ _ _ _ rfl, by omega, ht⟩
        have HR4 := hid (HR3.out.alloc (.cells #[.int .u8 op, .int .i64 0, .int .i64 0, .slice none 0 0] 97))
        have HB4 := hid (HB3.out.alloc HB3.out.size (.cells #[.int .u8 op, .int .i64 0, .int .i64 0, .slice none 0 0] 97))
        clear p1 p2 p3 p4
        go_wp2_with fail
        refine (HBS.out _).mono ?_
        rintro r w5 ⟨rfl, hb⟩
        have D5 := hid (DuI.below D4.out hb)
        have HR5 := hid (HR4.out.below hb)
        have HB5 := hid (HB4.out.trans (hb.mono HB4.out.size))
        have hlt5 := hb.size
        have hlt5 : w3.heap.size + 1 ≤ w5.heap.size := by simpa using hlt5
        clear hb
        have pb0 := D5.out.rd
        obtain ⟨a5, p1, p2, p3⟩ := pb0
        have pb := p3.cell (i := 2) rfl
        clear p1 p2 p3
        go_wp2_with fail
        clear pb
        refine (HS5.out _ _ _ D5.out).mono ?_
        rintro r w6 ⟨rfl, ⟨u, g1, g3⟩, g2⟩
        have HR6 := hid (HR5.out.touch g2 (by omega))
        have HB6 := hid (HB5.out.trans (g2.below HB5.out.size (fun j hj => by omega)))
        have D6 := hid g1
        have OW6 := hid g3
        clear g1 g2 g3
        have hrf := HR6.out.free
        have hr0 := HR6.out.cell (i := 0) rfl
        have hr1 := HR6.out.cell (i := 1) rfl
        have hr2 := HR6.out.cell (i := 2) rfl
        have hr3 := HR6.out.cell (i := 3) rfl
        obtain ⟨a5, p1, p2, p3⟩ := D6.out.rd
        have pb := p3.cell (i := 2) rfl
        clear p1 p2 p3
        have q0 : w6.drew.cell? ⟨w.heap.size, 0, none⟩ = some (.int .u8 0) := hr0
        have q1 : w6.drew.cell? ⟨w.heap.size, 1, none⟩ = some (.int .i64 0) := hr1
        have q2 : w6.drew.cell? ⟨w.heap.size, 2, none⟩ = some (.int .i64 0) := hr2
        have q3 : w6.drew.cell? ⟨w.heap.size, 3, none⟩ = some (.slice none 0 0) := hr3
        have qf : ∀ i, w6.drew.frozen? ⟨w.heap.size, i, none⟩ = false := hrf
        have qb : w6.drew.cell? ⟨w.heap.size + 1, 2, none⟩ = some (.int .i64 s2.2) := pb
        go_wp2_with fail
        go_region_law (fail)
        all_goals
          go_wp2_with fail
          refine bodyPost_ret (v := .tuple #[insV 0 0 0 (.slice none 0 0), .int .i64 0, .int .i64 s2.2]) (by simp [results, Tryz.results118, go_sem, insV, hr0, hr1, hr2, hr3]) rfl ?_
          exact ⟨.slice none 0 0, rfl, drew_bel' (n := 1) (HB6.out.trans ((touch4 (w := w6) (.int .u8 0) (.int .i64 0) (.int .i64 0) (.slice none 0 0)).below (HB6.out.size) (fun j hj => by omega)))⟩
    · rw [if_neg hb]
      simp only [if_neg hb]
      have hbz : (so.2 == 0) = false := by simpa using hb
      have hbn : (so.2 != 0) = true := by simpa using hb
      clear hb hk
      go_enter Tryz.func118, Tryz.ntmps118
      go_wp2_with fail
      refine HO.out.mono ?_
      rintro r w3 ⟨rfl, ⟨a1, p1, p2, p3⟩, p4⟩
      have HR3 := hid (HRES.out.touch p4 (by omega))
      have HB3 := hid (HB.out.trans (p4.below HB.out.size (fun j hj => by omega)))
      have hlt3 := p3.lt
      have D4 : Hid (DuI (w3.alloc (.cells #[.int .u8 op, .int .i64 0, .int .i64 0, .slice none 0 0] 97)) (w.heap.size + 1) w3.heap.size t so op 0 0 (.slice none 0 0)) := hid ⟨⟨a1, p1, p2, p3.alloc _⟩, Blk.new _ _ _ _ rfl, by omega, ht⟩
      have HR4 := hid (HR3.out.alloc (.cells #[.int .u8 op, .int .i64 0, .int .i64 0, .slice none 0 0] 97))
      have HB4 := hid (HB3.out.alloc HB3.out.size (.cells #[.int .u8 op, .int .i64 0, .int .i64 0, .slice none 0 0] 97))
      clear p1 p2 p3 p4
      go_wp2_with fail
      refine (HBS.out _).mono ?_
      rintro r w5 ⟨rfl, hb⟩
      have D5 := hid (DuI.below D4.out hb)
      have HR5 := hid (HR4.out.below hb)
      have HB5 := hid (HB4.out.trans (hb.mono HB4.out.size))
      have hlt5 := hb.size
      have hlt5 : w3.heap.size + 1 ≤ w5.heap.size := by simpa using hlt5
      clear hb
      have hrf := HR5.out.free
      have hr0 := HR5.out.cell (i := 0) rfl
      have hr1 := HR5.out.cell (i := 1) rfl
      have hr2 := HR5.out.cell (i := 2) rfl
      have hr3 := HR5.out.cell (i := 3) rfl
      obtain ⟨a5, p1, p2, p3⟩ := D5.out.rd
      have pb := p3.cell (i := 2) rfl
      clear p1 p2 p3
      have q0 : w5.drew.cell? ⟨w.heap.size, 0, none⟩ = some (.int .u8 0) := hr0
      have q1 : w5.drew.cell? ⟨w.heap.size, 1, none⟩ = some (.int .i64 0) := hr1
      have q2 : w5.drew.cell? ⟨w.heap.size, 2, none⟩ = some (.int .i64 0) := hr2
      have q3 : w5.drew.cell? ⟨w.heap.size, 3, none⟩ = some (.slice none 0 0) := hr3
      have qf : ∀ i, w5.drew.frozen? ⟨w.heap.size, i, none⟩ = false := hrf
      have qb : w5.drew.cell? ⟨w.heap.size + 1, 2, none⟩ = some (.int .i64 so.2) := pb
      go_wp2_with fail
      go_region_law (fail)
      all_goals
        go_wp2_with fail
        refine bodyPost_ret (v := .tuple #[insV 0 0 0 (.slice none 0 0), .int .i64 0, .int .i64 so.2]) (by simp [results, Tryz.results118, go_sem, insV, hr0, hr1, hr2, hr3]) rfl ?_
        exact ⟨.slice none 0 0, rfl, drew_bel' (n := 1) (HB5.out.trans ((touch4 (w := w5) (.int .u8 0) (.int .i64 0) (.int .i64 0) (.slice none 0 0)).below (HB5.out.size) (fun j hj => by omega)))⟩
end Go.Proofs.YtakfineljffoaaaGreatDoor
namespace Go.Proofs.YtakfineljffoaaaGreatDoor
open Go.RowKit

set_option maxRecDepth 100000 in
set_option maxHeartbeats 400000 in
theorem eq_int64 (va vb : Value) (xs ys : List Int) (w : World) (ha : Ints w .i64 va xs) (hb : Ints w .i64 vb ys) :
    Calls Tryz.prog 83 #[va, vb] w fun e w' => e = .returned (.bool (decide (xs = ys))) ∧ w = w' := by
  by_cases hl : xs.length = ys.length
  · rcases ha.open with ⟨ao, cap, rfl, rfl, _⟩ | ⟨b, off, cap, rfl, h0, hcap, hm, hc⟩
    · obtain rfl : ys = [] := by cases ys <;> simp_all
      obtain ⟨ao', cap', rfl, _, _, _, _⟩ := hb
      clear hl ha
      go_enter Tryz.func83, Tryz.ntmps83
      go_wp2
      refine wp_loop_rounds 1 ?_; rw [rounds_succ]; go_wp2
      go_ret
      exact ⟨by simp, rfl⟩
    · rcases hb.open with ⟨ao', cap', rfl, rfl, _⟩ | ⟨b', off', cap', rfl, h0', hcap', hm', hc'⟩
      · simp at hl; simp [hl] at h0
      clear ha hb
      have H := hid hl
      have hne : ((xs.length : Int) != ys.length) = false := by simp [hl]
      clear hl
      go_enter Tryz.func83, Tryz.ntmps83
      go_wp2
      go_loop [14] (fun i => ∃ k : Nat, k ≤ xs.length ∧ i = .int .i64 k ∧ Hid (xs = ys ↔ xs.drop k = ys.drop k)) (fun i => xs.length - (intOf i).toNat)
      case atStart => exact ⟨0, Nat.zero_le _, rfl, by simp [Hid]⟩
      case round =>
        obtain ⟨k, hk, rfl, hq⟩ := hrel
        by_cases hlt : k < xs.length
        · have hlt' : k < ys.length := by have := H.out; omega
          go_wp2
          · go_ret
            exact ⟨retB (by simp [eq_no hq ‹_›]), rfl⟩
          · go_round
            case rel => exact ⟨k + 1, by omega, by go_num, eq_on hq ‹_›⟩
            case measure => simp [intOf]; omega
        · go_wp2
          go_ret
          exact ⟨retB (by simp [eq_end hq H.out hlt]), rfl⟩
  · have hne : ((xs.length : Int) != ys.length) = true := by simp; omega
    have hxy : xs ≠ ys := fun e => hl (by rw [e])
    obtain ⟨ao, cap, rfl, _, _, _, _⟩ := ha
    obtain ⟨ao', cap', rfl, _, _, _, _⟩ := hb
    go_enter Tryz.func83, Tryz.ntmps83
    go_wp2
    go_ret
    exact ⟨retB (by simp [hxy]), rfl⟩
end Go.Proofs.YtakfineljffoaaaGreatDoor
