/-
  SHOTS: the reference's Read: its memory in one piece; what a fault leaves. No condition.
-/
import Derived.Test.YtpapblahnbeccaaRsA
namespace Go.Proofs.Ytpapblahnbeccaa
open Go.RowKit Go.Lib

theorem num_stick {s : ByteArray × Int} (h : s.2 ≠ 0) : numM s = (0, s) := by unfold numM; rw [if_pos h]
theorem cnt_stick {m : Int} {s : ByteArray × Int} (h : s.2 ≠ 0) : cntM m s = (0, s) := by unfold cntM; rw [num_stick h, if_pos h]
theorem list_stick {m : Int} {s : ByteArray × Int} (h : s.2 ≠ 0) : (listM m s).2 = s := by unfold listM; rw [cnt_stick h]; rfl
theorem tab_stick {s : ByteArray × Int} (h : s.2 ≠ 0) : (tabM s).2 = s := by unfold tabM; rw [cnt_stick h]; rfl
theorem tail_stick {s : ByteArray × Int} (h : s.2 ≠ 0) : (tailM s).2 = s := by
  unfold tailM
  simp only
  rw [tab_stick h, list_stick h, num_stick h]
  simp only
  rw [cnt_stick h]
  rfl
/-- what is left is the text's end -/
def Suf (t : ByteArray) (s : ByteArray × Int) : Prop := ∃ k, k ≤ t.size ∧ s.1 = t.extract k t.size
theorem extract_ext (t : ByteArray) (k a b : Nat) (_ : k ≤ t.size) : (t.extract k t.size).extract a b = t.extract (k + a) (min (k + b) t.size) := ByteArray.extract_extract
theorem num_suf {t : ByteArray} {s : ByteArray × Int} (h : Suf t s) : Suf t (numM s).2 := by
  obtain ⟨k, hk, e⟩ := h
  unfold numM
  split
  · exact ⟨k, hk, e⟩
  · have hsz : s.1.size = t.size - k := by rw [e, ByteArray.size_extract]; omega
    have hf := ru_facts (b := 32) (.inl rfl) s.1.data.toList 0 0 (by decide) (by decide)
    simp only
    generalize ru 32 s.1.data.toList 0 0 = q at *
    have hq : q.2.1 ≤ s.1.size := by
      have hl : s.1.data.toList.length = s.1.size := rfl
      by_cases h0 : q.2.2 = 0
      · have := hf.1 h0; omega
      · have := hf.2 h0; omega
    refine ⟨k + q.2.1, by omega, ?_⟩
    simp only
    rw [hsz, e, extract_ext _ _ _ _ hk]
    congr 1
    omega
theorem cnt_suf {m : Int} {t : ByteArray} {s : ByteArray × Int} (h : Suf t s) : Suf t (cntM m s).2 := by
  have hn := num_suf h
  unfold cntM
  split
  · exact hn
  · split
    · exact hn
    · exact hn
theorem suf_mem {t : ByteArray} {s : ByteArray × Int} {n : Nat} (h : Suf t s) (hn : n ≤ s.1.size) : s.1.size ≤ t.size ∧ t.extract (t.size - (s.1.size - n) - n) (t.size - (s.1.size - n)) = s.1.extract 0 n := by
  obtain ⟨k, hk, e⟩ := h
  have hsz : s.1.size = t.size - k := by rw [e, ByteArray.size_extract]; omega
  refine ⟨by omega, ?_⟩
  have e2 : s.1.extract 0 n = t.extract (k + 0) (min (k + n) t.size) := by
    rw [e]; exact extract_ext t k 0 n hk
  rw [e2]
  congr 1 <;> omega

/-- memory and state behind the memory's part -/
def memR (N : Nat) (s : ByteArray × Int) : ByteArray := if (s.1.size : Int) < N then ⟨#[]⟩ else s.1.extract 0 N
def stR (N : Nat) (s : ByteArray × Int) : ByteArray × Int := if (s.1.size : Int) < N then (s.1, 3) else (s.1.extract N s.1.size, s.2)
def finB (t mem : ByteArray) (S : ByteArray × Int) : Shot × Int :=
  if endE t (shotOf mem (tailM S).1) (tailM S).2 = 0 then (shotOf mem (tailM S).1, 0) else (zeroShot, endE t (shotOf mem (tailM S).1) (tailM S).2)
theorem readM_ref {t : ByteArray} {N : Nat} {s : ByteArray × Int} (h : cntM 2048 (t, 0) = ((N : Int), s)) : readM t = finB t (memR N s) (stR N s) := by
  obtain ⟨h1, h2⟩ := readM_eq t N s h
  unfold memR stR
  by_cases hlt : (s.1.size : Int) < N
  · rw [if_pos hlt, if_pos hlt, h1 hlt]
    unfold finB
    have ht : (tailM (s.1, 3)).2 = (s.1, 3) := tail_stick (by show (3 : Int) ≠ 0; decide)
    have he : endE t (shotOf ⟨#[]⟩ (tailM (s.1, 3)).1) (tailM (s.1, 3)).2 = 3 := by
      rw [ht, endE_bad (by show ¬ (3 : Int) = 0; decide)]
    rw [he]
    rfl
  · rw [if_neg hlt, if_neg hlt, h2 (by omega)]
    rfl

/-- all that the reference's Read has -/
structure SB (P : Nat) (W w : World) (all : Int) (xs ys : List Value) (s : ByteArray × Int) (vt vg vc : Value) (tab glob : List Int) (calls : List Cal) : Prop where
  a : SA W w 222 xs ys [.string s.1, .int .i64 all, .int .i64 s.2] vt vg vc tab glob calls
  hp : W.heap.size + 5 ≤ P
  p : Blk w P 218 [.pointer (some ⟨W.heap.size + 1 + 1 + 1 + 1, 0, none⟩)]
theorem cuok : RtOk 222 := ⟨rfl, rfl, rfl, rfl, rfl⟩
section
variable {P : Nat} {W w w' : World} {all : Int} {xs ys : List Value} {s s' : ByteArray × Int} {vt vg vc : Value} {tab glob : List Int} {calls : List Cal}
theorem SB.size (h : SB P W w all xs ys s vt vg vc tab glob calls) : W.heap.size + 6 ≤ w.heap.size := by have := h.p.lt; have := h.hp; omega
theorem SB.read (h : SB P W w all xs ys s vt vg vc tab glob calls) (t : ToC (W.heap.size + 1 + 1 + 1 + 1) w w') (r : CuB w' (W.heap.size + 1 + 1 + 1 + 1) all s') : SB P W w' all xs ys s' vt vg vc tab glob calls :=
  ⟨h.a.read cuok t r, h.hp, h.p.touch t (by have := h.hp; omega)⟩
theorem SB.below (h : SB P W w all xs ys s vt vg vc tab glob calls) (b : Below w.heap.size w w') : SB P W w' all xs ys s vt vg vc tab glob calls := ⟨h.a.below b, h.hp, h.p.below b⟩
theorem SB.drew (h : SB P W w all xs ys s vt vg vc tab glob calls) : SB P W w.drew all xs ys s vt vg vc tab glob calls := ⟨h.a.drew, h.hp, h.p⟩
theorem SB.setX (h : SB P W w all xs ys s vt vg vc tab glob calls) (i : Nat) (v : Value) : SB P W (w.setCell ⟨W.heap.size + 1 + 1, i, none⟩ v) all (xs.set i v) ys s vt vg vc tab glob calls := ⟨h.a.setX i v, h.hp, h.p.other (by have := h.hp; simp; omega) v⟩
theorem SB.setS (h : SB P W w all xs ys s vt vg vc tab glob calls) (i : Nat) (v : Value) : SB P W (w.setCell ⟨W.heap.size + 1 + 1 + 1, i, none⟩ v) all xs (ys.set i v) s vt vg vc tab glob calls := ⟨h.a.setS i v, h.hp, h.p.other (by have := h.hp; simp; omega) v⟩
theorem SB.setC (h : SB P W w all xs ys s vt vg vc tab glob calls) {C : Nat} {cc : List Value} (hC : Blk w C 216 cc) (hW : W.heap.size ≤ C) (hv : ∀ k, vc.ownBlock = some k → k < C) (i : Nat) (v : Value) : SB P W (w.setCell ⟨C, i, none⟩ v) all xs ys s vt vg vc tab glob calls :=
  ⟨h.a.setC cuok hC hW hv i v, h.hp, (KT.set hC v).blk h.p rfl⟩
theorem SB.push {vc' : Value} {c : Cal} {vl vs : Value} (h : SB P W w all xs ys s vt vg vc tab glob calls) (hl : OwnI w W.heap.size .i64 2 vl c.loc) (hs : OwnI w W.heap.size .i64 2 vs c.stk) (hg : w.grownBy w' vc.ownBlock)
    {css : List (List Value)} (h1 : css.length = calls.length) (h2 : w.ownsRow W.heap.size 216 4 vc calls.length css.flatten) (h3 : ∀ i (h1 : i < css.length) (h2 : i < calls.length), CalO w W.heap.size css[i] calls[i])
    (hrow : w'.ownsRow W.heap.size 216 4 vc' (calls.length + 1) (css.flatten ++ [.int .i64 c.fn, .int .i64 c.pc, vl, vs])) : SB P W w' all xs ys s vt vg vc' tab glob (calls ++ [c]) :=
  ⟨h.a.push cuok hl hs hg h1 h2 h3 hrow, h.hp, (KT.grown hg h2).blk h.p rfl⟩
theorem SB.cells (h : SB P W w all xs ys s vt vg vc tab glob calls) : w.cell? ⟨P, 0, none⟩ = some (.pointer (some ⟨W.heap.size + 1 + 1 + 1 + 1, 0, none⟩)) := h.p.cell (i := 0) rfl
/-- the table has one more -/
theorem SB.pushT {vt' : Value} {n : Int} (h : SB P W w all xs ys s vt vg vc tab glob calls) (hg : w.grownBy w' vt.ownBlock) (hrow : OwnI w' W.heap.size .i64 3 vt' (tab ++ [n])) : SB P W w' all xs ys s vt' vg vc (tab ++ [n]) glob calls := by
  have k : KT 3 w w' := KT.grown hg h.a.rows.tab
  have hw := World.ownsRow.lt h.a.rows.tab
  exact ⟨⟨h.a.bk.kt k rfl rfl, ⟨hrow, k.own h.a.rows.glob rfl, k.calls h.a.rows.calls rfl rfl⟩, k.blk h.a.rd rfl, h.a.bl.trans ((Below.refl _ _).grown hg (by have := h.size; omega) (fun j hj => (hw j hj).1))⟩, h.hp, k.blk h.p rfl⟩
/-- the globals are there -/
theorem SB.putG {vg' : Value} {glob' : List Int} (h : SB P W w all xs ys s vt vg vc tab glob calls) (hrow : OwnI w W.heap.size .i64 2 vg' glob') : SB P W w all xs ys s vt vg' vc tab glob' calls :=
  ⟨⟨h.a.bk, ⟨h.a.rows.tab, hrow, h.a.rows.calls⟩, h.a.rd, h.a.bl⟩, h.hp, h.p⟩
end
theorem say_zero {b : Bool} {e : Int} {s : ByteArray × Int} (he : e ≠ 0) (h : (sayM b e s).2 = 0) : s.2 = 0 ∧ b = false := by
  unfold sayM at h
  split at h
  · exact absurd h he
  · rename_i hn
    refine ⟨h, ?_⟩
    cases b with
    | false => rfl
    | true => exact absurd ⟨rfl, h⟩ hn
theorem isEmpty_iff {l : List UInt8} : (!l.isEmpty) = false ↔ l = [] := by cases l <;> simp
theorem endE_say1 {t : ByteArray} {x : Shot} {s : ByteArray × Int} (h : ¬ (sayM (!s.1.toList.isEmpty) 4 s).2 = 0) : endE t x s = (sayM (!s.1.toList.isEmpty) 4 s).2 := by
  by_cases h0 : s.2 = 0
  · by_cases h1 : s.1.toList = []
    · exfalso
      apply h
      unfold sayM
      rw [h1]
      simp [h0]
    · rw [endE_rest h0 h1]
      unfold sayM
      rw [if_pos ⟨by cases hh : s.1.toList with
        | nil => exact absurd hh h1
        | cons a r => rfl, h0⟩]
  · rw [endE_bad h0]
    unfold sayM
    rw [if_neg (fun g => h0 g.2)]
theorem endE_say2 {t : ByteArray} {x : Shot} {s : ByteArray × Int} (h : s.2 = 0) (h1 : (!s.1.toList.isEmpty) = false) : endE t x s = (sayM (!(shotS x).toList == t.toList) 4 s).2 := by
  have h2 := isEmpty_iff.1 h1
  cases hb : (!(shotS x).toList == t.toList) with
  | true =>
    rw [endE_other h hb]
    unfold sayM
    rw [if_pos ⟨rfl, h⟩]
  | false =>
    rw [endE_good h h2 hb]
    unfold sayM
    rw [if_neg (by simp)]
    exact h.symm
end Go.Proofs.Ytpapblahnbeccaa
