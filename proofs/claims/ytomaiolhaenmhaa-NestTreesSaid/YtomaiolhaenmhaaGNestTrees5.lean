/-
  TREES OF BODIES, the plain law: a body that passes is a row of parts and an end; how deep and how many, counted along the row. No condition.
-/
import Derived.Test.YtomaiolhaenmhaaKt
import Derived.Test.YtomaiolhaenmhaaNsB
import Derived.Test.YtomaiolhaenmhaaGNestTrees4
import Derived.Deep.RegionLaw
namespace Go.Proofs.Ytomaiolhaenmhaa
open Go.RowKit Go.Lib

def endI : It := ⟨11, 0, 0, []⟩
def elseI : It := ⟨5, 0, 0, []⟩
/-- a row of parts: how deep, how many blocks -/
inductive Seg : List It → Nat → Nat → Prop
  | nil : Seg [] 0 0
  | one (x : It) (xs : List It) (d s : Nat) : ¬ (x.op = 2 ∨ x.op = 3 ∨ x.op = 4 ∨ x.op = 5 ∨ x.op = 11) → Seg xs d s → Seg (x :: xs) d s
  | blk (x : It) (ys xs : List It) (d1 s1 d s : Nat) : (x.op = 2 ∨ x.op = 3) → Seg ys d1 s1 → Seg xs d s → Seg (x :: (ys ++ endI :: xs)) (max (d1 + 1) d) (s1 + 1 + s)
  | half (x : It) (ys xs : List It) (d1 s1 d s : Nat) : x.op = 4 → Seg ys d1 s1 → Seg xs d s → Seg (x :: (ys ++ endI :: xs)) (max (d1 + 1) d) (s1 + 1 + s)
  | both (x : It) (ys zs xs : List It) (d1 s1 d2 s2 d s : Nat) : x.op = 4 → Seg ys d1 s1 → Seg zs d2 s2 → Seg xs d s → Seg (x :: (ys ++ elseI :: (zs ++ endI :: xs))) (max (max d1 d2 + 1) d) (s1 + s2 + 1 + s)
theorem chk1_is {A B : Int} {xs : List Int} (h : chkI 1 A B xs = 0) : A = 0 ∧ B = 0 ∧ xs = [] := by
  unfold chkI at h
  rw [if_neg (by decide)] at h
  split at h
  · exact absurd h (by decide)
  split at h
  · next g =>
    simp [okA, okB, okT] at g
    exact ⟨g.1.1, g.1.2, g.2⟩
  · exact absurd h (by decide)
theorem end_is {x : It} (h : itC x = 0) (ho : x.op = 11) : x = endI := by
  obtain ⟨op, A, B, xs⟩ := x
  simp only at ho
  subst ho
  obtain ⟨rfl, rfl, rfl⟩ := chk1_is (show chkI 1 A B xs = 0 from h)
  rfl
theorem else_is {x : It} (h : itC x = 0) (ho : x.op = 5) : x = elseI := by
  obtain ⟨op, A, B, xs⟩ := x
  simp only at ho
  subst ho
  obtain ⟨rfl, rfl, rfl⟩ := chk1_is (show chkI 1 A B xs = 0 from h)
  rfl
theorem chk_cons {x : It} {l : List It} {k : Nat} {st : Stk × Bool} (h : chkR itC It.op (x :: l) k st = 0) : itC x = 0 ∧ (wnext st x.op k).1.2 = 0 ∧ chkR itC It.op l (k + 1) (wnext st x.op k).2 = 0 := by
  rw [chkR] at h
  split at h
  · next g => exact absurd h g
  · next g =>
    split at h
    · next g2 => exact absurd h g2
    · next g2 => exact ⟨Classical.not_not.1 g, Classical.not_not.1 g2, h⟩
theorem wn_open {T : Stk} {op : Nat} {k : Int} (h2 : op = 2 ∨ op = 3 ∨ op = 4) (h : (wnext (T, false) op k).1.2 = 0) : (wnext (T, false) op k).2 = ((k, op) :: T, false) := by
  unfold wnext at h ⊢
  rw [if_neg (by simp), if_pos h2] at h ⊢
  split
  · next g => rw [if_pos g] at h; exact absurd h (by show ¬ ((7 : Int) = 0); decide)
  · rfl
theorem wx_else {p : Int} {v : Nat} {T : Stk} {k : Int} (h : (wnext ((p, v) :: T, false) 5 k).1.2 = 0) : v = 4 ∧ (wnext ((p, v) :: T, false) 5 k).2 = ((p, 5) :: T, false) := by
  unfold wnext at h ⊢
  rw [if_neg (by simp), if_neg (by decide), if_pos rfl] at h ⊢
  simp only at h ⊢
  by_cases g : v ≠ 4
  · rw [if_pos g] at h; exact absurd h (by show ¬ ((4 : Int) = 0); decide)
  · rw [if_neg g]; exact ⟨Classical.not_not.1 g, rfl⟩
theorem wx_end (p : Int) (v : Nat) (T : Stk) (k : Int) : (wnext ((p, v) :: T, false) 11 k).2 = (T, decide (T.length = 0)) := by
  unfold wnext
  rw [if_neg (by simp), if_neg (by decide), if_neg (by decide), if_pos rfl]
theorem seg_of (n : Nat) : ∀ (l : List It) (k : Nat) (T : Stk), l.length ≤ n → T ≠ [] → chkR itC It.op l k (T, false) = 0 →
    ∃ (ys : List It) (e : It) (r : List It) (d s : Nat), l = ys ++ e :: r ∧ Seg ys d s ∧ itC e = 0 ∧ (e.op = 5 ∨ e.op = 11) ∧ chkR itC It.op (e :: r) (k + ys.length) (T, false) = 0 := by
  induction n with
  | zero =>
    intro l k T hn hT h
    obtain rfl : l = [] := List.length_eq_zero_iff.1 (by omega)
    simp [chkR] at h
  | succ n ih =>
    intro l k T hn hT h
    cases l with
    | nil => simp [chkR] at h
    | cons x l =>
      have hc := chk_cons h
      simp only [List.length_cons] at hn
      by_cases h5 : x.op = 5 ∨ x.op = 11
      · exact ⟨[], x, l, 0, 0, rfl, .nil, hc.1, h5, h⟩
      by_cases h2 : x.op = 2 ∨ x.op = 3 ∨ x.op = 4
      · rw [wn_open h2 hc.2.1] at hc
        obtain ⟨ys, e, r, d1, s1, rfl, hs, he, ho, hr⟩ := ih l (k + 1) ((k, x.op) :: T) (by omega) (by simp) hc.2.2
        have hc2 := chk_cons hr
        simp only [List.length_append, List.length_cons] at hn
        rcases ho with ho | ho
        · rw [ho] at hc2
          obtain ⟨h4, h6⟩ := wx_else hc2.2.1
          rw [h6] at hc2
          obtain rfl := else_is he ho
          obtain ⟨zs, e2, r2, d2, s2, rfl, hs2, he2, ho2, hr2⟩ := ih r _ ((k, 5) :: T) (by omega) (by simp) hc2.2.2
          have hc3 := chk_cons hr2
          simp only [List.length_append, List.length_cons] at hn
          rcases ho2 with ho2 | ho2
          · rw [ho2] at hc3
            exact absurd (wx_else hc3.2.1).1 (by decide)
          · rw [ho2, wx_end, decide_eq_false (by simpa using hT)] at hc3
            obtain rfl := end_is he2 ho2
            obtain ⟨xs, e3, r3, d, s, rfl, hs3, he3, ho3, hr3⟩ := ih r2 _ T (by omega) hT hc3.2.2
            refine ⟨x :: (ys ++ elseI :: (zs ++ endI :: xs)), e3, r3, _, _, by simp, .both x ys zs xs d1 s1 d2 s2 d s h4 hs hs2 hs3, he3, ho3, ?_⟩
            rw [← hr3]
            congr 1
            simp only [List.length_append, List.length_cons]
            omega
        · rw [ho, wx_end, decide_eq_false (by simpa using hT)] at hc2
          obtain rfl := end_is he ho
          obtain ⟨xs, e3, r3, d, s, rfl, hs3, he3, ho3, hr3⟩ := ih r _ T (by omega) hT hc2.2.2
          have hch : chkR itC It.op (e3 :: r3) (k + (x :: (ys ++ endI :: xs)).length) (T, false) = 0 := by
            rw [← hr3]
            congr 1
            simp only [List.length_append, List.length_cons]
            omega
          by_cases h4 : x.op = 4
          · exact ⟨x :: (ys ++ endI :: xs), e3, r3, _, _, by simp, .half x ys xs d1 s1 d s h4 hs hs3, he3, ho3, hch⟩
          · exact ⟨x :: (ys ++ endI :: xs), e3, r3, _, _, by simp, .blk x ys xs d1 s1 d s (by omega) hs hs3, he3, ho3, hch⟩
      · have hw := wn_plain (T := T) (op := x.op) (k := k) h2 (fun g => h5 (.inl g)) (fun g => h5 (.inr g))
        rw [hw] at hc
        obtain ⟨ys, e, r, d, s, rfl, hs, he, ho, hr⟩ := ih l (k + 1) T (by omega) hT hc.2.2
        refine ⟨x :: ys, e, r, d, s, rfl, .one x ys d s (by omega) hs, he, ho, ?_⟩
        rw [← hr]
        congr 1
        simp only [List.length_cons]
        omega
/-- a body that passes -/
theorem body_seg {l : List It} (h : ncM l = 0) : l.length ≤ 200 ∧ ∃ ys d s, l = ys ++ [endI] ∧ Seg ys d s := by
  unfold ncM at h
  by_cases hb : 200 < l.length
  · rw [if_pos hb] at h; exact absurd h (by decide)
  rw [if_neg hb] at h
  refine ⟨by omega, ?_⟩
  obtain ⟨ys, e, r, d, s, rfl, hs, he, ho, hr⟩ := seg_of l.length l 0 [(-1, 2)] (Nat.le_refl _) (by simp) h
  have hc := chk_cons hr
  rcases ho with ho | ho
  · rw [ho] at hc
    exact absurd (wx_else hc.2.1).1 (by decide)
  · rw [ho, wx_end] at hc
    obtain rfl := end_is he ho
    refine ⟨ys, d, s, ?_, hs⟩
    cases r with
    | nil => rfl
    | cons y r =>
      have := (chk_cons hc.2.2).2.1
      exact absurd this (by simp [wnext])
theorem Seg.le {ys : List It} {d s : Nat} (h : Seg ys d s) : d ≤ ys.length ∧ s ≤ ys.length := by
  induction h with
  | nil => simp
  | one x xs d s _ _ ih => simp only [List.length_cons]; omega
  | blk x ys xs d1 s1 d s _ _ _ i1 i2 => simp only [List.length_cons, List.length_append]; omega
  | half x ys xs d1 s1 d s _ _ _ i1 i2 => simp only [List.length_cons, List.length_append]; omega
  | both x ys zs xs d1 s1 d2 s2 d s _ _ _ _ i1 i2 i3 => simp only [List.length_cons, List.length_append]; omega
/-- the reference's count: open, most, all -/
def dp1 (q : Int × Int × Int) (op : Nat) : Int × Int × Int :=
  if 2 ≤ op ∧ op ≤ 4 then (q.1 + 1, max q.2.1 (q.1 + 1), q.2.2 + 1) else if op = 11 then (q.1 - 1, max q.2.1 (q.1 - 1), q.2.2) else (q.1, max q.2.1 q.1, q.2.2)
def dpL (l : List It) (q : Int × Int × Int) : Int × Int × Int := l.foldl (fun q x => dp1 q x.op) q
theorem dp_cons (x : It) (l : List It) (q : Int × Int × Int) : dpL (x :: l) q = dpL l (dp1 q x.op) := rfl
theorem dp_app (l r : List It) (q : Int × Int × Int) : dpL (l ++ r) q = dpL r (dpL l q) := by simp [dpL]
theorem dp_open {op : Nat} (h : op = 2 ∨ op = 3 ∨ op = 4) (o m a : Int) : dp1 (o, m, a) op = (o + 1, max m (o + 1), a + 1) := by unfold dp1; rw [if_pos (by omega)]
theorem dp_end (o m a : Int) : dp1 (o, m, a) endI.op = (o - 1, max m (o - 1), a) := rfl
theorem dp_else (o m a : Int) : dp1 (o, m, a) elseI.op = (o, max m o, a) := rfl
theorem q3 {a b c d e f : Int} (h1 : a = d) (h2 : b = e) (h3 : c = f) : (a, b, c) = (d, e, f) := by rw [h1, h2, h3]
theorem seg_dp {ys : List It} {d s : Nat} (h : Seg ys d s) : ∀ (o m a : Int), o ≤ m → dpL ys (o, m, a) = (o, max m (o + d), a + s) := by
  induction h with
  | nil => intro o m a h; exact q3 rfl (by omega) (by omega)
  | one x xs d s hx _ ih =>
    intro o m a h
    rw [dp_cons, show dp1 (o, m, a) x.op = (o, max m o, a) by unfold dp1; rw [if_neg (by omega), if_neg (by omega)], ih _ _ _ (by omega)]
    exact q3 rfl (by omega) rfl
  | blk x ys xs d1 s1 d s hx _ _ i1 i2 =>
    intro o m a h
    rw [dp_cons, dp_open (by omega), dp_app, i1 _ _ _ (by omega), dp_cons, dp_end, i2 _ _ _ (by omega)]
    exact q3 (by omega) (by omega) (by omega)
  | half x ys xs d1 s1 d s hx _ _ i1 i2 =>
    intro o m a h
    rw [dp_cons, dp_open (by omega), dp_app, i1 _ _ _ (by omega), dp_cons, dp_end, i2 _ _ _ (by omega)]
    exact q3 (by omega) (by omega) (by omega)
  | both x ys zs xs d1 s1 d2 s2 d s hx _ _ _ i1 i2 i3 =>
    intro o m a h
    rw [dp_cons, dp_open (by omega), dp_app, i1 _ _ _ (by omega), dp_cons, dp_else, dp_app, i2 _ _ _ (by omega), dp_cons, dp_end, i3 _ _ _ (by omega)]
    exact q3 (by omega) (by omega) (by omega)
theorem body_dp {ys : List It} {d s : Nat} (h : Seg ys d s) : dpL (ys ++ [endI]) (0, 0, 0) = (-1, (d : Int), (s : Int)) := by
  rw [dp_app, seg_dp h 0 0 0 (by omega)]
  show dp1 _ endI.op = _
  rw [dp_end]
  exact q3 (by omega) (by omega) (by omega)
end Go.Proofs.Ytomaiolhaenmhaa
/-
  THE REFERENCE's CURSOR: octet. Conditions: lengths in the form's reach.
-/
namespace Go.Proofs.Ytomaiolhaenmhaa
open Go.RowKit Go.Lib
attribute [local go_sem ↓] Go.wp_at_zero Go.wp_at_succ

theorem say_same {is : Bool} {e : Int} {s : ByteArray × Int} (h : s.2 ≠ 0) : sayM is e s = s := if_neg (fun g => h g.2)
set_option maxRecDepth 100000 in
set_option maxHeartbeats 1000000 in
theorem coctet_any (w : World) (B : Nat) (all : Int) (s : ByteArray × Int) (h : CuB w B all s) (hs : okSc s) :
    Calls Try.prog 110 #[.pointer (some ⟨B, 0, none⟩)] w fun r w' => r = .returned (.int .i64 (octM s).1) ∧ CuB w' B all (octM s).2 ∧ ToC B w w' := by
  have HS := hid (fun is => csay_any w B all s is 3 h)
  obtain ⟨rest, bad⟩ := s
  unfold okSc at hs
  unfold octM
  simp only at hs HS ⊢
  have b0 := h.cell (i := 0) rfl
  clear h
  by_cases hb : bad ≠ 0
  · rw [if_pos hb]
    have hb2 : (bad != 0) = true := by simpa using hb
    have HS2 := hid (fun is => by have := HS.out is; rw [say_same (s := (rest, bad)) hb] at this; exact this)
    clear hb HS
    go_enter Try.func110, Try.ntmps110
    go_wp2_with fail
    refine (HS2.out _).mono ?_
    rintro r w1 ⟨rfl, h1, h2⟩
    have c2 := h1.cell (i := 2) rfl
    have HX := hid (And.intro h1 h2)
    clear h1 h2
    go_wp2_with fail
    go_ret
    exact ⟨rfl, HX.out.1, HX.out.2⟩
  · rw [if_neg hb]
    have hb0 : bad = 0 := Classical.byContradiction hb
    subst hb0
    clear hb
    by_cases hz : 0 < rest.size
    · rw [dif_pos hz]
      have hne : (rest.toList == []) = false := by
        rw [ByteArray.toList_eq]
        obtain ⟨⟨l⟩⟩ := rest
        cases l with
        | nil => exact absurd hz (by decide)
        | cons a r => rfl
      have HS2 := hid (show Calls Try.prog 112 #[.pointer (some ⟨B, 0, none⟩), .bool false, .int .i64 3] w fun r w' => r = .returned (.tuple #[]) ∧ CuB w' B all (rest, 0) ∧ ToC B w w' from HS.out false)
      have RI := fun wx => (run_index_string wx 9 rest .i64 (0 : Int) Try.underlying9).trans (dif_pos (show (0 : Int) ≤ 0 ∧ (0 : Int) < (rest.size : Int) from ⟨Int.le_refl _, by omega⟩))
      simp only [Int.toNat_zero] at RI
      have hv : (rest[0]'hz).toNat < 256 := UInt8.toNat_lt _
      have hk1 : (1 : Int) ≤ (rest.size : Int) := by omega
      have hx : ¬ (9223372036854775807 < rest.size) := by omega
      generalize (rest[0]'hz).toNat = V at *
      have hw : wrap64 (V : Int) = V := by unfold wrap64; omega
      have hwi : IntKind.i64.wrap (V : Int) = V := IntWalk.i64_in _ (by omega)
      clear HS hz hv
      go_enter Try.func110, Try.ntmps110
      go_wp2_with fail
      refine HS2.out.mono ?_
      rintro r w1 ⟨rfl, h1, h2⟩
      have c0 := h1.cell (i := 0) rfl
      have c2 := h1.cell (i := 2) rfl
      have cf := h1.free 0
      have HX := hid (And.intro (h1.set 0 (.string (rest.extract 1 rest.size))) h2)
      clear h1 h2
      go_wp2_with fail
      go_ret
      exact ⟨rfl, HX.out.1, HX.out.2.trans (Touch.setCell (F := fun j => j = B) (a := ⟨B, 0, none⟩) rfl _)⟩
    · rw [dif_neg hz]
      have hne : (rest.toList == []) = true := by
        rw [ByteArray.toList_eq]
        obtain ⟨⟨l⟩⟩ := rest
        cases l with
        | nil => rfl
        | cons a r => exact absurd (Nat.succ_pos _) hz
      have HS2 := hid (show Calls Try.prog 112 #[.pointer (some ⟨B, 0, none⟩), .bool true, .int .i64 3] w fun r w' => r = .returned (.tuple #[]) ∧ CuB w' B all (rest, 3) ∧ ToC B w w' from HS.out true)
      clear HS hz
      go_enter Try.func110, Try.ntmps110
      go_wp2_with fail
      refine HS2.out.mono ?_
      rintro r w1 ⟨rfl, h1, h2⟩
      have c2 := h1.cell (i := 2) rfl
      have HX := hid (And.intro h1 h2)
      clear h1 h2
      go_wp2_with fail
      go_ret
      exact ⟨rfl, HX.out.1, HX.out.2⟩
end Go.Proofs.Ytomaiolhaenmhaa
/-
  INSTRUCTIONS: the program's reader, what stands beside an instruction: every kind but one (ways). Conditions: lengths in the form's reach.
-/
namespace Go.Proofs.Ytomaiolhaenmhaa
open Go.RowKit Go.Lib
attribute [local go_sem ↓] Go.wp_at_zero Go.wp_at_succ

/-- the reader at block R, of text t, with s left; the instruction at block X -/
structure DuI (w : World) (R X : Nat) (t : ByteArray) (s : ByteArray × Int) (op : Nat) (A B : Int) (u : Value) : Prop where
  rd : ∃ a, a ≤ t.size ∧ s.1 = left t a ∧ IrB w R t a s.2
  ins : Blk w X 90 [.int .u8 op, .int .i64 A, .int .i64 B, u]
  ne : R ≠ X
  sz : t.size ≤ 140737488351232
abbrev ToD (R X : Nat) (w w' : World) : Prop := Touch (fun k => k = R ∨ k = X) w w'
section
variable {w : World} {R X : Nat} {t : ByteArray} {s : ByteArray × Int} {op : Nat} {A B : Int} {u : Value}
theorem DuI.setA (h : DuI w R X t s op A B u) (C : Int) : DuI (w.setCell ⟨X, 1, none⟩ (.int .i64 C)) R X t s op C B u := by
  obtain ⟨a, h1, h2, h3⟩ := h.rd
  exact ⟨⟨a, h1, h2, h3.other (fun g => h.ne g.symm) _⟩, h.ins.set 1 _, h.ne, h.sz⟩
theorem DuI.setB (h : DuI w R X t s op A B u) (C : Int) : DuI (w.setCell ⟨X, 2, none⟩ (.int .i64 C)) R X t s op A C u := by
  obtain ⟨a, h1, h2, h3⟩ := h.rd
  exact ⟨⟨a, h1, h2, h3.other (fun g => h.ne g.symm) _⟩, h.ins.set 2 _, h.ne, h.sz⟩
theorem DuI.next {w' : World} {s' : ByteArray × Int} (h : DuI w R X t s op A B u) (g : ∃ a', a' ≤ t.size ∧ s'.1 = left t a' ∧ IrB w' R t a' s'.2) (ht : ToI R w w') : DuI w' R X t s' op A B u :=
  ⟨g, h.ins.touch ht (fun e => h.ne e.symm), h.ne, h.sz⟩
theorem ToD.of {w' : World} (h : ToI R w w') : ToD R X w w' := h.mono (fun _ _ g => Or.inl g)
theorem ToD.put (w : World) (i : Nat) (v : Value) : ToD R X w (w.setCell ⟨X, i, none⟩ v) := Touch.setCell (a := ⟨X, i, none⟩) (Or.inr rfl) v
theorem dplain (h : DuI w R X t s op A B u) :
    Calls Try.prog 162 #[.pointer (some ⟨R, 0, none⟩)] w fun r w' => r = .returned (.int .i64 (numM s).1) ∧ DuI w' R X t (numM s).2 op A B u ∧ ToD R X w w' := by
  obtain ⟨a, h1, h2, h3⟩ := h.rd
  have k := iplain_any w R t a s.2 h3 h1 h.sz
  rw [← h2] at k
  exact k.mono (fun _ _ ⟨e, g, ht⟩ => ⟨e, h.next g ht, .of ht⟩)
theorem dsigned (bits : Nat) (hb : bits = 32 ∨ bits = 64) (h : DuI w R X t s op A B u) (h0 : s.2 = 0) :
    Calls Try.prog 164 #[.pointer (some ⟨R, 0, none⟩), .int .i64 bits] w fun r w' => r = .returned (.int .i64 (sgnM bits s).1) ∧ DuI w' R X t (sgnM bits s).2 op A B u ∧ ToD R X w w' := by
  obtain ⟨a, h1, h2, h3⟩ := h.rd
  rw [h0] at h3
  have k := isigned_any w R t a bits hb h3 h1 h.sz
  rw [← h2, show (s.1, (0 : Int)) = s by rw [← h0]] at k
  exact k.mono (fun _ _ ⟨e, g, ht⟩ => ⟨e, h.next g ht, .of ht⟩)
theorem doctet (h : DuI w R X t s op A B u) :
    Calls Try.prog 105 #[.pointer (some ⟨R, 0, none⟩)] w fun r w' => r = .returned (.int .u8 (octM s).1) ∧ DuI w' R X t (octM s).2 op A B u ∧ ToD R X w w' := by
  obtain ⟨a, h1, h2, h3⟩ := h.rd
  have k := ioctet_any w R t a s.2 h3 h1 h.sz
  rw [← h2] at k
  exact k.mono (fun _ _ ⟨e, g, ht⟩ => ⟨e, h.next g ht, .of ht⟩)
theorem dnought (h : DuI w R X t s op A B u) :
    Calls Try.prog 163 #[.pointer (some ⟨R, 0, none⟩)] w fun r w' => r = .returned (.tuple #[]) ∧ DuI w' R X t (nogM s) op A B u ∧ ToD R X w w' := by
  obtain ⟨a, h1, h2, h3⟩ := h.rd
  have k := inought_any w R t a s.2 h3 h1 h.sz
  rw [← h2] at k
  exact k.mono (fun _ _ ⟨e, g, ht⟩ => ⟨e, h.next g ht, .of ht⟩)
theorem say_true (e : Int) (s : ByteArray × Int) : sayM true e s = (s.1, bad1 e s.2) := by
  unfold sayM bad1
  simp only [true_and]
  split <;> rfl
theorem dfail (e : Int) (h : DuI w R X t s op A B u) :
    Calls Try.prog 107 #[.pointer (some ⟨R, 0, none⟩), .int .i64 e] w fun r w' => r = .returned (.tuple #[]) ∧ DuI w' R X t (sayM true e s) op A B u ∧ ToD R X w w' := by
  obtain ⟨a, h1, h2, h3⟩ := h.rd
  rw [say_true]
  exact (ifail_any w R t a s.2 e h3).mono (fun _ _ ⟨e, g, ht⟩ => ⟨e, h.next ⟨a, h1, h2, g⟩ ht, .of ht⟩)
end
/-- block: the letter is a kind or none -/
def okK (n : Nat) : Bool := n != 64 && (n != 127 && n != 126)

set_option maxRecDepth 100000 in
set_option maxHeartbeats 1000000 in
theorem ibs_1 (w : World) (R X : Nat) (t : ByteArray) (s : ByteArray × Int) (op : Nat) (u : Value) (h : DuI w R X t s op 0 0 u) :
    Calls Try.prog 108 #[.pointer (some ⟨R, 0, none⟩), .pointer (some ⟨X, 0, none⟩), .int .i64 1] w fun r w' => r = .returned (.tuple #[]) ∧ DuI w' R X t s op 0 0 u ∧ ToD R X w w' := by
  have H0 := hid h
  clear h
  go_enter Try.func108, Try.ntmps108
  go_wp2_with fail
  go_end0
  exact ⟨rfl, H0.out, Touch.refl _ _⟩

set_option maxRecDepth 100000 in
set_option maxHeartbeats 1000000 in
theorem ibs_3 (w : World) (R X : Nat) (t : ByteArray) (s : ByteArray × Int) (op : Nat) (u : Value) (h : DuI w R X t s op 0 0 u) :
    Calls Try.prog 108 #[.pointer (some ⟨R, 0, none⟩), .pointer (some ⟨X, 0, none⟩), .int .i64 3] w fun r w' => r = .returned (.tuple #[]) ∧ DuI w' R X t (numM s).2 op (numM s).1 0 u ∧ ToD R X w w' := by
  have H0 := hid h
  clear h
  go_enter Try.func108, Try.ntmps108
  go_wp2_with fail
  refine (dplain H0.out).mono ?_
  rintro r0 w1 ⟨rfl, g1, g2⟩
  have bf0 := g1.ins.free
  have ba0 := g1.ins.cell (i := 1) rfl
  have bb0 := g1.ins.cell (i := 2) rfl
  have H1 := hid (And.intro g1 g2)
  clear g1 g2
  go_wp2_with fail
  go_end0
  exact ⟨rfl, (H1.out.1.setA _), ((Touch.refl _ _).trans H1.out.2).trans (ToD.put _ _ _)⟩

set_option maxRecDepth 100000 in
set_option maxHeartbeats 1000000 in
theorem ibs_5 (w : World) (R X : Nat) (t : ByteArray) (s : ByteArray × Int) (op : Nat) (u : Value) (h : DuI w R X t s op 0 0 u) :
    Calls Try.prog 108 #[.pointer (some ⟨R, 0, none⟩), .pointer (some ⟨X, 0, none⟩), .int .i64 5] w fun r w' => r = .returned (.tuple #[]) ∧ DuI w' R X t (nogM (numM s).2) op (numM s).1 0 u ∧ ToD R X w w' := by
  have H0 := hid h
  clear h
  go_enter Try.func108, Try.ntmps108
  go_wp2_with fail
  refine (dplain H0.out).mono ?_
  rintro r0 w1 ⟨rfl, g1, g2⟩
  have bf0 := g1.ins.free
  have ba0 := g1.ins.cell (i := 1) rfl
  have bb0 := g1.ins.cell (i := 2) rfl
  have H1 := hid (And.intro g1 g2)
  clear g1 g2
  go_wp2_with fail
  refine (dnought (H1.out.1.setA _)).mono ?_
  rintro r1 w2 ⟨rfl, g1, g2⟩
  have H2 := hid (And.intro g1 g2)
  clear g1 g2
  go_wp2_with fail
  go_end0
  exact ⟨rfl, H2.out.1, (((Touch.refl _ _).trans H1.out.2).trans (ToD.put _ _ _)).trans H2.out.2⟩

set_option maxRecDepth 100000 in
set_option maxHeartbeats 1000000 in
theorem ibs_6 (w : World) (R X : Nat) (t : ByteArray) (s : ByteArray × Int) (op : Nat) (u : Value) (h : DuI w R X t s op 0 0 u) :
    Calls Try.prog 108 #[.pointer (some ⟨R, 0, none⟩), .pointer (some ⟨X, 0, none⟩), .int .i64 6] w fun r w' => r = .returned (.tuple #[]) ∧ DuI w' R X t (numM (numM s).2).2 op (numM s).1 (numM (numM s).2).1 u ∧ ToD R X w w' := by
  have H0 := hid h
  clear h
  go_enter Try.func108, Try.ntmps108
  go_wp2_with fail
  refine (dplain H0.out).mono ?_
  rintro r0 w1 ⟨rfl, g1, g2⟩
  have bf0 := g1.ins.free
  have ba0 := g1.ins.cell (i := 1) rfl
  have bb0 := g1.ins.cell (i := 2) rfl
  have H1 := hid (And.intro g1 g2)
  clear g1 g2
  go_wp2_with fail
  refine (dplain (H1.out.1.setA _)).mono ?_
  rintro r1 w2 ⟨rfl, g1, g2⟩
  have bf1 := g1.ins.free
  have ba1 := g1.ins.cell (i := 1) rfl
  have bb1 := g1.ins.cell (i := 2) rfl
  have H2 := hid (And.intro g1 g2)
  clear g1 g2
  go_wp2_with fail
  go_end0
  exact ⟨rfl, (H2.out.1.setB _), ((((Touch.refl _ _).trans H1.out.2).trans (ToD.put _ _ _)).trans H2.out.2).trans (ToD.put _ _ _)⟩

set_option maxRecDepth 100000 in
set_option maxHeartbeats 1000000 in
theorem ibs_7 (w : World) (R X : Nat) (t : ByteArray) (s : ByteArray × Int) (op : Nat) (u : Value) (h : DuI w R X t s op 0 0 u) :
    Calls Try.prog 108 #[.pointer (some ⟨R, 0, none⟩), .pointer (some ⟨X, 0, none⟩), .int .i64 7] w fun r w' => r = .returned (.tuple #[]) ∧ DuI w' R X t (nogM s) op 0 0 u ∧ ToD R X w w' := by
  have H0 := hid h
  clear h
  go_enter Try.func108, Try.ntmps108
  go_wp2_with fail
  refine (dnought H0.out).mono ?_
  rintro r0 w1 ⟨rfl, g1, g2⟩
  have H1 := hid (And.intro g1 g2)
  clear g1 g2
  go_wp2_with fail
  go_end0
  exact ⟨rfl, H1.out.1, (Touch.refl _ _).trans H1.out.2⟩

set_option maxRecDepth 100000 in
set_option maxHeartbeats 1000000 in
theorem ibs_8 (w : World) (R X : Nat) (t : ByteArray) (s : ByteArray × Int) (op : Nat) (u : Value) (h : DuI w R X t s op 0 0 u) (h0 : s.2 = 0) :
    Calls Try.prog 108 #[.pointer (some ⟨R, 0, none⟩), .pointer (some ⟨X, 0, none⟩), .int .i64 8] w fun r w' => r = .returned (.tuple #[]) ∧ DuI w' R X t (sgnM 32 s).2 op (sgnM 32 s).1 0 u ∧ ToD R X w w' := by
  have H0 := hid h
  clear h
  go_enter Try.func108, Try.ntmps108
  go_wp2_with fail
  refine (dsigned 32 (.inl rfl) H0.out h0).mono ?_
  rintro r0 w1 ⟨rfl, g1, g2⟩
  have bf0 := g1.ins.free
  have ba0 := g1.ins.cell (i := 1) rfl
  have bb0 := g1.ins.cell (i := 2) rfl
  have H1 := hid (And.intro g1 g2)
  clear g1 g2
  go_wp2_with fail
  go_end0
  exact ⟨rfl, (H1.out.1.setA _), ((Touch.refl _ _).trans H1.out.2).trans (ToD.put _ _ _)⟩

set_option maxRecDepth 100000 in
set_option maxHeartbeats 1000000 in
theorem ibs_9 (w : World) (R X : Nat) (t : ByteArray) (s : ByteArray × Int) (op : Nat) (u : Value) (h : DuI w R X t s op 0 0 u) (h0 : s.2 = 0) :
    Calls Try.prog 108 #[.pointer (some ⟨R, 0, none⟩), .pointer (some ⟨X, 0, none⟩), .int .i64 9] w fun r w' => r = .returned (.tuple #[]) ∧ DuI w' R X t (sgnM 64 s).2 op (sgnM 64 s).1 0 u ∧ ToD R X w w' := by
  have H0 := hid h
  clear h
  go_enter Try.func108, Try.ntmps108
  go_wp2_with fail
  refine (dsigned 64 (.inr rfl) H0.out h0).mono ?_
  rintro r0 w1 ⟨rfl, g1, g2⟩
  have bf0 := g1.ins.free
  have ba0 := g1.ins.cell (i := 1) rfl
  have bb0 := g1.ins.cell (i := 2) rfl
  have H1 := hid (And.intro g1 g2)
  clear g1 g2
  go_wp2_with fail
  go_end0
  exact ⟨rfl, (H1.out.1.setA _), ((Touch.refl _ _).trans H1.out.2).trans (ToD.put _ _ _)⟩

theorem octM_lt (s : ByteArray × Int) : (octM s).1 < 256 := by
  unfold octM
  split
  · exact (by decide : 0 < 256)
  · split
    · exact UInt8.toNat_lt _
    · exact (by decide : 0 < 256)
theorem say_false (e : Int) (s : ByteArray × Int) : sayM false e s = s := if_neg (fun g => by simp at g)
set_option maxRecDepth 100000 in
set_option maxHeartbeats 1000000 in
theorem ibs_2 (w : World) (R X : Nat) (t : ByteArray) (s : ByteArray × Int) (op : Nat) (u : Value) (h : DuI w R X t s op 0 0 u) :
    Calls Try.prog 108 #[.pointer (some ⟨R, 0, none⟩), .pointer (some ⟨X, 0, none⟩), .int .i64 2] w fun r w' => r = .returned (.tuple #[]) ∧ DuI w' R X t (sayM (okK (octM s).1) 6 (octM s).2) op (octM s).1 0 u ∧ ToD R X w w' := by
  have H0 := hid (doctet h)
  have hlt := octM_lt s
  generalize octM s = q at *
  obtain ⟨n, s1⟩ := q
  simp only at H0 hlt ⊢
  clear h
  have hw : IntKind.i64.wrap (n : Int) = n := IntWalk.i64_in _ (by omega)
  have hw2 : wrap64 (n : Int) = n := by unfold wrap64; omega
  by_cases h64 : n = 64
  · subst h64
    rw [show okK 64 = false from rfl, say_false]
    go_enter Try.func108, Try.ntmps108
    go_wp2_with fail
    refine H0.out.mono ?_
    rintro r0 w1 ⟨rfl, g1, g2⟩
    have bf0 := g1.ins.free
    have ba0 := g1.ins.cell (i := 1) rfl
    have H1 := hid (And.intro g1 g2)
    clear g1 g2
    go_wp2_with fail
    go_end0
    exact ⟨rfl, (H1.out.1).setA _, H1.out.2.trans (ToD.put _ _ _)⟩
  by_cases h127 : n = 127
  · subst h127
    rw [show okK 127 = false from rfl, say_false]
    go_enter Try.func108, Try.ntmps108
    go_wp2_with fail
    refine H0.out.mono ?_
    rintro r0 w1 ⟨rfl, g1, g2⟩
    have bf0 := g1.ins.free
    have ba0 := g1.ins.cell (i := 1) rfl
    have H1 := hid (And.intro g1 g2)
    clear g1 g2
    go_wp2_with fail
    go_end0
    exact ⟨rfl, (H1.out.1).setA _, H1.out.2.trans (ToD.put _ _ _)⟩
  by_cases h126 : n = 126
  · subst h126
    rw [show okK 126 = false from rfl, say_false]
    go_enter Try.func108, Try.ntmps108
    go_wp2_with fail
    refine H0.out.mono ?_
    rintro r0 w1 ⟨rfl, g1, g2⟩
    have bf0 := g1.ins.free
    have ba0 := g1.ins.cell (i := 1) rfl
    have H1 := hid (And.intro g1 g2)
    clear g1 g2
    go_wp2_with fail
    go_end0
    exact ⟨rfl, (H1.out.1).setA _, H1.out.2.trans (ToD.put _ _ _)⟩
  · have e1 : ((n : Int) != 64) = true := by simp; omega
    have e2 : ((n : Int) != 127) = true := by simp; omega
    have e3 : ((n : Int) != 126) = true := by simp; omega
    rw [show okK n = true by unfold okK; simp [h64, h127, h126]]
    clear h64 h127 h126
    go_enter Try.func108, Try.ntmps108
    go_wp2_with fail
    refine H0.out.mono ?_
    rintro r0 w1 ⟨rfl, g1, g2⟩
    have bf0 := g1.ins.free
    have ba0 := g1.ins.cell (i := 1) rfl
    have H1 := hid (And.intro g1 g2)
    clear g1 g2
    go_wp2_with fail
    refine (dfail 6 ((H1.out.1).setA _)).mono ?_
    rintro r1 w2 ⟨rfl, g1, g2⟩
    have H2 := hid (And.intro g1 g2)
    clear g1 g2
    go_wp2_with fail
    go_end0
    exact ⟨rfl, H2.out.1, (H1.out.2.trans (ToD.put _ _ _)).trans H2.out.2⟩
end Go.Proofs.Ytomaiolhaenmhaa
/-
  INSTRUCTIONS: the program's reader, the ways of a table of jumps. Conditions: lengths in the form's reach.
-/
namespace Go.Proofs.Ytomaiolhaenmhaa
open Go.RowKit Go.Lib
attribute [local go_sem ↓] Go.wp_at_zero Go.wp_at_succ

theorem elem_i64v : Elem Try.prog 88 2 (.int .i64 0) 1 8 := ⟨Try.underlying88, by kernel_rfl, rfl, by decide⟩
/-- so many numbers, till something is wrong -/
def takeM : Nat → ByteArray × Int → List Int × ByteArray × Int
  | 0, s => ([], s)
  | n + 1, s => if s.2 ≠ 0 then ([], s) else ((numM s).1 :: (takeM n (numM s).2).1, (takeM n (numM s).2).2)
theorem take_bad (n : Nat) (s : ByteArray × Int) (h : s.2 ≠ 0) : takeM n s = ([], s) := by
  cases n with
  | zero => rfl
  | succ n => exact if_pos h
theorem take_next (n : Nat) (s : ByteArray × Int) (h : s.2 = 0) : takeM (n + 1) s = ((numM s).1 :: (takeM n (numM s).2).1, (takeM n (numM s).2).2) := if_neg (fun g => g h)
section
variable {w : World} {R X : Nat} {t : ByteArray} {s : ByteArray × Int} {op : Nat} {A B : Int} {u : Value}
theorem DuI.setT (h : DuI w R X t s op A B u) (v : Value) : DuI (w.setCell ⟨X, 3, none⟩ v) R X t s op A B v := by
  obtain ⟨a, h1, h2, h3⟩ := h.rd
  exact ⟨⟨a, h1, h2, h3.other (fun g => h.ne g.symm) _⟩, h.ins.set 3 _, h.ne, h.sz⟩
theorem DuI.drew (h : DuI w R X t s op A B u) : DuI w.drew R X t s op A B u := ⟨h.rd, h.ins, h.ne, h.sz⟩
theorem DuI.kt {w' : World} (h : DuI w R X t s op A B u) (k : KT 2 w w') : DuI w' R X t s op A B u := by
  obtain ⟨a, h1, h2, h3⟩ := h.rd
  exact ⟨⟨a, h1, h2, k.blk h3 rfl⟩, k.blk h.ins rfl, h.ne, h.sz⟩
theorem DuI.lt (h : DuI w R X t s op A B u) : R < w.heap.size ∧ X < w.heap.size := by
  obtain ⟨a, h1, h2, h3⟩ := h.rd
  exact ⟨h3.lt, h.ins.lt⟩
theorem own_tod {w' : World} {H : Nat} {v : Value} {xs : List Int} (h : OwnI w H .i64 2 v xs) (ht : ToD R X w w') (hR : R < H) (hX : X < H) : OwnI w' H .i64 2 v xs :=
  own_touch h ht (fun k hk g => by
    have := (World.ownsRow.lt h k hk).1
    omega)
end
set_option maxRecDepth 100000 in
set_option maxHeartbeats 4000000 in
theorem ibs_4 (w : World) (R X : Nat) (t : ByteArray) (s : ByteArray × Int) (op : Nat) (h : DuI w R X t s op 0 0 (.slice none 0 0)) (hn : (numM s).1 ≤ 16) :
    Calls Try.prog 108 #[.pointer (some ⟨R, 0, none⟩), .pointer (some ⟨X, 0, none⟩), .int .i64 4] w fun r w' => r = .returned (.tuple #[]) ∧
      (∃ u, DuI w' R X t (numM (takeM (numM s).1.toNat (numM s).2).2).2 op (numM (takeM (numM s).1.toNat (numM s).2).2).1 0 u ∧ OwnI w' w.heap.size .i64 2 u (takeM (numM s).1.toNat (numM s).2).1) ∧ ToD R X w w' := by
  have hlt := h.lt
  have H0 := hid (dplain h)
  have hnf := (numM_facts s).1
  generalize numM s = q at *
  obtain ⟨n0, S1⟩ := q
  simp only at H0 hnf hn ⊢
  obtain ⟨N, rfl⟩ := Int.eq_ofNat_of_zero_le hnf
  rw [Int.toNat_natCast]
  have hN : N ≤ 16 := by omega
  clear h hnf
  go_enter Try.func108, Try.ntmps108
  go_wp2_with fail
  refine H0.out.mono ?_
  rintro r0 w1 ⟨rfl, g1, g2⟩
  have DI := hid g1
  have TC := hid (show Touch (fun j => (j = R ∨ j = X) ∨ w.heap.size ≤ j) w w1 from g2.mono (fun _ _ g => Or.inl g))
  have OW : Hid (OwnI w1 w.heap.size .i64 2 (.slice none 0 0) []) := hid (OwnI.nil _ _ _ _)
  clear g1 g2
  go_wp2_with fail
  go_loopw [8] (fun i wr => ∃ (k : Nat) (u : Value) (xs : List Int) (sk : ByteArray × Int), k ≤ N ∧ i = .int .i64 k ∧ Hid (xs.length = k) ∧ Hid (DuI wr R X t sk op 0 0 u) ∧ Hid (OwnI wr w.heap.size .i64 2 u xs) ∧ Hid (takeM N S1 = (xs ++ (takeM (N - k) sk).1, (takeM (N - k) sk).2)) ∧ Hid (Touch (fun j => (j = R ∨ j = X) ∨ w.heap.size ≤ j) w wr)) (fun i _ => N - (RowKit.intOf i).toNat)
  case atStart => exact ⟨0, _, [], S1, Nat.zero_le _, rfl, hid rfl, DI, OW, hid rfl, TC⟩
  case round =>
    obtain ⟨k, u, xs, sk, hk, rfl, HL, DI, OW, HT, TC⟩ := hrel
    have hfree := DI.out.ins.free
    have y0 := DI.out.rd
    obtain ⟨ar, y1, y2, y3⟩ := y0
    have yb := y3.cell (i := 2) rfl
    clear y1 y2 y3
    by_cases hb : sk.2 = 0
    · by_cases hlt1 : k < N
      · have HSG := hid (dplain DI.out.drew)
        have HST := hid (show takeM N S1 = ((xs ++ [(numM sk).1]) ++ (takeM (N - (k + 1)) (numM sk).2).1, (takeM (N - (k + 1)) (numM sk).2).2) by
          rw [HT.out, show N - k = (N - (k + 1)) + 1 by omega, take_next _ _ hb, List.append_assoc]; rfl)
        generalize numM sk = z at *
        obtain ⟨zv, zs⟩ := z
        simp only at HSG HST
        have hb2 : (sk.2 == 0) = true := by rw [hb]; rfl
        have hd1 : decide ((k : Int) < (N : Int)) = true := decide_eq_true (by omega)
        have x1 : wr.drew.cell? ⟨X, 3, none⟩ = some u := DI.out.drew.ins.cell (i := 3) rfl
        have x1f : wr.drew.frozen? ⟨X, 3, none⟩ = false := DI.out.drew.ins.free 3
        have hsz := TC.out.size
        have hw1 : wrap64 ((k : Int) + 1) = ((k + 1 : Nat) : Int) := by unfold wrap64; omega
        have hlx := HL.out
        have hl1 : xs.length + 1 ≤ 17 := by omega
        clear hb hlx
        go_wp2_with fail
        go_region_law (first | (go_simp; go_at_call 162; go_loud ((with_reducible refine HSG.out.mono ?_); rintro r w3 ⟨rfl, g1, g2⟩; have OW3 := hid (own_tod (w := wr.drew) OW.out g2 hlt.1 hlt.2); have TC3 := hid ((TC.out.drew1).trans (g2.mono (fun _ _ g => Or.inl g))); have SZ3 := hid TC3.out.size; have c1 := g1.ins.cell (i := 3) rfl; have c1a := (fun o => cell_alloc o c1); have D3 := hid g1; clear g1 g2)) | (refine step_one1 elem_i64v (cs := [.int .i64 zv]) (by rfl) _ _ (by rfl) (by rfl) (by rfl) rfl OW3.out (by rfl) (by intro c hc; simp at hc; subst hc; rfl) (by omega) (by omega) SZ3.out ?_; intro v' w4 ho hb hg; obtain ⟨ao2, cap2, rfl, _⟩ := own_sl ho; have K4 := hid (KT.grown hg.1 OW3.out); have D4 := hid (D3.out.kt K4.out); have z1 := D4.out.ins.cell (i := 3) rfl; have zf := D4.out.ins.free 3; have T4 := hid (TC3.out.trans (Touch.grown hg.1 (fun j e => Or.inr (World.ownsRow.lt OW3.out j e).1))); have HG := hid ho; clear ho hb hg))
        all_goals
          go_wp2_with fail
          go_roundw
          case rel =>
            refine ⟨k + 1, .slice ao2 (xs.length + 1) cap2, xs ++ [zv], zs, by omega, by go_num, hid (by rw [List.length_append, HL.out]; rfl), hid (D4.out.setT _), hid ?_, HST, hid (T4.out.trans (Touch.setCell (F := fun j => (j = R ∨ j = X) ∨ w.heap.size ≤ j) (a := ⟨X, 3, none⟩) (Or.inl (Or.inr rfl)) _))⟩
            show World.ownsRow _ _ _ _ _ (xs ++ [zv]).length ((xs ++ [zv]).map _)
            rw [List.length_append, List.map_append]
            exact (KT.set D4.out.ins _).own HG.out rfl
          case measure => simp [RowKit.intOf]; omega
      · obtain rfl : k = N := by omega
        have HE := hid (show takeM k S1 = (xs, sk) by rw [HT.out, Nat.sub_self]; simp [takeM])
        have hd1 : decide ((k : Int) < (k : Int)) = false := decide_eq_false (by omega)
        have HP := hid (dplain DI.out)
        clear hfree yb
        go_wp2_with fail
        refine HP.out.mono ?_
        rintro r2 w2 ⟨rfl, g1, g2⟩
        have bf := g1.ins.free
        have ba := g1.ins.cell (i := 1) rfl
        have OW2 := hid (own_tod OW.out g2 hlt.1 hlt.2)
        have T2 := hid (TC.out.trans (g2.mono (fun _ _ g => Or.inl g)))
        have D2 := hid g1
        clear g1 g2
        go_wp2_with fail
        go_end0
        rw [HE.out]
        exact ⟨rfl, ⟨u, D2.out.setA _, (KT.set D2.out.ins _).own OW2.out rfl⟩, Touch.of_new (T2.out.trans (Touch.setCell (F := fun j => (j = R ∨ j = X) ∨ w.heap.size ≤ j) (a := ⟨X, 1, none⟩) (Or.inl (Or.inr rfl)) _))⟩
    · have HE := hid (show takeM N S1 = (xs, sk) by rw [HT.out, take_bad _ _ hb]; simp)
      have hb2 : (sk.2 == 0) = false := by simpa using hb
      clear hb
      by_cases g : k < N
      · have hd1 : decide ((k : Int) < (N : Int)) = true := decide_eq_true (by omega)
        have HP := hid (dplain DI.out)
        go_wp2_with fail
        clear hfree yb
        refine HP.out.mono ?_
        rintro r2 w2 ⟨rfl, g1, g2⟩
        have bf := g1.ins.free
        have ba := g1.ins.cell (i := 1) rfl
        have OW2 := hid (own_tod OW.out g2 hlt.1 hlt.2)
        have T2 := hid (TC.out.trans (g2.mono (fun _ _ g => Or.inl g)))
        have D2 := hid g1
        clear g1 g2
        go_wp2_with fail
        go_end0
        rw [HE.out]
        exact ⟨rfl, ⟨u, D2.out.setA _, (KT.set D2.out.ins _).own OW2.out rfl⟩, Touch.of_new (T2.out.trans (Touch.setCell (F := fun j => (j = R ∨ j = X) ∨ w.heap.size ≤ j) (a := ⟨X, 1, none⟩) (Or.inl (Or.inr rfl)) _))⟩
      · have hd1 : decide ((k : Int) < (N : Int)) = false := decide_eq_false (by omega)
        have HP := hid (dplain DI.out)
        go_wp2_with fail
        clear hfree yb
        refine HP.out.mono ?_
        rintro r2 w2 ⟨rfl, g1, g2⟩
        have bf := g1.ins.free
        have ba := g1.ins.cell (i := 1) rfl
        have OW2 := hid (own_tod OW.out g2 hlt.1 hlt.2)
        have T2 := hid (TC.out.trans (g2.mono (fun _ _ g => Or.inl g)))
        have D2 := hid g1
        clear g1 g2
        go_wp2_with fail
        go_end0
        rw [HE.out]
        exact ⟨rfl, ⟨u, D2.out.setA _, (KT.set D2.out.ins _).own OW2.out rfl⟩, Touch.of_new (T2.out.trans (Touch.setCell (F := fun j => (j = R ∨ j = X) ∨ w.heap.size ≤ j) (a := ⟨X, 1, none⟩) (Or.inl (Or.inr rfl)) _))⟩

theorem say_bad {e : Int} (he : e ≠ 0) (s : ByteArray × Int) : (sayM true e s).2 ≠ 0 := by
  rw [say_true]
  unfold bad1
  split <;> assumption
set_option maxRecDepth 100000 in
set_option maxHeartbeats 4000000 in
theorem ibs_4x (w : World) (R X : Nat) (t : ByteArray) (s : ByteArray × Int) (op : Nat) (h : DuI w R X t s op 0 0 (.slice none 0 0)) (hn : 16 < (numM s).1) :
    Calls Try.prog 108 #[.pointer (some ⟨R, 0, none⟩), .pointer (some ⟨X, 0, none⟩), .int .i64 4] w fun r w' => r = .returned (.tuple #[]) ∧
      DuI w' R X t (numM (sayM true 2 (numM s).2)).2 op (numM (sayM true 2 (numM s).2)).1 0 (.slice none 0 0) ∧ ToD R X w w' := by
  have H0 := hid (dplain h)
  generalize numM s = q at *
  obtain ⟨n0, S1⟩ := q
  simp only at H0 hn ⊢
  have hb := say_bad (e := 2) (by decide) S1
  have HF := hid (fun wx (hx : DuI wx R X t S1 op 0 0 (.slice none 0 0)) => dfail 2 hx)
  generalize sayM true 2 S1 = s2 at *
  have hb2 : (s2.2 == 0) = false := by simpa using hb
  have hn0 : (0 : Int) < n0 := by omega
  clear h hb
  go_enter Try.func108, Try.ntmps108
  go_wp2_with fail
  refine H0.out.mono ?_
  rintro r0 w1 ⟨rfl, g1, g2⟩
  have D1 := hid (And.intro g1 g2)
  clear g1 g2
  go_wp2_with fail
  refine (HF.out _ D1.out.1).mono ?_
  rintro r1 w2 ⟨rfl, g1, g2⟩
  have DI := hid g1
  have TC := hid (D1.out.2.trans g2)
  clear g1 g2
  go_wp2_with fail
  go_loopw [8] (fun i wr => i = .int .i64 0 ∧ Hid (DuI wr R X t s2 op 0 0 (.slice none 0 0)) ∧ Hid (ToD R X w wr)) (fun _ _ => 0)
  case atStart => exact ⟨rfl, DI, TC⟩
  case round =>
    obtain ⟨rfl, DI, TC⟩ := hrel
    obtain ⟨ar, y1, y2, y3⟩ := DI.out.rd
    have yb := y3.cell (i := 2) rfl
    clear y1 y2 y3
    have HP := hid (dplain DI.out)
    go_wp2_with fail
    clear yb
    refine HP.out.mono ?_
    rintro r2 w3 ⟨rfl, g1, g2⟩
    have bf := g1.ins.free
    have ba := g1.ins.cell (i := 1) rfl
    have D2 := hid (And.intro g1 g2)
    clear g1 g2
    go_wp2_with fail
    go_end0
    exact ⟨rfl, D2.out.1.setA _, (TC.out.trans D2.out.2).trans (ToD.put _ _ _)⟩
end Go.Proofs.Ytomaiolhaenmhaa
