/-
  MODULES AS BYTES, plain: the first fault of a module's parts. No program, no condition.
-/
import Derived.Test.YtdiiefhklcchmaaDoorBase
import Derived.Test.YtdiiefhklcchmaaDoorRowK
import Derived.Test.YtdiiefhklcchmaaDoorPart
import Derived.Test.YtdiiefhklcchmaaDoorGValidHeads1
import Derived.Test.YtdiiefhklcchmaaDoorLebP
import Derived.Test.YtdiiefhklcchmaaDoorFl0
import Derived.IntWalk
import Derived.Deep.QuietTactic
import Derived.BigQuiet
import Derived.Lib.ValidLaws
namespace Go.Proofs.YtdiiefhklcchmaaDoor
open Go.RowKit

def orE (a b : Int) : Int := if a = 0 then b else a
theorem orE_zero (b : Int) : orE 0 b = b := rfl
theorem orE_none (a : Int) : orE a 0 = a := by unfold orE; split <;> omega
theorem orE_stop {a : Int} (h : a ≠ 0) (b : Int) : orE a b = a := if_neg h
theorem orE_assoc (a b c : Int) : orE (orE a b) c = orE a (orE b c) := by
  unfold orE
  by_cases h : a = 0
  · simp [h]
  · simp [h]
def foldE {α : Type} (F : α → Int) : List α → Int
  | [] => 0
  | x :: r => orE (F x) (foldE F r)
theorem foldE_append {α : Type} (F : α → Int) (a b : List α) : foldE F (a ++ b) = orE (foldE F a) (foldE F b) := by
  induction a with
  | nil => rfl
  | cons x r ih => rw [List.cons_append, foldE, ih, foldE, orE_assoc]
theorem foldE_next {α : Type} (F : α → Int) (l : List α) (k : Nat) (h : k < l.length) (b : Int) : orE (orE b (foldE F (l.take k))) (F l[k]) = orE b (foldE F (l.take (k + 1))) := by
  rw [List.take_succ_eq_append_getElem h, foldE_append, orE_assoc]
  show orE b (orE _ _) = orE b (orE _ (orE (F l[k]) 0))
  rw [orE_none]
theorem foldE_stop {α : Type} (F : α → Int) (l : List α) (k : Nat) (b : Int) (h : orE b (foldE F (l.take k)) ≠ 0) : orE b (foldE F l) = orE b (foldE F (l.take k)) := by
  conv => lhs; rw [← List.take_append_drop k l, foldE_append, ← orE_assoc, orE_stop h]
theorem foldE_full {α : Type} (F : α → Int) (l : List α) (b : Int) : orE b (foldE F (l.take l.length)) = orE b (foldE F l) := by rw [List.take_length]
def ndE (is : Bool) (e : Int) : Int := if is = true then 0 else e
def eachE {α : Type} (F : α → Int) (l : List α) (most : Int) : Int := orE (ndE (decide ((l.length : Int) ≤ most)) 2) (foldE F l)
def isK (k : Int) : Bool := decide (k = 127 ∨ k = 126)
def fKind (k : Int) : Int := ndE (isK k) 1
def isI (n : Int) : Bool := decide (0 ≤ n ∧ n ≤ 4294967295)
def fIdx (n : Int) : Int := ndE (isI n) 1
def isP (n : Int) : Bool := decide (-2147483648 ≤ n ∧ n ≤ 2147483647)
def fPlc (n : Int) : Int := ndE (isP n) 1
end Go.Proofs.YtdiiefhklcchmaaDoor
/-
  MODULES AS BYTES, the program's checker: need, says, kind, index, place. No condition beside the object's memory.
-/
namespace Go.Proofs.YtdiiefhklcchmaaDoor
open Go.RowKit Go.Lib

def PC (w : World) (C : Nat) (b : Int) : Prop := Blk w C 36 [.int .i64 b]
def CPost (C : Nat) (b : Int) (w : World) (e : Ending) (w' : World) : Prop := e = .returned (.tuple #[]) ∧ PC w' C b ∧ Touch (fun k => k = C) w w'
theorem PC.below {w w' : World} {C : Nat} {b : Int} (h : PC w C b) (hb : Below w.heap.size w w') : PC w' C b := Blk.below h hb
theorem CPost.base {W w w' : World} {C : Nat} {b : Int} {e : Ending} (h : CPost C b w e w') (hb : Below W.heap.size W w) (hC : W.heap.size ≤ C) : Below W.heap.size W w' := hb.trans (h.2.2.below hb.size (fun _ hk => hk ▸ hC))
set_option maxRecDepth 100000 in
theorem need_any (w : World) (C : Nat) (b e : Int) (is : Bool) (h : PC w C b) :
    Calls Tryd.prog 17 #[.pointer (some ⟨C, 0, none⟩), .bool is, .int .i64 e] w (CPost C (orE b (ndE is e)) w) := by
  have H := hid h
  have c0 := Blk.cell h (i := 0) rfl
  have cf := Blk.free h
  clear h
  by_cases hb : b = 0
  · subst hb
    cases is with
    | true =>
      go_enter Tryd.func17, Tryd.ntmps17
      go_wp2_with fail
      go_end0
      exact ⟨rfl, H.out, Touch.refl _ _⟩
    | false =>
      go_enter Tryd.func17, Tryd.ntmps17
      go_wp2_with fail
      go_end0
      exact ⟨rfl, H.out.set 0 _, Touch.setCell (F := fun k => k = C) (a := ⟨C, 0, none⟩) rfl _⟩
  · have hz : (b == 0) = false := by simpa using hb
    rw [orE_stop hb]
    go_enter Tryd.func17, Tryd.ntmps17
    go_wp2_with fail
    go_end0
    exact ⟨rfl, H.out, Touch.refl _ _⟩
set_option maxRecDepth 100000 in
theorem says_any (w : World) (C : Nat) (b e : Int) (h : PC w C b) :
    Calls Tryd.prog 41 #[.pointer (some ⟨C, 0, none⟩), .int .i64 e] w (CPost C (orE b e) w) := by
  have H := hid h
  have c0 := Blk.cell h (i := 0) rfl
  have cf := Blk.free h
  clear h
  by_cases hb : b = 0
  · subst hb
    go_enter Tryd.func41, Tryd.ntmps41
    go_wp2_with fail
    go_end0
    exact ⟨rfl, H.out.set 0 _, Touch.setCell (F := fun k => k = C) (a := ⟨C, 0, none⟩) rfl _⟩
  · have hz : (b == 0) = false := by simpa using hb
    rw [orE_stop hb]
    go_enter Tryd.func41, Tryd.ntmps41
    go_wp2_with fail
    go_end0
    exact ⟨rfl, H.out, Touch.refl _ _⟩
set_option maxRecDepth 100000 in
theorem isKind_any (k : Int) (w : World) : Calls Tryd.prog 44 #[.int .u8 k] w fun e w' => e = .returned (.bool (isK k)) ∧ w = w' := by
  by_cases h1 : k = 127
  · subst h1
    go_enter Tryd.func44, Tryd.ntmps44
    go_wp2_with fail
    go_ret
    exact ⟨rfl, rfl⟩
  · have e1 : (k == 127) = false := by simpa using h1
    by_cases h2 : k = 126
    · subst h2
      go_enter Tryd.func44, Tryd.ntmps44
      go_wp2_with fail
      go_ret
      exact ⟨rfl, rfl⟩
    · have e2 : (k == 126) = false := by simpa using h2
      have HR := hid (show isK k = false from decide_eq_false (by omega))
      clear h1 h2
      go_enter Tryd.func44, Tryd.ntmps44
      go_wp2_with fail
      go_ret
      rw [HR.out]
      exact ⟨rfl, rfl⟩
set_option maxRecDepth 100000 in
theorem isIndexB_any (n : Int) (w : World) : Calls Tryd.prog 42 #[.int .i64 n] w fun e w' => e = .returned (.bool (isI n)) ∧ w = w' := by
  by_cases h1 : n < 0
  · have HR := hid (show isI n = false from decide_eq_false (by omega))
    have d1 : decide (0 ≤ n) = false := decide_eq_false (by omega)
    go_enter Tryd.func42, Tryd.ntmps42
    go_wp2_with fail
    go_ret
    rw [HR.out]
    exact ⟨rfl, rfl⟩
  · have h0 : 0 ≤ n := by omega
    have HR := hid (show isI n = decide (n ≤ 4294967295) from by
      unfold isI
      by_cases h2 : n ≤ 4294967295
      · rw [decide_eq_true h2, decide_eq_true ⟨h0, h2⟩]
      · rw [decide_eq_false h2, decide_eq_false (fun g => h2 g.2)])
    go_enter Tryd.func42, Tryd.ntmps42
    go_wp2_with fail
    go_ret
    rw [HR.out]
    exact ⟨rfl, rfl⟩
set_option maxRecDepth 100000 in
theorem isPlace_any (n : Int) (hn : -9223372036854775808 ≤ n ∧ n ≤ 9223372036854775807) (w : World) : Calls Tryd.prog 46 #[.int .i64 n] w fun e w' => e = .returned (.bool (isP n)) ∧ w = w' := by
  obtain ⟨h0, h1⟩ := hn
  obtain ⟨m, hm⟩ : ∃ m, IntKind.i32.wrap n = m := ⟨_, rfl⟩
  have hm2 := hm
  rw [IntKind.wrap_i32] at hm2
  have hm0 : -2147483648 ≤ m ∧ m ≤ 2147483647 := by omega
  have HR := hid (show (n == m) = isP n from by
    unfold isP
    by_cases g : -2147483648 ≤ n ∧ n ≤ 2147483647
    · rw [decide_eq_true g]; simp; omega
    · rw [decide_eq_false g]; simp; omega)
  have hw : IntKind.i64.wrap m = m := IntWalk.i64_in _ (by omega)
  clear hm2 hm0
  go_enter Tryd.func46, Tryd.ntmps46
  go_wp2_with fail
  go_ret
  rw [← HR.out]
  exact ⟨rfl, rfl⟩
set_option maxRecDepth 100000 in
theorem kindB_any (w : World) (C : Nat) (b k : Int) (h : PC w C b) :
    Calls Tryd.prog 20 #[.pointer (some ⟨C, 0, none⟩), .int .u8 k] w (CPost C (orE b (fKind k)) w) := by
  have HK := hid (fun wx => isKind_any k wx)
  have HN := hid (fun wx h => need_any wx C b 1 (isK k) h)
  have H := hid h
  unfold fKind
  generalize isK k = bk at *
  clear h
  go_enter Tryd.func20, Tryd.ntmps20
  go_wp2_with (first | (go_at_call 44; refine (HK.out _).mono ?_; rintro r w1 ⟨rfl, rfl⟩) | (go_at_call 17; refine (HN.out _ H.out).mono ?_; rintro r w2 hp; obtain ⟨rfl, hq⟩ := hp; have HQ := hid hq; clear hq))
  go_end0
  exact ⟨rfl, HQ.out⟩
set_option maxRecDepth 100000 in
theorem indexB_any (w : World) (C : Nat) (b n : Int) (h : PC w C b) :
    Calls Tryd.prog 14 #[.pointer (some ⟨C, 0, none⟩), .int .i64 n] w (CPost C (orE b (fIdx n)) w) := by
  have HK := hid (fun wx => isIndexB_any n wx)
  have HN := hid (fun wx h => need_any wx C b 1 (isI n) h)
  have H := hid h
  unfold fIdx
  generalize isI n = bk at *
  clear h
  go_enter Tryd.func14, Tryd.ntmps14
  go_wp2_with (first | (go_at_call 42; refine (HK.out _).mono ?_; rintro r w1 ⟨rfl, rfl⟩) | (go_at_call 17; refine (HN.out _ H.out).mono ?_; rintro r w2 hp; obtain ⟨rfl, hq⟩ := hp; have HQ := hid hq; clear hq))
  go_end0
  exact ⟨rfl, HQ.out⟩
set_option maxRecDepth 100000 in
theorem placeB_any (w : World) (C : Nat) (b n : Int) (hn : -9223372036854775808 ≤ n ∧ n ≤ 9223372036854775807) (h : PC w C b) :
    Calls Tryd.prog 27 #[.pointer (some ⟨C, 0, none⟩), .int .i64 n] w (CPost C (orE b (fPlc n)) w) := by
  have HK := hid (fun wx => isPlace_any n hn wx)
  have HN := hid (fun wx h => need_any wx C b 1 (isP n) h)
  have H := hid h
  unfold fPlc
  generalize isP n = bk at *
  clear h hn
  go_enter Tryd.func27, Tryd.ntmps27
  go_wp2_with (first | (go_at_call 46; refine (HK.out _).mono ?_; rintro r w1 ⟨rfl, rfl⟩) | (go_at_call 17; refine (HN.out _ H.out).mono ?_; rintro r w2 hp; obtain ⟨rfl, hq⟩ := hp; have HQ := hid hq; clear hq))
  go_end0
  exact ⟨rfl, HQ.out⟩
end Go.Proofs.YtdiiefhklcchmaaDoor
/-
  WHAT THE LAWS OVER STEPS SHARE: a list of flat structs as an argument; the number of a step. No condition.
-/
namespace Go.Proofs.YtdiiefhklcchmaaDoor
open Go.RowKit

theorem flat_of {α : Type} (enc : α → List Value) : ∀ (css : List (List Value)) (ys : List α), css.length = ys.length → (∀ i (h1 : i < css.length) (h2 : i < ys.length), css[i] = enc ys[i]) → css.flatten = ys.flatMap enc := by
  intro css
  induction css with
  | nil => intro ys hl _; cases ys with
    | nil => rfl
    | cons _ _ => simp at hl
  | cons c r ih =>
    intro ys hl h
    cases ys with
    | nil => simp at hl
    | cons y ys =>
      have h0 := h 0 (by simp) (by simp)
      simp only [List.getElem_cons_zero] at h0
      rw [List.flatten_cons, List.flatMap_cons, h0, ih ys (by simpa using hl) (fun i h1 h2 => by have := h (i + 1) (by simpa using h1) (by simpa using h2); simpa using this)]
theorem slice_flat {W : World} {s bytes : Nat} {α : Type} {R : List Value → α → Prop} {v : Value} {ys : List α} (enc : α → List Value) (Q : α → Prop) (h : ∀ cs y, R cs y → cs = enc y ∧ Q y) (hs : sliceR W s bytes R [v] ys) : Lk enc W v ys ∧ (∀ y ∈ ys, Q y) ∧ ys.length * bytes ≤ 140737488351232 := by
  obtain ⟨v', css, hv, hsl, hl, hb, hel⟩ := hs
  simp only [List.cons.injEq, and_true] at hv
  subst hv
  refine ⟨?_, ?_, hb⟩
  · rw [flat_of enc css ys hl (fun i h1 h2 => (h _ _ (hel i h1 h2).2).1)] at hsl
    exact hsl
  · intro y hy
    obtain ⟨i, hi, rfl⟩ := List.getElem_of_mem hy
    exact (h _ _ (hel i (by omega) hi).2).2

theorem wf_i64 {n : Int} (h : (Lit.int .i64 n).wf = true) : -9223372036854775808 ≤ n ∧ n ≤ 9223372036854775807 := by
  simpa [Lit.wf, IntKind.min, IntKind.max, IntKind.signed, IntKind.bits] using h
theorem wf_u64 {n : Int} (h : (Lit.int .u64 n).wf = true) : 0 ≤ n ∧ n ≤ 18446744073709551615 := by
  simpa [Lit.wf, IntKind.min, IntKind.max, IntKind.signed, IntKind.bits] using h

theorem rest_neg {n m : Int} (hm : 1 ≤ m) (h : n.tmod m < 0) : n % m = n.tmod m + m := by
  rw [Int.emod_eq_tmod]
  have hn : ¬ (0 ≤ n ∨ m ∣ n) := by
    rintro (h1 | h1)
    · have := Int.tmod_nonneg m h1; omega
    · have := Int.tmod_eq_zero_of_dvd h1; omega
  rw [if_neg hn]
  omega
theorem rest_pos {n m : Int} (_ : 1 ≤ m) (h : 0 ≤ n.tmod m) : n % m = n.tmod m := by
  rw [Int.emod_eq_tmod]
  by_cases hn : 0 ≤ n ∨ m ∣ n
  · rw [if_pos hn]; omega
  · have h1 : ¬ 0 ≤ n := fun h => hn (.inl h)
    have h2 : ¬ m ∣ n := fun h => hn (.inr h)
    have h3 : n.tmod m ≤ 0 := by
      have := Int.tmod_nonneg m (by omega : 0 ≤ -n)
      rw [Int.neg_tmod] at this; omega
    have h4 : n.tmod m = 0 := by omega
    exact absurd (Int.dvd_of_tmod_eq_zero h4) h2

end Go.Proofs.YtdiiefhklcchmaaDoor
/-
  THE WALKS of package leb's readers and writers and of the reference's: each returns what the plain functions of LebP say. Conditions: lengths of strings are at most the model's greatest length.
-/
namespace Go.Proofs.YtdiiefhklcchmaaDoor
open Go.RowKit

def tup3 (k1 k2 k3 : IntKind) (r : Nat × Nat × Nat) : Value := .tuple #[.int k1 r.1, .int k2 r.2.1, .int k3 r.2.2]

theorem data_drop (s : ByteArray) (k : Nat) (h : k < s.size) : s.data.toList.drop k = s[k] :: s.data.toList.drop (k + 1) := by
  rw [drop_cons _ k (by simpa using h)]; rfl

/-- what the reference's LebReadU computes -/
def refU (b : Nat) (l : List UInt8) : Nat × Nat × Nat :=
  let (k, m, e) := spanR b l
  if e ≠ 0 then (0, 0, e)
  else if k = m ∧ 2 ^ (b - 7 * (m - 1)) ≤ (l.getD (k - 1) 0).toNat then (0, 0, 4)
  else (horner (l.take k) % 18446744073709551616, k, 0)

theorem spanR_ok {b : Nat} {l : List UInt8} {k m : Nat} (h : spanR b l = (k, m, 0)) : m = mostOf b ∧ 1 ≤ k ∧ k ≤ m ∧ k ≤ l.length ∧ lead m l + 1 = k := by
  unfold spanR at h
  have h1 := lead_le (mostOf b) l
  split at h
  · simp at h
  · split at h
    · simp at h
    · simp at h
      obtain ⟨rfl, rfl⟩ := h
      omega

end Go.Proofs.YtdiiefhklcchmaaDoor
/-
  TEXTS, plain: the reference's reading of one sign is the model's decoder's. No program.
-/
namespace Go.Proofs.YtdiiefhklcchmaaDoor
open Go.RowKit

/-- byte j of a text (0 beyond its end) -/
def bt (s : ByteArray) (j : Nat) : Nat := (s.get! j).toNat
theorem bt_lt (s : ByteArray) (j : Nat) : bt s j < 256 := UInt8.toNat_lt _
/-- the number once k bytes are in it -/
def accS (s : ByteArray) (c : Nat) : Nat → Nat
  | 0 => c
  | k + 1 => accS s c k * 64 + (bt s (k + 1) - 128)
def okUt (s : ByteArray) (j : Nat) : Bool := decide (128 ≤ bt s j) && decide (bt s j ≤ 191)
def leastS (M : Nat) : Nat := if M = 2 then 128 else if M = 3 then 2048 else if M = 4 then 65536 else 0
def okV (M v : Nat) : Bool := decide (leastS M ≤ v) && decide (v ≤ 1114111) && !(decide (55296 ≤ v) && decide (v ≤ 57343))
/-- a sign of M bytes whose first byte gives c -/
def signV (M c : Nat) (s : ByteArray) : Nat :=
  if s.size < M then 0 else if (List.range (M - 1)).all (fun j => okUt s (j + 1)) = true then (if okV M (accS s c (M - 1)) = true then M else 0) else 0
def signS (s : ByteArray) : Nat :=
  if bt s 0 < 128 then 1
  else if 192 ≤ bt s 0 ∧ bt s 0 < 224 then signV 2 (bt s 0 - 192) s
  else if 224 ≤ bt s 0 ∧ bt s 0 < 240 then signV 3 (bt s 0 - 224) s
  else if 240 ≤ bt s 0 ∧ bt s 0 < 248 then signV 4 (bt s 0 - 240) s
  else 0
def cond2 (n b1 v : Nat) : Prop := 2 ≤ n ∧ 128 ≤ b1 ∧ b1 ≤ 191 ∧ 128 ≤ v ∧ v ≤ 1114111 ∧ ¬ (55296 ≤ v ∧ v ≤ 57343)
def cond3 (n b1 b2 v : Nat) : Prop := 3 ≤ n ∧ 128 ≤ b1 ∧ b1 ≤ 191 ∧ 128 ≤ b2 ∧ b2 ≤ 191 ∧ 2048 ≤ v ∧ v ≤ 1114111 ∧ ¬ (55296 ≤ v ∧ v ≤ 57343)
def cond4 (n b1 b2 b3 v : Nat) : Prop := 4 ≤ n ∧ 128 ≤ b1 ∧ b1 ≤ 191 ∧ 128 ≤ b2 ∧ b2 ≤ 191 ∧ 128 ≤ b3 ∧ b3 ≤ 191 ∧ 65536 ≤ v ∧ v ≤ 1114111 ∧ ¬ (55296 ≤ v ∧ v ≤ 57343)
theorem okB_iff (s : ByteArray) (j : Nat) : okUt s j = true ↔ 128 ≤ bt s j ∧ bt s j ≤ 191 := by unfold okUt; rw [Bool.and_eq_true, decide_eq_true_iff, decide_eq_true_iff]
theorem okV_iff (M v : Nat) : okV M v = true ↔ leastS M ≤ v ∧ v ≤ 1114111 ∧ ¬ (55296 ≤ v ∧ v ≤ 57343) := by
  unfold okV
  rw [Bool.and_eq_true, Bool.and_eq_true, decide_eq_true_iff, decide_eq_true_iff, Bool.not_eq_true', Bool.and_eq_false_iff, decide_eq_false_iff_not, decide_eq_false_iff_not]
  constructor
  · rintro ⟨⟨h1, h2⟩, h3⟩; exact ⟨h1, h2, fun h => h3.elim (fun k => k h.1) (fun k => k h.2)⟩
  · rintro ⟨h1, h2, h3⟩
    refine ⟨⟨h1, h2⟩, ?_⟩
    by_cases h : 55296 ≤ v
    · exact .inr (fun h' => h3 ⟨h, h'⟩)
    · exact .inl h
theorem signV_iff (M c : Nat) (s : ByteArray) : (signV M c s = M ∧ (M ≤ s.size ∧ (List.range (M - 1)).all (fun j => okUt s (j + 1)) = true ∧ okV M (accS s c (M - 1)) = true)) ∨ (signV M c s = 0 ∧ ¬ (M ≤ s.size ∧ (List.range (M - 1)).all (fun j => okUt s (j + 1)) = true ∧ okV M (accS s c (M - 1)) = true)) := by
  unfold signV
  by_cases h1 : s.size < M
  · rw [if_pos h1]; exact .inr ⟨rfl, fun h => by omega⟩
  · rw [if_neg h1]
    by_cases h2 : (List.range (M - 1)).all (fun j => okUt s (j + 1)) = true
    · rw [if_pos h2]
      by_cases h3 : okV M (accS s c (M - 1)) = true
      · rw [if_pos h3]; exact .inl ⟨rfl, by omega, h2, h3⟩
      · rw [if_neg h3]; exact .inr ⟨rfl, fun h => h3 h.2.2⟩
    · rw [if_neg h2]; exact .inr ⟨rfl, fun h => h2 h.2.1⟩
theorem sv2 (c : Nat) (s : ByteArray) : (signV 2 c s = 2 ∧ cond2 s.size (bt s 1) (c * 64 + (bt s 1 - 128))) ∨ (signV 2 c s = 0 ∧ ¬ cond2 s.size (bt s 1) (c * 64 + (bt s 1 - 128))) := by
  have h := signV_iff 2 c s
  rw [okV_iff, show List.range (2 - 1) = [0] from rfl, List.all_cons, List.all_nil, Bool.and_true, okB_iff, show accS s c (2 - 1) = c * 64 + (bt s 1 - 128) from rfl, show leastS 2 = 128 from rfl] at h
  rcases h with ⟨h1, h2⟩ | ⟨h1, h2⟩
  · exact .inl ⟨h1, h2.1, h2.2.1.1, h2.2.1.2, h2.2.2⟩
  · exact .inr ⟨h1, fun h => h2 ⟨h.1, ⟨h.2.1, h.2.2.1⟩, h.2.2.2⟩⟩
theorem sv3 (c : Nat) (s : ByteArray) : (signV 3 c s = 3 ∧ cond3 s.size (bt s 1) (bt s 2) ((c * 64 + (bt s 1 - 128)) * 64 + (bt s 2 - 128))) ∨ (signV 3 c s = 0 ∧ ¬ cond3 s.size (bt s 1) (bt s 2) ((c * 64 + (bt s 1 - 128)) * 64 + (bt s 2 - 128))) := by
  have h := signV_iff 3 c s
  rw [okV_iff, show List.range (3 - 1) = [0, 1] from rfl, List.all_cons, List.all_cons, List.all_nil, Bool.and_true, Bool.and_eq_true, okB_iff, okB_iff, show accS s c (3 - 1) = (c * 64 + (bt s 1 - 128)) * 64 + (bt s 2 - 128) from rfl, show leastS 3 = 2048 from rfl] at h
  rcases h with ⟨h1, h2⟩ | ⟨h1, h2⟩
  · exact .inl ⟨h1, h2.1, h2.2.1.1.1, h2.2.1.1.2, h2.2.1.2.1, h2.2.1.2.2, h2.2.2⟩
  · exact .inr ⟨h1, fun h => h2 ⟨h.1, ⟨⟨h.2.1, h.2.2.1⟩, ⟨h.2.2.2.1, h.2.2.2.2.1⟩⟩, h.2.2.2.2.2⟩⟩
theorem sv4 (c : Nat) (s : ByteArray) : (signV 4 c s = 4 ∧ cond4 s.size (bt s 1) (bt s 2) (bt s 3) (((c * 64 + (bt s 1 - 128)) * 64 + (bt s 2 - 128)) * 64 + (bt s 3 - 128))) ∨ (signV 4 c s = 0 ∧ ¬ cond4 s.size (bt s 1) (bt s 2) (bt s 3) (((c * 64 + (bt s 1 - 128)) * 64 + (bt s 2 - 128)) * 64 + (bt s 3 - 128))) := by
  have h := signV_iff 4 c s
  rw [okV_iff, show List.range (4 - 1) = [0, 1, 2] from rfl, List.all_cons, List.all_cons, List.all_cons, List.all_nil, Bool.and_true, Bool.and_eq_true, Bool.and_eq_true, okB_iff, okB_iff, okB_iff, show accS s c (4 - 1) = ((c * 64 + (bt s 1 - 128)) * 64 + (bt s 2 - 128)) * 64 + (bt s 3 - 128) from rfl, show leastS 4 = 65536 from rfl] at h
  rcases h with ⟨h1, h2⟩ | ⟨h1, h2⟩
  · exact .inl ⟨h1, h2.1, h2.2.1.1.1, h2.2.1.1.2, h2.2.1.2.1.1, h2.2.1.2.1.2, h2.2.1.2.2.1, h2.2.1.2.2.2, h2.2.2⟩
  · exact .inr ⟨h1, fun h => h2 ⟨h.1, ⟨⟨h.2.1, h.2.2.1⟩, ⟨h.2.2.2.1, h.2.2.2.2.1⟩, ⟨h.2.2.2.2.2.1, h.2.2.2.2.2.2.1⟩⟩, h.2.2.2.2.2.2.2⟩⟩
set_option maxHeartbeats 4000000 in
/-- the decoder's step is the sign's -/
theorem sign_decode (s : ByteArray) (h : 0 < s.size) : signS s = if (Utf8.decode s 0).1 = 65533 ∧ (Utf8.decode s 0).2 = 1 then 0 else (Utf8.decode s 0).2 := by
  rw [Lib.decode_at s 0]
  show signS s = if (Lib.decodeN s.size (bt s 0) (bt s 1) (bt s 2) (bt s 3)).1 = 65533 ∧ (Lib.decodeN s.size (bt s 0) (bt s 1) (bt s 2) (bt s 3)).2 = 1 then 0 else (Lib.decodeN s.size (bt s 0) (bt s 1) (bt s 2) (bt s 3)).2
  unfold signS
  have s2 := sv2 (bt s 0 - 192) s
  have s3 := sv3 (bt s 0 - 224) s
  have s4 := sv4 (bt s 0 - 240) s
  generalize signV 2 (bt s 0 - 192) s = r2 at *
  generalize signV 3 (bt s 0 - 224) s = r3 at *
  generalize signV 4 (bt s 0 - 240) s = r4 at *
  have h0 := bt_lt s 0
  have h1 := bt_lt s 1
  have h2 := bt_lt s 2
  have h3 := bt_lt s 3
  generalize bt s 0 = b0 at *
  generalize bt s 1 = b1 at *
  generalize bt s 2 = b2 at *
  generalize bt s 3 = b3 at *
  generalize s.size = n at *
  unfold cond2 at s2
  unfold cond3 at s3
  unfold cond4 at s4
  by_cases c0 : b0 < 128
  · rw [if_pos c0]
    unfold Lib.decodeN
    rw [if_pos c0, if_neg (by simp; omega)]
  rw [if_neg c0]
  by_cases c2 : 192 ≤ b0 ∧ b0 < 224
  · rw [if_pos c2]
    clear s3 s4
    obtain ⟨p, hp⟩ : ∃ p, p = Lib.decodeN n b0 b1 b2 b3 := ⟨_, rfl⟩
    rw [← hp]
    unfold Lib.decodeN at hp
    repeat' split at hp
    all_goals subst hp
    all_goals first | (exfalso; omega) | (rw [if_pos ⟨rfl, rfl⟩]; omega) | (rw [if_neg (fun h => absurd (show (2 : Nat) = 1 from h.2) (by decide))]; show _ = 2; omega) | (rw [if_neg (fun h => absurd (show (3 : Nat) = 1 from h.2) (by decide))]; show _ = 3; omega) | (rw [if_neg (fun h => absurd (show (4 : Nat) = 1 from h.2) (by decide))]; show _ = 4; omega)
  rw [if_neg c2]
  by_cases c3 : 224 ≤ b0 ∧ b0 < 240
  · rw [if_pos c3]
    clear s2 s4
    obtain ⟨p, hp⟩ : ∃ p, p = Lib.decodeN n b0 b1 b2 b3 := ⟨_, rfl⟩
    rw [← hp]
    unfold Lib.decodeN at hp
    repeat' split at hp
    all_goals subst hp
    all_goals first | (exfalso; omega) | (rw [if_pos ⟨rfl, rfl⟩]; omega) | (rw [if_neg (fun h => absurd (show (2 : Nat) = 1 from h.2) (by decide))]; show _ = 2; omega) | (rw [if_neg (fun h => absurd (show (3 : Nat) = 1 from h.2) (by decide))]; show _ = 3; omega) | (rw [if_neg (fun h => absurd (show (4 : Nat) = 1 from h.2) (by decide))]; show _ = 4; omega)
  rw [if_neg c3]
  clear s2 s3
  have s5 : (240 ≤ b0 ∧ b0 < 248 → (if 240 ≤ b0 ∧ b0 < 248 then r4 else 0) = r4) ∧ (¬ (240 ≤ b0 ∧ b0 < 248) → (if 240 ≤ b0 ∧ b0 < 248 then r4 else 0) = 0) := ⟨fun h => if_pos h, fun h => if_neg h⟩
  generalize (if 240 ≤ b0 ∧ b0 < 248 then r4 else 0) = r5 at *
  obtain ⟨p, hp⟩ : ∃ p, p = Lib.decodeN n b0 b1 b2 b3 := ⟨_, rfl⟩
  rw [← hp]
  unfold Lib.decodeN at hp
  repeat' split at hp
  all_goals subst hp
  all_goals first | (exfalso; omega) | (rw [if_pos ⟨rfl, rfl⟩]; omega) | (rw [if_neg (fun h => absurd (show (2 : Nat) = 1 from h.2) (by decide))]; show _ = 2; omega) | (rw [if_neg (fun h => absurd (show (3 : Nat) = 1 from h.2) (by decide))]; show _ = 3; omega) | (rw [if_neg (fun h => absurd (show (4 : Nat) = 1 from h.2) (by decide))]; show _ = 4; omega)
theorem decodeL_data (t : ByteArray) : Lib.decodeL t.data.toList = Utf8.decode t 0 := by
  unfold Lib.decodeL
  congr 1
theorem valid_step (t : ByteArray) (h : 0 < t.size) : Lib.validD t.data.toList = if signS t = 0 then false else Lib.validD (t.data.toList.drop (signS t)) := by
  have hne : t.data.toList ≠ [] := by
    intro e
    have h1 : t.data.toList.length = 0 := by rw [e]; rfl
    rw [Array.length_toList] at h1
    have h2 : t.data.size = t.size := rfl
    omega
  rw [Lib.validD_step _ hne, decodeL_data, sign_decode t h]
  by_cases hc : (Utf8.decode t 0).1 = 65533 ∧ (Utf8.decode t 0).2 = 1
  · rw [if_pos hc, if_pos hc]; rfl
  · rw [if_neg hc, if_neg hc]
    have hw := Lib.decodeL_width t.data.toList
    rw [decodeL_data] at hw
    rw [if_neg (show ¬ (Utf8.decode t 0).2 = 0 by omega)]
theorem signS_le (t : ByteArray) (h : 0 < t.size) : signS t ≤ t.size ∧ signS t ≤ 4 := by
  unfold signS
  have s2 := sv2 (bt t 0 - 192) t
  have s3 := sv3 (bt t 0 - 224) t
  have s4 := sv4 (bt t 0 - 240) t
  unfold cond2 at s2
  unfold cond3 at s3
  unfold cond4 at s4
  repeat' split
  all_goals omega
end Go.Proofs.YtdiiefhklcchmaaDoor
/-
  THE REFERENCE's LIST OF FAULTS: add, index, at, first; u. Conditions: lengths in the form's reach.
-/
namespace Go.Proofs.YtdiiefhklcchmaaDoor
open Go.RowKit Go.Lib
attribute [local go_sem ↓] Go.wp_at_zero Go.wp_at_succ

theorem elem_errs : Elem Tryd.prog 74 31 (.int .i64 0) 1 8 := ⟨Tryd.underlying74, by kernel_rfl, rfl, by decide⟩

structure FBox (w : World) (base B : Nat) (L : List Int) : Prop where
  le : base ≤ B
  own : ∃ v, Blk w B 74 [v] ∧ OwnI w base .i64 31 v L
  base : base ≤ w.heap.size
theorem FBox.below {w w' : World} {base B : Nat} {L : List Int} (h : FBox w base B L) (hb : Below w.heap.size w w') : FBox w' base B L := by
  obtain ⟨h1, ⟨v, h3, h4⟩, h2⟩ := h
  exact ⟨h1, ⟨v, h3.below hb, h4.below hb⟩, Nat.le_trans h2 hb.size⟩
/-- blocks of other types stay -/
def KeepF (B : Nat) (w w' : World) : Prop := ∀ (c : Nat) (ty : TypeId) (cs : List Value), (ty == 31) = false → c ≠ B → Blk w c ty cs → Blk w' c ty cs
theorem KeepF.trans {B : Nat} {w1 w2 w3 : World} (h1 : KeepF B w1 w2) (h2 : KeepF B w2 w3) : KeepF B w1 w3 := fun c ty cs a b h => h2 c ty cs a b (h1 c ty cs a b h)
/-- a block of another type is turned -/
theorem FBox.other {w : World} {base B c i : Nat} {L : List Int} {ty : TypeId} {cs : List Value} (h : FBox w base B L) (hc : Blk w c ty cs) (ht : (ty == 31) = false) (hne : B ≠ c) (u : Value) : FBox (w.setCell ⟨c, i, none⟩ u) base B L := by
  obtain ⟨h1, ⟨v, h3, h4⟩, h2⟩ := h
  exact ⟨h1, ⟨v, h3.other (a := ⟨c, i, none⟩) (Ne.symm hne) u, ownsRow_setCell_other (a := ⟨c, i, none⟩) h4 (blk_ne hc h4 ht) u⟩, by simpa using h2⟩
def FPost (base B : Nat) (w : World) (L : List Int) (e : Ending) (w' : World) : Prop := e = .returned (.tuple #[]) ∧ FBox w' base B L ∧ Below base w w' ∧ KeepF B w w'

set_option maxRecDepth 100000 in
set_option maxHeartbeats 1000000 in
theorem fadd_any (w : World) (base B : Nat) (L : List Int) (is : Bool) (e : Int) (h : FBox w base B L) (hl : L.length ≤ 1099511627776) :
    Calls Tryd.prog 28 #[.pointer (some ⟨B, 0, none⟩), .bool is, .int .i64 e] w (FPost base B w (L ++ flt is e)) := by
  cases is with
  | false =>
    rw [show L ++ flt false e = L from by simp [flt]]
    have H := hid h
    clear h
    go_enter Tryd.func28, Tryd.ntmps28
    go_wp2_with fail
    go_end0
    exact ⟨rfl, H.out, Below.refl _ _, fun _ _ _ _ _ h => h⟩
  | true =>
    rw [show L ++ flt true e = L ++ [e] from by simp [flt]]
    obtain ⟨h1, ⟨v, h3, h4⟩, h2⟩ := h
    have q0 := h3.cell (i := 0) rfl
    have f0 := h3.free 0
    obtain ⟨ao, cap, hvv, _⟩ := own_sl h4
    subst hvv
    have H3 := hid h3
    have H4 := hid h4
    have hne := blk_ne h3 h4 (by rfl)
    clear h3 h4
    go_enter Tryd.func28, Tryd.ntmps28
    go_wp2_with (at_builtin; go_must (refine app_int elem_errs (y := e) rfl _ _ rfl rfl rfl rfl H4.out (by omega) (by omega) h2 ?_); intro v' w' ho hb hg; obtain ⟨ao2, cap2, rfl, _⟩ := own_sl ho; have z0 := Grew.cell hg q0 hne; have z1 := Grew.free hg q0 hne f0; have HG := hid (And.intro ho (And.intro hb hg)); clear ho hb hg)
    go_end0
    have hk : Blk w' B _ _ := blk_grown H3.out HG.out.2.2.1 hne
    have hn2 := blk_ne hk HG.out.1 (by rfl)
    have hlen : (L ++ [e]).length = L.length + 1 := by simp
    have ho2 := HG.out.1
    rw [hlen] at ho2 hn2
    refine ⟨rfl, ⟨h1, ⟨_, hk.set 0 _, ownsRow_setCell_other (a := ⟨B, 0, none⟩) ho2 hn2 _⟩, by have := HG.out.2.1.size; simp; omega⟩, HG.out.2.1.setCell h1 _, ?_⟩
    intro c ty cs ht hc hcs
    exact (blk_grown hcs HG.out.2.2.1 (blk_ne hcs H4.out ht)).other (a := ⟨B, 0, none⟩) (Ne.symm hc) _

theorem at_cases (n : Int) : (n < -2147483648 ∧ atBad n = true) ∨ (-2147483648 ≤ n ∧ 2147483647 < n ∧ atBad n = true) ∨ (-2147483648 ≤ n ∧ n ≤ 2147483647 ∧ decide (n < -2147483648) = false ∧ decide (2147483647 < n) = false ∧ atBad n = false) := by
  unfold atBad
  by_cases h : n < -2147483648
  · exact .inl ⟨h, decide_eq_true (.inl h)⟩
  by_cases h2 : 2147483647 < n
  · exact .inr (.inl ⟨by omega, h2, decide_eq_true (.inr h2)⟩)
  · exact .inr (.inr ⟨by omega, by omega, decide_eq_false (by omega), decide_eq_false (by omega), decide_eq_false (by omega)⟩)

set_option maxRecDepth 100000 in
set_option maxHeartbeats 1000000 in
theorem findex_any (w : World) (base B : Nat) (L : List Int) (n : Int) (h : FBox w base B L) (hl : L.length ≤ 1099511627776) :
    Calls Tryd.prog 31 #[.pointer (some ⟨B, 0, none⟩), .int .i64 n] w (FPost base B w (L ++ flt (idxBad n) 1)) := by
  have ha := fadd_any w base B L (idxBad n) 1 h hl
  have hcs := idx_cases n
  generalize idxBad n = ib at *
  have HA := hid ha
  clear ha h
  rcases hcs with ⟨k1, rfl⟩ | ⟨k1, k2, rfl⟩ | ⟨k1, k2, k3, k4, rfl⟩
  all_goals
    go_enter Tryd.func31, Tryd.ntmps31
    go_wp2_with fail
    refine HA.out.mono ?_
    rintro e w1 ⟨rfl, h2, h3, h4⟩
    go_wp2_with fail
    go_end0
    exact ⟨rfl, h2, h3, h4⟩

set_option maxRecDepth 100000 in
set_option maxHeartbeats 1000000 in
theorem fat_any (w : World) (base B : Nat) (L : List Int) (n : Int) (h : FBox w base B L) (hl : L.length ≤ 1099511627776) :
    Calls Tryd.prog 34 #[.pointer (some ⟨B, 0, none⟩), .int .i64 n] w (FPost base B w (L ++ flt (atBad n) 1)) := by
  have ha := fadd_any w base B L (atBad n) 1 h hl
  have hcs := at_cases n
  generalize atBad n = ib at *
  have HA := hid ha
  clear ha h
  rcases hcs with ⟨k1, rfl⟩ | ⟨k1, k2, rfl⟩ | ⟨k1, k2, k3, k4, rfl⟩
  all_goals
    go_enter Tryd.func34, Tryd.ntmps34
    go_wp2_with fail
    refine HA.out.mono ?_
    rintro e w1 ⟨rfl, h2, h3, h4⟩
    go_wp2_with fail
    go_end0
    exact ⟨rfl, h2, h3, h4⟩

set_option maxRecDepth 100000 in
set_option maxHeartbeats 1000000 in
theorem ffirst_any (w : World) (v : Value) (L : List Int) (h : Ints w .i64 v L) :
    Calls Tryd.prog 35 #[v] w fun e w' => e = .returned (.int .i64 (firstF L)) ∧ w = w' := by
  rcases h.open with ⟨ao, cap, rfl, rfl, _⟩ | ⟨b, off, cap, rfl, h0, hcap, hm, hc⟩
  · go_enter Tryd.func35, Tryd.ntmps35
    go_wp2_with fail
    go_ret
    exact ⟨rfl, rfl⟩
  · have c0 := hc 0 h0
    cases L with
    | nil => simp at h0
    | cons x r =>
      rw [List.getElem_cons_zero, Nat.add_zero] at c0
      have hz : (((x :: r).length : Int) == 0) = false := by simp; omega
      clear hc h
      generalize (x :: r).length = n at *
      have h0' : (0 : Int) < (n : Int) := by omega
      go_enter Tryd.func35, Tryd.ntmps35
      go_wp2_with fail
      go_ret
      exact ⟨rfl, rfl⟩

end Go.Proofs.YtdiiefhklcchmaaDoor
