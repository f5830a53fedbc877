/-
  MODULES AS BYTES, plain: the first fault of a module's parts. No program, no condition.
-/
import Derived.Test.YtdiiefhklcchmaaDoorBase
import Derived.Test.YtdiiefhklcchmaaDoorRowK
import Derived.Test.YtdiiefhklcchmaaDoorGBinChecks2
import Derived.Test.YtdiiefhklcchmaaDoorLebP
import Derived.Test.YtdiiefhklcchmaaDoorFl0
import Derived.IntWalk
import Derived.Deep.QuietTactic
import Derived.BigQuiet
namespace Go.Proofs.YtdiiefhklcchmaaDoor
open Go.RowKit

def orE (a b : Int) : Int := if a = 0 then b else a
theorem orE_zero (b : Int) : orE 0 b = b := rfl
theorem orE_none (a : Int) : orE a 0 = a := by unfold orE; split <;> omega
theorem orE_stop {a : Int} (h : a ≠ 0) (b : Int) : orE a b = a := if_neg h
theorem orE_assoc (a b c : Int) : orE (orE a b) c = orE a (orE b c) := by
  unfold orE
  by_cases h : a = 0
  · simp [h]
  · simp [h]
def foldE {α : Type} (F : α → Int) : List α → Int
  | [] => 0
  | x :: r => orE (F x) (foldE F r)
theorem foldE_append {α : Type} (F : α → Int) (a b : List α) : foldE F (a ++ b) = orE (foldE F a) (foldE F b) := by
  induction a with
  | nil => rfl
  | cons x r ih => rw [List.cons_append, foldE, ih, foldE, orE_assoc]
theorem foldE_next {α : Type} (F : α → Int) (l : List α) (k : Nat) (h : k < l.length) (b : Int) : orE (orE b (foldE F (l.take k))) (F l[k]) = orE b (foldE F (l.take (k + 1))) := by
  rw [List.take_succ_eq_append_getElem h, foldE_append, orE_assoc]
  show orE b (orE _ _) = orE b (orE _ (orE (F l[k]) 0))
  rw [orE_none]
theorem foldE_stop {α : Type} (F : α → Int) (l : List α) (k : Nat) (b : Int) (h : orE b (foldE F (l.take k)) ≠ 0) : orE b (foldE F l) = orE b (foldE F (l.take k)) := by
  conv => lhs; rw [← List.take_append_drop k l, foldE_append, ← orE_assoc, orE_stop h]
theorem foldE_full {α : Type} (F : α → Int) (l : List α) (b : Int) : orE b (foldE F (l.take l.length)) = orE b (foldE F l) := by rw [List.take_length]
def ndE (is : Bool) (e : Int) : Int := if is = true then 0 else e
def eachE {α : Type} (F : α → Int) (l : List α) (most : Int) : Int := orE (ndE (decide ((l.length : Int) ≤ most)) 2) (foldE F l)
def isK (k : Int) : Bool := decide (k = 127 ∨ k = 126)
def fKind (k : Int) : Int := ndE (isK k) 1
def isI (n : Int) : Bool := decide (0 ≤ n ∧ n ≤ 4294967295)
def fIdx (n : Int) : Int := ndE (isI n) 1
def isP (n : Int) : Bool := decide (-2147483648 ≤ n ∧ n ≤ 2147483647)
def fPlc (n : Int) : Int := ndE (isP n) 1
end Go.Proofs.YtdiiefhklcchmaaDoor
/-
  WHAT THE LAWS OVER STEPS SHARE: a list of flat structs as an argument; the number of a step. No condition.
-/
namespace Go.Proofs.YtdiiefhklcchmaaDoor
open Go.RowKit

theorem flat_of {α : Type} (enc : α → List Value) : ∀ (css : List (List Value)) (ys : List α), css.length = ys.length → (∀ i (h1 : i < css.length) (h2 : i < ys.length), css[i] = enc ys[i]) → css.flatten = ys.flatMap enc := by
  intro css
  induction css with
  | nil => intro ys hl _; cases ys with
    | nil => rfl
    | cons _ _ => simp at hl
  | cons c r ih =>
    intro ys hl h
    cases ys with
    | nil => simp at hl
    | cons y ys =>
      have h0 := h 0 (by simp) (by simp)
      simp only [List.getElem_cons_zero] at h0
      rw [List.flatten_cons, List.flatMap_cons, h0, ih ys (by simpa using hl) (fun i h1 h2 => by have := h (i + 1) (by simpa using h1) (by simpa using h2); simpa using this)]
theorem slice_flat {W : World} {s bytes : Nat} {α : Type} {R : List Value → α → Prop} {v : Value} {ys : List α} (enc : α → List Value) (Q : α → Prop) (h : ∀ cs y, R cs y → cs = enc y ∧ Q y) (hs : sliceR W s bytes R [v] ys) : Lk enc W v ys ∧ (∀ y ∈ ys, Q y) ∧ ys.length * bytes ≤ 140737488351232 := by
  obtain ⟨v', css, hv, hsl, hl, hb, hel⟩ := hs
  simp only [List.cons.injEq, and_true] at hv
  subst hv
  refine ⟨?_, ?_, hb⟩
  · rw [flat_of enc css ys hl (fun i h1 h2 => (h _ _ (hel i h1 h2).2).1)] at hsl
    exact hsl
  · intro y hy
    obtain ⟨i, hi, rfl⟩ := List.getElem_of_mem hy
    exact (h _ _ (hel i (by omega) hi).2).2

theorem wf_i64 {n : Int} (h : (Lit.int .i64 n).wf = true) : -9223372036854775808 ≤ n ∧ n ≤ 9223372036854775807 := by
  simpa [Lit.wf, IntKind.min, IntKind.max, IntKind.signed, IntKind.bits] using h
theorem wf_u64 {n : Int} (h : (Lit.int .u64 n).wf = true) : 0 ≤ n ∧ n ≤ 18446744073709551615 := by
  simpa [Lit.wf, IntKind.min, IntKind.max, IntKind.signed, IntKind.bits] using h

theorem rest_neg {n m : Int} (hm : 1 ≤ m) (h : n.tmod m < 0) : n % m = n.tmod m + m := by
  rw [Int.emod_eq_tmod]
  have hn : ¬ (0 ≤ n ∨ m ∣ n) := by
    rintro (h1 | h1)
    · have := Int.tmod_nonneg m h1; omega
    · have := Int.tmod_eq_zero_of_dvd h1; omega
  rw [if_neg hn]
  omega
theorem rest_pos {n m : Int} (_ : 1 ≤ m) (h : 0 ≤ n.tmod m) : n % m = n.tmod m := by
  rw [Int.emod_eq_tmod]
  by_cases hn : 0 ≤ n ∨ m ∣ n
  · rw [if_pos hn]; omega
  · have h1 : ¬ 0 ≤ n := fun h => hn (.inl h)
    have h2 : ¬ m ∣ n := fun h => hn (.inr h)
    have h3 : n.tmod m ≤ 0 := by
      have := Int.tmod_nonneg m (by omega : 0 ≤ -n)
      rw [Int.neg_tmod] at this; omega
    have h4 : n.tmod m = 0 := by omega
    exact absurd (Int.dvd_of_tmod_eq_zero h4) h2

end Go.Proofs.YtdiiefhklcchmaaDoor
/-
  THE WALKS of package leb's readers and writers and of the reference's: each returns what the plain functions of LebP say. Conditions: lengths of strings are at most the model's greatest length.
-/
namespace Go.Proofs.YtdiiefhklcchmaaDoor
open Go.RowKit

def tup3 (k1 k2 k3 : IntKind) (r : Nat × Nat × Nat) : Value := .tuple #[.int k1 r.1, .int k2 r.2.1, .int k3 r.2.2]

theorem data_drop (s : ByteArray) (k : Nat) (h : k < s.size) : s.data.toList.drop k = s[k] :: s.data.toList.drop (k + 1) := by
  rw [drop_cons _ k (by simpa using h)]; rfl

/-- what the reference's LebReadU computes -/
def refU (b : Nat) (l : List UInt8) : Nat × Nat × Nat :=
  let (k, m, e) := spanR b l
  if e ≠ 0 then (0, 0, e)
  else if k = m ∧ 2 ^ (b - 7 * (m - 1)) ≤ (l.getD (k - 1) 0).toNat then (0, 0, 4)
  else (horner (l.take k) % 18446744073709551616, k, 0)

theorem spanR_ok {b : Nat} {l : List UInt8} {k m : Nat} (h : spanR b l = (k, m, 0)) : m = mostOf b ∧ 1 ≤ k ∧ k ≤ m ∧ k ≤ l.length ∧ lead m l + 1 = k := by
  unfold spanR at h
  have h1 := lead_le (mostOf b) l
  split at h
  · simp at h
  · split at h
    · simp at h
    · simp at h
      obtain ⟨rfl, rfl⟩ := h
      omega

end Go.Proofs.YtdiiefhklcchmaaDoor
/-
  THE REFERENCE's LIST OF FAULTS: add, index, at, first; u. Conditions: lengths in the form's reach.
-/
namespace Go.Proofs.YtdiiefhklcchmaaDoor
open Go.RowKit Go.Lib
attribute [local go_sem ↓] Go.wp_at_zero Go.wp_at_succ

theorem elem_errs : Elem Tryd.prog 74 31 (.int .i64 0) 1 8 := ⟨Tryd.underlying74, by kernel_rfl, rfl, by decide⟩

structure FBox (w : World) (base B : Nat) (L : List Int) : Prop where
  le : base ≤ B
  own : ∃ v, Blk w B 74 [v] ∧ OwnI w base .i64 31 v L
  base : base ≤ w.heap.size
theorem FBox.below {w w' : World} {base B : Nat} {L : List Int} (h : FBox w base B L) (hb : Below w.heap.size w w') : FBox w' base B L := by
  obtain ⟨h1, ⟨v, h3, h4⟩, h2⟩ := h
  exact ⟨h1, ⟨v, h3.below hb, h4.below hb⟩, Nat.le_trans h2 hb.size⟩
/-- blocks of other types stay -/
def KeepF (B : Nat) (w w' : World) : Prop := ∀ (c : Nat) (ty : TypeId) (cs : List Value), (ty == 31) = false → c ≠ B → Blk w c ty cs → Blk w' c ty cs
theorem KeepF.trans {B : Nat} {w1 w2 w3 : World} (h1 : KeepF B w1 w2) (h2 : KeepF B w2 w3) : KeepF B w1 w3 := fun c ty cs a b h => h2 c ty cs a b (h1 c ty cs a b h)
/-- a block of another type is turned -/
theorem FBox.other {w : World} {base B c i : Nat} {L : List Int} {ty : TypeId} {cs : List Value} (h : FBox w base B L) (hc : Blk w c ty cs) (ht : (ty == 31) = false) (hne : B ≠ c) (u : Value) : FBox (w.setCell ⟨c, i, none⟩ u) base B L := by
  obtain ⟨h1, ⟨v, h3, h4⟩, h2⟩ := h
  exact ⟨h1, ⟨v, h3.other (a := ⟨c, i, none⟩) (Ne.symm hne) u, ownsRow_setCell_other (a := ⟨c, i, none⟩) h4 (blk_ne hc h4 ht) u⟩, by simpa using h2⟩
def FPost (base B : Nat) (w : World) (L : List Int) (e : Ending) (w' : World) : Prop := e = .returned (.tuple #[]) ∧ FBox w' base B L ∧ Below base w w' ∧ KeepF B w w'

set_option maxRecDepth 100000 in
set_option maxHeartbeats 1000000 in
theorem fadd_any (w : World) (base B : Nat) (L : List Int) (is : Bool) (e : Int) (h : FBox w base B L) (hl : L.length ≤ 1099511627776) :
    Calls Tryd.prog 28 #[.pointer (some ⟨B, 0, none⟩), .bool is, .int .i64 e] w (FPost base B w (L ++ flt is e)) := by
  cases is with
  | false =>
    rw [show L ++ flt false e = L from by simp [flt]]
    have H := hid h
    clear h
    go_enter Tryd.func28, Tryd.ntmps28
    go_wp2_with fail
    go_end0
    exact ⟨rfl, H.out, Below.refl _ _, fun _ _ _ _ _ h => h⟩
  | true =>
    rw [show L ++ flt true e = L ++ [e] from by simp [flt]]
    obtain ⟨h1, ⟨v, h3, h4⟩, h2⟩ := h
    have q0 := h3.cell (i := 0) rfl
    have f0 := h3.free 0
    obtain ⟨ao, cap, hvv, _⟩ := own_sl h4
    subst hvv
    have H3 := hid h3
    have H4 := hid h4
    have hne := blk_ne h3 h4 (by rfl)
    clear h3 h4
    go_enter Tryd.func28, Tryd.ntmps28
    go_wp2_with (at_builtin; go_must (refine app_int elem_errs (y := e) rfl _ _ rfl rfl rfl rfl H4.out (by omega) (by omega) h2 ?_); intro v' w' ho hb hg; obtain ⟨ao2, cap2, rfl, _⟩ := own_sl ho; have z0 := Grew.cell hg q0 hne; have z1 := Grew.free hg q0 hne f0; have HG := hid (And.intro ho (And.intro hb hg)); clear ho hb hg)
    go_end0
    have hk : Blk w' B _ _ := blk_grown H3.out HG.out.2.2.1 hne
    have hn2 := blk_ne hk HG.out.1 (by rfl)
    have hlen : (L ++ [e]).length = L.length + 1 := by simp
    have ho2 := HG.out.1
    rw [hlen] at ho2 hn2
    refine ⟨rfl, ⟨h1, ⟨_, hk.set 0 _, ownsRow_setCell_other (a := ⟨B, 0, none⟩) ho2 hn2 _⟩, by have := HG.out.2.1.size; simp; omega⟩, HG.out.2.1.setCell h1 _, ?_⟩
    intro c ty cs ht hc hcs
    exact (blk_grown hcs HG.out.2.2.1 (blk_ne hcs H4.out ht)).other (a := ⟨B, 0, none⟩) (Ne.symm hc) _

theorem at_cases (n : Int) : (n < -2147483648 ∧ atBad n = true) ∨ (-2147483648 ≤ n ∧ 2147483647 < n ∧ atBad n = true) ∨ (-2147483648 ≤ n ∧ n ≤ 2147483647 ∧ decide (n < -2147483648) = false ∧ decide (2147483647 < n) = false ∧ atBad n = false) := by
  unfold atBad
  by_cases h : n < -2147483648
  · exact .inl ⟨h, decide_eq_true (.inl h)⟩
  by_cases h2 : 2147483647 < n
  · exact .inr (.inl ⟨by omega, h2, decide_eq_true (.inr h2)⟩)
  · exact .inr (.inr ⟨by omega, by omega, decide_eq_false (by omega), decide_eq_false (by omega), decide_eq_false (by omega)⟩)

set_option maxRecDepth 100000 in
set_option maxHeartbeats 1000000 in
theorem findex_any (w : World) (base B : Nat) (L : List Int) (n : Int) (h : FBox w base B L) (hl : L.length ≤ 1099511627776) :
    Calls Tryd.prog 31 #[.pointer (some ⟨B, 0, none⟩), .int .i64 n] w (FPost base B w (L ++ flt (idxBad n) 1)) := by
  have ha := fadd_any w base B L (idxBad n) 1 h hl
  have hcs := idx_cases n
  generalize idxBad n = ib at *
  have HA := hid ha
  clear ha h
  rcases hcs with ⟨k1, rfl⟩ | ⟨k1, k2, rfl⟩ | ⟨k1, k2, k3, k4, rfl⟩
  all_goals
    go_enter Tryd.func31, Tryd.ntmps31
    go_wp2_with fail
    refine HA.out.mono ?_
    rintro e w1 ⟨rfl, h2, h3, h4⟩
    go_wp2_with fail
    go_end0
    exact ⟨rfl, h2, h3, h4⟩

set_option maxRecDepth 100000 in
set_option maxHeartbeats 1000000 in
theorem fat_any (w : World) (base B : Nat) (L : List Int) (n : Int) (h : FBox w base B L) (hl : L.length ≤ 1099511627776) :
    Calls Tryd.prog 34 #[.pointer (some ⟨B, 0, none⟩), .int .i64 n] w (FPost base B w (L ++ flt (atBad n) 1)) := by
  have ha := fadd_any w base B L (atBad n) 1 h hl
  have hcs := at_cases n
  generalize atBad n = ib at *
  have HA := hid ha
  clear ha h
  rcases hcs with ⟨k1, rfl⟩ | ⟨k1, k2, rfl⟩ | ⟨k1, k2, k3, k4, rfl⟩
  all_goals
    go_enter Tryd.func34, Tryd.ntmps34
    go_wp2_with fail
    refine HA.out.mono ?_
    rintro e w1 ⟨rfl, h2, h3, h4⟩
    go_wp2_with fail
    go_end0
    exact ⟨rfl, h2, h3, h4⟩

set_option maxRecDepth 100000 in
set_option maxHeartbeats 1000000 in
theorem ffirst_any (w : World) (v : Value) (L : List Int) (h : Ints w .i64 v L) :
    Calls Tryd.prog 35 #[v] w fun e w' => e = .returned (.int .i64 (firstF L)) ∧ w = w' := by
  rcases h.open with ⟨ao, cap, rfl, rfl, _⟩ | ⟨b, off, cap, rfl, h0, hcap, hm, hc⟩
  · go_enter Tryd.func35, Tryd.ntmps35
    go_wp2_with fail
    go_ret
    exact ⟨rfl, rfl⟩
  · have c0 := hc 0 h0
    cases L with
    | nil => simp at h0
    | cons x r =>
      rw [List.getElem_cons_zero, Nat.add_zero] at c0
      have hz : (((x :: r).length : Int) == 0) = false := by simp; omega
      clear hc h
      generalize (x :: r).length = n at *
      have h0' : (0 : Int) < (n : Int) := by omega
      go_enter Tryd.func35, Tryd.ntmps35
      go_wp2_with fail
      go_ret
      exact ⟨rfl, rfl⟩

end Go.Proofs.YtdiiefhklcchmaaDoor
