/-
  MODULES AS BYTES, plain: lists of texts, numbers, runs. No program, no condition.
-/
import Derived.Test.YthoalneknadheaaGreatDoorGBinWrites4
import Derived.Test.YthoalneknadheaaGreatDoorGBinWrites10
namespace Go.Proofs.YthoalneknadheaaGreatDoor
open Go.RowKit

def catB {α : Type} (f : α → ByteArray) : List α → ByteArray
  | [] => ⟨#[]⟩
  | x :: r => f x ++ catB f r
theorem ba_nil (a : ByteArray) : a ++ (⟨#[]⟩ : ByteArray) = a := by
  rw [← S_of a]; show S _ ++ S [] = _; rw [S_append, List.append_nil]
theorem nil_ba (a : ByteArray) : (⟨#[]⟩ : ByteArray) ++ a = a := by
  rw [← S_of a]; show S [] ++ S _ = _; rw [S_append, List.nil_append]
theorem ba_assoc (a b c : ByteArray) : a ++ b ++ c = a ++ (b ++ c) := by
  rw [← S_of a, ← S_of b, ← S_of c]; simp only [S_append, List.append_assoc]
theorem catB_append {α : Type} (f : α → ByteArray) (l m : List α) : catB f (l ++ m) = catB f l ++ catB f m := by
  induction l with
  | nil => exact (nil_ba _).symm
  | cons x r ih => show f x ++ catB f (r ++ m) = f x ++ catB f r ++ catB f m; rw [ih, ba_assoc]
theorem catB_next {α : Type} (f : α → ByteArray) (l : List α) (k : Nat) (h : k < l.length) : catB f (l.take k) ++ f l[k] = catB f (l.take (k + 1)) := by
  rw [List.take_succ_eq_append_getElem h, catB_append]
  show _ = catB f (l.take k) ++ (f l[k] ++ (⟨#[]⟩ : ByteArray))
  rw [ba_nil]
theorem catB_more {α : Type} (f : α → ByteArray) (l : List α) (k : Nat) (h : k < l.length) (b : ByteArray) : b ++ catB f (l.take k) ++ f l[k] = b ++ catB f (l.take (k + 1)) := by
  rw [ba_assoc, catB_next]
def oneB (n : Int) : ByteArray := S [byteOf n]
def numB (n : Int) : ByteArray := S (encU 9 n.toNat)
def kindsB (l : List Int) : ByteArray := numB l.length ++ catB oneB l
def listB {α : Type} (f : α → ByteArray) (l : List α) : ByteArray := if l.length = 0 then ⟨#[]⟩ else numB l.length ++ catB f l
def runN (k : Int) : List Int → Nat
  | [] => 0
  | x :: r => if x = k then runN k r + 1 else 0
theorem runN_le (k : Int) (l : List Int) : runN k l ≤ l.length := by
  induction l with
  | nil => exact Nat.le_refl _
  | cons x r ih =>
    rw [runN, List.length_cons]
    split <;> omega
theorem runN_at (k : Int) (l : List Int) : ∀ j : Nat, j < runN k l → l[j]? = some k := by
  induction l with
  | nil => intro j h; simp [runN] at h
  | cons x r ih =>
    intro j h
    rw [runN] at h
    by_cases e : x = k
    · rw [if_pos e] at h
      cases j with
      | zero => simp [e]
      | succ j => simpa using ih j (by omega)
    · rw [if_neg e] at h; omega
theorem runN_stop (k : Int) (l : List Int) : l[runN k l]? ≠ some k := by
  induction l with
  | nil => simp
  | cons x r ih =>
    rw [runN]
    by_cases e : x = k
    · rw [if_pos e]; simpa using ih
    · rw [if_neg e]; simpa using e
def runsB : Nat → List Int → List (Nat × Int)
  | 0, _ => []
  | _ + 1, [] => []
  | f + 1, x :: r => (runN x r + 1, x) :: runsB f (r.drop (runN x r))
theorem runs_step (l : List Int) (c i : Nat) (h : i < l.length) (hc : c ≤ i) : ∃ m, runsB (l.length - c) (l.drop i) = (m + 1, l[i]) :: runsB (l.length - (c + 1)) (l.drop (i + (m + 1))) ∧ i + (m + 1) ≤ l.length ∧ (∀ j, j ≤ m → l[i + j]? = some l[i]) ∧ l[i + (m + 1)]? ≠ some l[i] := by
  refine ⟨runN l[i] (l.drop (i + 1)), ?_, ?_, ?_, ?_⟩
  · rw [List.drop_eq_getElem_cons h, show l.length - c = (l.length - (c + 1)) + 1 by omega, runsB, List.drop_drop]
    rw [show i + 1 + runN l[i] (l.drop (i + 1)) = i + (runN l[i] (l.drop (i + 1)) + 1) by omega]
  · have := runN_le l[i] (l.drop (i + 1))
    rw [List.length_drop] at this
    omega
  · intro j hj
    cases j with
    | zero => simp [h]
    | succ j =>
      have := runN_at l[i] (l.drop (i + 1)) j (by omega)
      rw [List.getElem?_drop] at this
      rw [← this]; congr 1; omega
  · have := runN_stop l[i] (l.drop (i + 1))
    rw [List.getElem?_drop] at this
    intro e
    apply this
    rw [← e]; congr 1; omega
theorem runs_stepN (l : List Int) (N c i : Nat) (hN : l.length = N) (h : i < N) (hc : c ≤ i) : ∃ m x, x ∈ l ∧ runsB (N - c) (l.drop i) = (m + 1, x) :: runsB (N - (c + 1)) (l.drop (i + (m + 1))) ∧ i + (m + 1) ≤ N ∧ (∀ j, j ≤ m → l[i + j]? = some x) ∧ l[i + (m + 1)]? ≠ some x := by
  subst hN
  obtain ⟨m, h1, h2, h3, h4⟩ := runs_step l c i h hc
  exact ⟨m, l[i], List.getElem_mem h, h1, h2, h3, h4⟩
theorem runs_end (l : List Int) (f : Nat) : runsB f (l.drop l.length) = [] := by
  rw [List.drop_length]; cases f <;> rfl
def wRun (p : Nat × Int) : ByteArray := numB p.1 ++ oneB p.2
def codeAll (L : List Int) (B : ByteArray) : ByteArray := numB (runsB L.length L).length ++ catB wRun (runsB L.length L) ++ B
def codeB (L : List Int) (B : ByteArray) : ByteArray := numB (codeAll L B).size ++ codeAll L B
theorem numB_size (n : Int) : (numB n).size ≤ 10 := by unfold numB; rw [S_size]; exact encU_len 9 _
theorem oneB_size (n : Int) : (oneB n).size = 1 := by unfold oneB; rw [S_size]; rfl
theorem ba_size (a b : ByteArray) : (a ++ b).size = a.size + b.size := ByteArray.size_append
theorem catB_size {α : Type} (f : α → ByteArray) (c : Nat) (l : List α) (h : ∀ x ∈ l, (f x).size ≤ c) : (catB f l).size ≤ c * l.length := by
  induction l with
  | nil => exact Nat.zero_le _
  | cons x r ih =>
    show (f x ++ catB f r).size ≤ _
    rw [ba_size, List.length_cons, Nat.mul_add]
    have h1 := h x List.mem_cons_self
    have h2 := ih (fun z hz => h z (List.mem_cons_of_mem _ hz))
    omega
theorem runsB_len (f : Nat) (l : List Int) : (runsB f l).length ≤ f := by
  induction f generalizing l with
  | zero => exact Nat.le_refl _
  | succ f ih =>
    cases l with
    | nil => exact Nat.zero_le _
    | cons x r => rw [runsB, List.length_cons]; have := ih (r.drop (runN x r)); omega
theorem wRun_size (p : Nat × Int) : (wRun p).size ≤ 11 := by
  unfold wRun; rw [ba_size, oneB_size]; have := numB_size p.1; omega
theorem runs_size (f : Nat) (l : List Int) : (catB wRun (runsB f l)).size ≤ 11 * f := by
  have h1 := catB_size wRun 11 (runsB f l) (fun p _ => wRun_size p)
  have h2 := runsB_len f l
  omega
theorem kindsB_size (l : List Int) : (kindsB l).size ≤ 10 + l.length := by
  unfold kindsB
  rw [ba_size]
  have h1 := numB_size l.length
  have h2 := catB_size oneB 1 l (fun x _ => by rw [oneB_size]; exact Nat.le_refl _)
  omega
def secB (n : Int) (c : ByteArray) : ByteArray := if c.size = 0 then ⟨#[]⟩ else oneB n ++ numB c.size ++ c
end Go.Proofs.YthoalneknadheaaGreatDoor
namespace Go.Proofs.YthoalneknadheaaGreatDoor
open Go.RowKit Go.Lib
attribute [local go_sem ↓] Go.wp_at_zero Go.wp_at_succ

theorem elem_errs : Elem Tryz.prog 144 31 (.int .i64 0) 1 8 := ⟨Tryz.underlying144, by kernel_rfl, rfl, by decide⟩

structure FBox (w : World) (base B : Nat) (L : List Int) : Prop where
  le : base ≤ B
  own : ∃ v, Blk w B 144 [v] ∧ OwnI w base .i64 31 v L
  base : base ≤ w.heap.size
theorem FBox.below {w w' : World} {base B : Nat} {L : List Int} (h : FBox w base B L) (hb : Below w.heap.size w w') : FBox w' base B L := by
  obtain ⟨h1, ⟨v, h3, h4⟩, h2⟩ := h
  exact ⟨h1, ⟨v, h3.below hb, h4.below hb⟩, Nat.le_trans h2 hb.size⟩
def KeepF (B : Nat) (w w' : World) : Prop := ∀ (c : Nat) (ty : TypeId) (cs : List Value), (ty == 31) = false → c ≠ B → Blk w c ty cs → Blk w' c ty cs
theorem KeepF.trans {B : Nat} {w1 w2 w3 : World} (h1 : KeepF B w1 w2) (h2 : KeepF B w2 w3) : KeepF B w1 w3 := fun c ty cs a b h => h2 c ty cs a b (h1 c ty cs a b h)
theorem FBox.other {w : World} {base B c i : Nat} {L : List Int} {ty : TypeId} {cs : List Value} (h : FBox w base B L) (hc : Blk w c ty cs) (ht : (ty == 31) = false) (hne : B ≠ c) (u : Value) : FBox (w.setCell ⟨c, i, none⟩ u) base B L := by
  obtain ⟨h1, ⟨v, h3, h4⟩, h2⟩ := h
  exact ⟨h1, ⟨v, h3.other (a := ⟨c, i, none⟩) (Ne.symm hne) u, ownsRow_setCell_other (a := ⟨c, i, none⟩) h4 (blk_ne hc h4 ht) u⟩, by simpa using h2⟩
def FPost (base B : Nat) (w : World) (L : List Int) (e : Ending) (w' : World) : Prop := e = .returned (.tuple #[]) ∧ FBox w' base B L ∧ Below base w w' ∧ KeepF B w w'

set_option maxRecDepth 100000 in
set_option maxHeartbeats 1000000 in
theorem fadd_any (w : World) (base B : Nat) (L : List Int) (is : Bool) (e : Int) (h : FBox w base B L) (hl : L.length ≤ 1099511627776) :
    Calls Tryz.prog 88 #[.pointer (some ⟨B, 0, none⟩), .bool is, .int .i64 e] w (FPost base B w (L ++ flt is e)) := by
  cases is with
  | false =>
    rw [show L ++ flt false e = L from by simp [flt]]
    have H := hid h
    clear h
    go_enter Tryz.func88, Tryz.ntmps88
    go_wp2_with fail
    go_end0
    exact ⟨rfl, H.out, Below.refl _ _, fun _ _ _ _ _ h => h⟩
  | true =>
    rw [show L ++ flt true e = L ++ [e] from by simp [flt]]
    obtain ⟨h1, ⟨v, h3, h4⟩, h2⟩ := h
    have q0 := h3.cell (i := 0) rfl
    have f0 := h3.free 0
    obtain ⟨ao, cap, hvv, _⟩ := own_sl h4
    subst hvv
    have H3 := hid h3
    have H4 := hid h4
    have hne := blk_ne h3 h4 (by rfl)
    clear h3 h4
    go_enter Tryz.func88, Tryz.ntmps88
    go_wp2_with (at_builtin; go_must (refine app_int elem_errs (y := e) rfl _ _ rfl rfl rfl rfl H4.out (by omega) (by omega) h2 ?_); intro v' w' ho hb hg; obtain ⟨ao2, cap2, rfl, _⟩ := own_sl ho; have z0 := Grew.cell hg q0 hne; have z1 := Grew.free hg q0 hne f0; have HG := hid (And.intro ho (And.intro hb hg)); clear ho hb hg)
    go_end0
    have hk : Blk w' B _ _ := blk_grown H3.out HG.out.2.2.1 hne
    have hn2 := blk_ne hk HG.out.1 (by rfl)
    have hlen : (L ++ [e]).length = L.length + 1 := by simp
    have ho2 := HG.out.1
    rw [hlen] at ho2 hn2
    refine ⟨rfl, ⟨h1, ⟨_, hk.set 0 _, ownsRow_setCell_other (a := ⟨B, 0, none⟩) ho2 hn2 _⟩, by have := HG.out.2.1.size; simp; omega⟩, HG.out.2.1.setCell h1 _, ?_⟩
    intro c ty cs ht hc hcs
    exact (blk_grown hcs HG.out.2.2.1 (blk_ne hcs H4.out ht)).other (a := ⟨B, 0, none⟩) (Ne.symm hc) _

theorem at_cases (n : Int) : (n < -2147483648 ∧ atBad n = true) ∨ (-2147483648 ≤ n ∧ 2147483647 < n ∧ atBad n = true) ∨ (-2147483648 ≤ n ∧ n ≤ 2147483647 ∧ decide (n < -2147483648) = false ∧ decide (2147483647 < n) = false ∧ atBad n = false) := by
  unfold atBad
  by_cases h : n < -2147483648
  · exact .inl ⟨h, decide_eq_true (.inl h)⟩
  by_cases h2 : 2147483647 < n
  · exact .inr (.inl ⟨by omega, h2, decide_eq_true (.inr h2)⟩)
  · exact .inr (.inr ⟨by omega, by omega, decide_eq_false (by omega), decide_eq_false (by omega), decide_eq_false (by omega)⟩)

set_option maxRecDepth 100000 in
set_option maxHeartbeats 1000000 in
theorem findex_any (w : World) (base B : Nat) (L : List Int) (n : Int) (h : FBox w base B L) (hl : L.length ≤ 1099511627776) :
    Calls Tryz.prog 91 #[.pointer (some ⟨B, 0, none⟩), .int .i64 n] w (FPost base B w (L ++ flt (idxBad n) 1)) := by
  have ha := fadd_any w base B L (idxBad n) 1 h hl
  have hcs := idx_cases n
  generalize idxBad n = ib at *
  have HA := hid ha
  clear ha h
  rcases hcs with ⟨k1, rfl⟩ | ⟨k1, k2, rfl⟩ | ⟨k1, k2, k3, k4, rfl⟩
  all_goals
    go_enter Tryz.func91, Tryz.ntmps91
    go_wp2_with fail
    refine HA.out.mono ?_
    rintro e w1 ⟨rfl, h2, h3, h4⟩
    go_wp2_with fail
    go_end0
    exact ⟨rfl, h2, h3, h4⟩

set_option maxRecDepth 100000 in
set_option maxHeartbeats 1000000 in
theorem fat_any (w : World) (base B : Nat) (L : List Int) (n : Int) (h : FBox w base B L) (hl : L.length ≤ 1099511627776) :
    Calls Tryz.prog 94 #[.pointer (some ⟨B, 0, none⟩), .int .i64 n] w (FPost base B w (L ++ flt (atBad n) 1)) := by
  have ha := fadd_any w base B L (atBad n) 1 h hl
  have hcs := at_cases n
  generalize atBad n = ib at *
  have HA := hid ha
  clear ha h
  rcases hcs with ⟨k1, rfl⟩ | ⟨k1, k2, rfl⟩ | ⟨k1, k2, k3, k4, rfl⟩
  all_goals
    go_enter Tryz.func94, Tryz.ntmps94
    go_wp2_with fail
    refine HA.out.mono ?_
    rintro e w1 ⟨rfl, h2, h3, h4⟩
    go_wp2_with fail
    go_end0
    exact ⟨rfl, h2, h3, h4⟩

set_option maxRecDepth 100000 in
set_option maxHeartbeats 1000000 in
theorem ffirst_any (w : World) (v : Value) (L : List Int) (h : Ints w .i64 v L) :
    Calls Tryz.prog 95 #[v] w fun e w' => e = .returned (.int .i64 (firstF L)) ∧ w = w' := by
  rcases h.open with ⟨ao, cap, rfl, rfl, _⟩ | ⟨b, off, cap, rfl, h0, hcap, hm, hc⟩
  · go_enter Tryz.func95, Tryz.ntmps95
    go_wp2_with fail
    go_ret
    exact ⟨rfl, rfl⟩
  · have c0 := hc 0 h0
    cases L with
    | nil => simp at h0
    | cons x r =>
      rw [List.getElem_cons_zero, Nat.add_zero] at c0
      have hz : (((x :: r).length : Int) == 0) = false := by simp; omega
      clear hc h
      generalize (x :: r).length = n at *
      have h0' : (0 : Int) < (n : Int) := by omega
      go_enter Tryz.func95, Tryz.ntmps95
      go_wp2_with fail
      go_ret
      exact ⟨rfl, rfl⟩

end Go.Proofs.YthoalneknadheaaGreatDoor
