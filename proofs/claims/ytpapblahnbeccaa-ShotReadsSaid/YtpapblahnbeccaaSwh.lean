/-
  SHOTS: the state of the reference's Write (faults and text), turned by each call. Conditions: lengths in the form's reach.
-/
import Derived.Test.YtpapblahnbeccaaSwf
import Derived.Test.YtpapblahnbeccaaSwr
namespace Go.Proofs.Ytpapblahnbeccaa
open Go.RowKit Go.Lib

structure RS (w : World) (base Bf Bo : Nat) (L : List Int) (O : List UInt8) (N : Nat) : Prop where
  fb : FBox w base Bf L
  sb : SBlk w Bo O
  ne : Bf ≠ Bo
  le : base ≤ Bo
  len : O.length ≤ N
  lenL : L.length ≤ N
/-- blocks of other types stay -/
def KeepR (Bf Bo : Nat) (w w' : World) : Prop := ∀ (c : Nat) (ty : TypeId) (cs : List Value), (ty == 24) = false → c ≠ Bf → c ≠ Bo → Blk w c ty cs → Blk w' c ty cs
theorem KeepR.trans {Bf Bo : Nat} {w1 w2 w3 : World} (h1 : KeepR Bf Bo w1 w2) (h2 : KeepR Bf Bo w2 w3) : KeepR Bf Bo w1 w3 := fun c ty cs a b d h => h2 c ty cs a b d (h1 c ty cs a b d h)
theorem RS.below {w w' : World} {base Bf Bo : Nat} {L : List Int} {O : List UInt8} {N : Nat} (h : RS w base Bf Bo L O N) (hb : Below w.heap.size w w') : RS w' base Bf Bo L O N :=
  ⟨h.fb.below hb, h.sb.below hb, h.ne, h.le, h.len, h.lenL⟩
def RPost (base Bf Bo : Nat) (w : World) (L : List Int) (O : List UInt8) (N : Nat) (e : Ending) (w' : World) : Prop := e = .returned (.tuple #[]) ∧ RS w' base Bf Bo L O N ∧ Below base w w' ∧ KeepR Bf Bo w w'
theorem RS.ofF {w : World} {base Bf Bo : Nat} {L L' : List Int} {O : List UInt8} {N N' : Nat} (h : RS w base Bf Bo L O N) (hl : L'.length ≤ N') (hn : N ≤ N') {e : Ending} {w' : World} (hp : FPost base Bf w L' e w') : RPost base Bf Bo w L' O N' e w' := by
  obtain ⟨h1, h2, h3, h4⟩ := hp
  exact ⟨h1, ⟨h2, h4 _ _ _ (by rfl) (Ne.symm h.ne) h.sb, h.ne, h.le, Nat.le_trans h.len hn, hl⟩, h3, fun c ty cs ht hc _ hk => h4 c ty cs ht hc hk⟩
theorem flt_len (is : Bool) (e : Int) : (flt is e).length ≤ 1 := by cases is <;> simp [flt]
theorem rs_add (w : World) (base Bf Bo : Nat) (L : List Int) (O : List UInt8) (N : Nat) (is : Bool) (e : Int) (h : RS w base Bf Bo L O N) (hN : N ≤ 70368744177664) (hL : L.length ≤ 1099511627776) :
    Calls Try.prog 179 #[.pointer (some ⟨Bf, 0, none⟩), .bool is, .int .i64 e] w (RPost base Bf Bo w (L ++ flt is e) O (N + 1)) :=
  (fadd_any w base Bf L is e h.fb hL).mono fun _ _ hp => h.ofF (by have := h.lenL; have := flt_len is e; rw [List.length_append]; omega) (by omega) hp
theorem rs_index (w : World) (base Bf Bo : Nat) (L : List Int) (O : List UInt8) (N : Nat) (n : Int) (h : RS w base Bf Bo L O N) (hL : L.length ≤ 1099511627776) :
    Calls Try.prog 184 #[.pointer (some ⟨Bf, 0, none⟩), .int .i64 n] w (RPost base Bf Bo w (L ++ flt (idxBad n) 1) O (N + 1)) :=
  (findex_any w base Bf L n h.fb hL).mono fun _ _ hp => h.ofF (by have := h.lenL; have := flt_len (idxBad n) 1; rw [List.length_append]; omega) (by omega) hp
theorem rs_at (w : World) (base Bf Bo : Nat) (L : List Int) (O : List UInt8) (N : Nat) (n : Int) (h : RS w base Bf Bo L O N) (hL : L.length ≤ 1099511627776) :
    Calls Try.prog 181 #[.pointer (some ⟨Bf, 0, none⟩), .int .i64 n] w (RPost base Bf Bo w (L ++ flt (atBad n) 1) O (N + 1)) :=
  (fat_any w base Bf L n h.fb hL).mono fun _ _ hp => h.ofF (by have := h.lenL; have := flt_len (atBad n) 1; rw [List.length_append]; omega) (by omega) hp
/-- the text is turned -/
theorem RS.ofT {w w' : World} {base Bf Bo : Nat} {L : List Int} {O O' : List UInt8} {N N' : Nat} (h : RS w base Bf Bo L O N) (hs : SBlk w' Bo O') (ht : TouchB Bo w w') (hl : O'.length ≤ N') (hn : N ≤ N') : RS w' base Bf Bo L O' N' ∧ Below base w w' ∧ KeepR Bf Bo w w' := by
  refine ⟨⟨?_, hs, h.ne, h.le, hl, Nat.le_trans h.lenL hn⟩, ht.below h.fb.base (fun k hk => by rw [hk]; exact h.le), fun c ty cs _ _ hc hk => hk.touch ht hc⟩
  obtain ⟨h1, ⟨v, h3, h4⟩, h2⟩ := h.fb
  have hne := blk_ne h.sb h4 (by rfl)
  exact ⟨h1, ⟨v, h3.touch ht h.ne, own_touch h4 ht (fun k hk e => hne (e ▸ hk))⟩, Nat.le_trans h2 ht.size⟩
theorem valO_len (zs : List Int) : (valO zs).length ≤ 10 + 10 * zs.length := by
  unfold valO
  have h1 := encU_len 9 (u64of zs.length)
  have h2 : (zs.flatMap (encS 9)).length ≤ 10 * zs.length := by
    induction zs with
    | nil => simp
    | cons z r ih => rw [List.flatMap_cons, List.length_append, List.length_cons]; have := encS_length 9 z; have := ih (encU_len 9 _); omega
  unfold encN
  rw [List.length_append]
  omega
theorem rs_list (w : World) (base Bf Bo : Nat) (L : List Int) (O : List UInt8) (N : Nat) (vs : Value) (zs : List Int) (h : RS w base Bf Bo L O N) (hz : IntsB w base vs zs) (hN : N + 10 + 10 * zs.length ≤ 70368744177664) :
    Calls Try.prog 183 #[vs, .pointer (some ⟨Bo, 0, none⟩)] w (RPost base Bf Bo w L (O ++ valO zs) (N + 10 + 10 * zs.length)) := by
  refine (slist_any w Bo O vs zs h.sb (fun w' ht => hz w' (ht.below h.fb.base (fun k hk => by rw [hk]; exact h.le))) (by have := h.len; omega)).mono ?_
  rintro e w' ⟨rfl, hs, ht⟩
  obtain ⟨a, b, c⟩ := h.ofT hs ht (N' := N + 10 + 10 * zs.length) (by have := h.len; have := valO_len zs; rw [List.length_append]; omega) (by omega)
  exact ⟨rfl, a, b, c⟩
end Go.Proofs.Ytpapblahnbeccaa
