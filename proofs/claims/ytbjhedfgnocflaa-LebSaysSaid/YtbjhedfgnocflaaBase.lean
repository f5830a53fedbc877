/-
  PLAIN LEMMAS AND SMALL PREDICATES ON MEMORY THAT THE OTHER TEXTS USE. No statement of the seat stands here; no condition.
-/
import Derived.Test.YtbjhedfgnocflaaRows
import Derived.WalkKit
import Derived.WalkSpells
import Derived.Outline
namespace Go.Proofs.Ytbjhedfgnocflaa
open Go.RowKit

theorem hid {p : Prop} (h : p) : Hid p := h

/-- The cells 'cs' lie in a row from address (b, off) on. -/
def At (w : World) (b off : Nat) (cs : List Value) : Prop := ∀ j (h : j < cs.length), w.cell? ⟨b, off + j, none⟩ = some cs[j]

/-- The slice value v has n elements, whose cells are cs. -/
def Sl (w : World) (v : Value) (n : Nat) (cs : List Value) : Prop :=
  ∃ ao cap, v = .slice ao n cap ∧ n ≤ cap ∧ cap ≤ 9223372036854775807 ∧ (cs = [] ∨ ∃ b off, ao = some ⟨b, off, none⟩ ∧ At w b off cs)

/-- A slice of integers. -/
def Ints (w : World) (k : IntKind) (v : Value) (xs : List Int) : Prop := Sl w v xs.length (xs.map (Value.int k))

theorem At.below {w w' : World} {b off : Nat} {cs : List Value} (h : At w b off cs) (hb : Below w.heap.size w w') : At w' b off cs := by
  intro j hj
  have hc := h j hj
  rw [← hc]
  refine hb.cell (p := ⟨b, off + j, none⟩) ?_
  show b < w.heap.size
  apply Classical.byContradiction
  intro hn
  simp only [World.cell?] at hc
  rw [show w.heap[b]? = none from by simp; omega] at hc
  simp at hc

theorem Sl.below {w w' : World} {v : Value} {n : Nat} {cs : List Value} (h : Sl w v n cs) (hb : Below w.heap.size w w') : Sl w' v n cs := by
  obtain ⟨ao, cap, h1, h2, h3, h4⟩ := h
  refine ⟨ao, cap, h1, h2, h3, ?_⟩
  rcases h4 with h4 | ⟨b, off, h5, h6⟩
  · exact .inl h4
  · exact .inr ⟨b, off, h5, h6.below hb⟩

/-- the walk's own form: a nil or empty slice, or one with an address -/
theorem Ints.open {w : World} {k : IntKind} {v : Value} {xs : List Int} (h : Ints w k v xs) :
    (∃ ao cap, v = .slice ao 0 cap ∧ xs = []) ∨ ∃ b off cap, v = .slice (some ⟨b, off, none⟩) xs.length cap ∧ 0 < xs.length ∧ xs.length ≤ cap ∧ cap ≤ 9223372036854775807 ∧ ∀ j (h : j < xs.length), w.cell? ⟨b, off + j, none⟩ = some (.int k xs[j]) := by
  obtain ⟨ao, cap, h1, h2, h3, h4⟩ := h
  rcases h4 with h4 | ⟨b, off, h5, h6⟩
  · have : xs = [] := by simpa using h4
    subst this
    exact .inl ⟨ao, cap, h1, rfl⟩
  · cases xs with
    | nil => exact .inl ⟨ao, cap, h1, rfl⟩
    | cons x r => exact .inr ⟨b, off, cap, by rw [h1, h5], by simp, h2, h3, fun j hj => by have := h6 j (by simpa using hj); rw [this, List.getElem_map]⟩

/-- a new block of integers, read as a list -/
theorem Ints.made (w : World) (t : TypeId) (xs : List Int) (m : Nat) (hm : m = w.heap.size) (h : xs.length ≤ 9223372036854775807) : Ints (w.alloc (.cells (xs.map (Value.int .i64)).toArray t)) .i64 (.slice (some ⟨m, 0, none⟩) xs.length xs.length) xs := by
  subst hm
  refine ⟨_, _, rfl, Nat.le_refl _, h, .inr ⟨w.heap.size, 0, rfl, ?_⟩⟩
  intro j hj
  rw [World.cell?_alloc_new]
  simp

theorem Ints.made' (w : World) (k : IntKind) (t : TypeId) (xs : List Int) (m : Nat) (hm : m = w.heap.size) (h : xs.length ≤ 9223372036854775807) : Ints (w.alloc (.cells (xs.map (Value.int k)).toArray t)) k (.slice (some ⟨m, 0, none⟩) xs.length xs.length) xs := by
  subst hm
  refine ⟨_, _, rfl, Nat.le_refl _, h, .inr ⟨w.heap.size, 0, rfl, ?_⟩⟩
  intro j hj
  rw [World.cell?_alloc_new]
  simp
theorem ret1 {k : IntKind} {a b : Int} (h : a = b) : Ending.returned (.int k a) = .returned (.int k b) := by rw [h]
theorem retB {a b : Bool} (h : a = b) : Ending.returned (.bool a) = .returned (.bool b) := by rw [h]

theorem ret2 {k1 k2 : IntKind} {a b a' b' : Int} (h1 : a = a') (h2 : b = b') : Ending.returned (.tuple #[.int k1 a, .int k2 b]) = .returned (.tuple #[.int k1 a', .int k2 b']) := by rw [h1, h2]
theorem ret3 {k1 k2 k3 : IntKind} {a b c a' b' c' : Int} (h1 : a = a') (h2 : b = b') (h3 : c = c') : Ending.returned (.tuple #[.int k1 a, .int k2 b, .int k3 c]) = .returned (.tuple #[.int k1 a', .int k2 b', .int k3 c']) := by rw [h1, h2, h3]
theorem drop_cons {α : Type} (l : List α) (k : Nat) (h : k < l.length) : l.drop k = l[k] :: l.drop (k + 1) := List.drop_eq_getElem_cons h


/-- a string by its bytes -/
def S (l : List UInt8) : ByteArray := ⟨l.toArray⟩
theorem S_size (l : List UInt8) : (S l).size = l.length := by simp [S, ByteArray.size]
theorem S_append (a b : List UInt8) : S a ++ S b = S (a ++ b) := by simp [S, ByteArray.mk_append_mk]
theorem S_data (l : List UInt8) : (S l).data.toList = l := by simp [S]
theorem S_of (s : ByteArray) : S s.data.toList = s := by simp [S]
theorem S_nil : S [] = ⟨#[]⟩ := rfl
theorem S_inj {a b : List UInt8} (h : S a = S b) : a = b := by
  have := congrArg (fun s : ByteArray => s.data.toList) h
  simpa [S_data] using this

theorem retS {a b : List UInt8} (h : a = b) : Ending.returned (.string (S a)) = .returned (.string (S b)) := by rw [h]

theorem retSS {a b c : List UInt8} (h : a ++ b = c) : Ending.returned (.string (S a ++ S b)) = .returned (.string (S c)) := by rw [S_append, h]
theorem valSS {a b c : List UInt8} (h : a ++ b = c) : Value.string (S a ++ S b) = .string (S c) := by rw [S_append, h]

/-- the byte of a number -/
def byteOf (n : Int) : UInt8 := UInt8.ofNat (n % 256).toNat

/-- integers of a kind that the call itself has gathered -/
def OwnI (w : World) (base : Nat) (k : IntKind) (e : TypeId) (v : Value) (xs : List Int) : Prop := w.ownsRow base e 1 v xs.length (xs.map (Value.int k))

theorem OwnI.nil (w : World) (base : Nat) (k : IntKind) (e : TypeId) : OwnI w base k e (.slice none 0 0) [] := World.ownsRow_nil _ _ _ _

theorem OwnI.ints {w : World} {base : Nat} {k : IntKind} {e : TypeId} {v : Value} {xs : List Int} (h : OwnI w base k e v xs) : Ints w k v xs := by
  obtain ⟨h1, h2⟩ := h
  rcases h2 with ⟨rfl, h3⟩ | ⟨g, cap, cur, rfl, hg, hh, hn, hc, hs, ht⟩
  · have : xs = [] := by simpa using h3
    subst this
    exact ⟨none, 0, rfl, by simp, by simp, .inl rfl⟩
  · refine ⟨_, cap, rfl, hn, by unfold maxLen at hc; omega, .inr ⟨g, 0, rfl, ?_⟩⟩
    intro j hj
    have hj' : j < xs.length := by simpa using hj
    have e1 : (cur.toList.take (xs.length * 1))[j]? = cur[j]? := by
      rw [List.getElem?_take_of_lt (by omega)]; simp
    rw [ht] at e1
    simp only [World.cell?, hh]
    simp only [Nat.zero_add, Option.isSome_none, Bool.false_eq_true, if_false]
    rw [← e1, List.getElem?_eq_getElem hj]

end Go.Proofs.Ytbjhedfgnocflaa
