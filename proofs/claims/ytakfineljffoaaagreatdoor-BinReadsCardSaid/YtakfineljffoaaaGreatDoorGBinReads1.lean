/-
  PLAIN LEMMAS AND SMALL PREDICATES ON MEMORY THAT THE OTHER TEXTS USE. No statement of the seat stands here; no condition.
-/
import Derived.Test.YtakfineljffoaaaGreatDoorRows
import Derived.WalkKit
import Derived.WalkSpells
import Derived.Outline
import Derived.Laws.AppendOwnNone
namespace Go.Proofs.YtakfineljffoaaaGreatDoor
open Go.RowKit

theorem hid {p : Prop} (h : p) : Hid p := h

/-- The cells 'cs' lie in a row from address (b, off) on. -/
def At (w : World) (b off : Nat) (cs : List Value) : Prop := ∀ j (h : j < cs.length), w.cell? ⟨b, off + j, none⟩ = some cs[j]

/-- The slice value v has n elements, whose cells are cs. -/
def Sl (w : World) (v : Value) (n : Nat) (cs : List Value) : Prop :=
  ∃ ao cap, v = .slice ao n cap ∧ n ≤ cap ∧ cap ≤ 9223372036854775807 ∧ (ao = none → cap = 0) ∧ (cs = [] ∨ ∃ b off, ao = some ⟨b, off, none⟩ ∧ At w b off cs)

/-- A slice whose elements take one cell each. -/
def L1 {α : Type} (enc : α → Value) (w : World) (v : Value) (xs : List α) : Prop := Sl w v xs.length (xs.map enc)

/-- A slice of integers. -/
def Ints (w : World) (k : IntKind) (v : Value) (xs : List Int) : Prop := L1 (Value.int k) w v xs

theorem At.below {w w' : World} {b off : Nat} {cs : List Value} (h : At w b off cs) (hb : Below w.heap.size w w') : At w' b off cs := by
  intro j hj
  have hc := h j hj
  rw [← hc]
  refine hb.cell (p := ⟨b, off + j, none⟩) ?_
  show b < w.heap.size
  apply Classical.byContradiction
  intro hn
  simp only [World.cell?] at hc
  rw [show w.heap[b]? = none from by simp; omega] at hc
  simp at hc

theorem Sl.below {w w' : World} {v : Value} {n : Nat} {cs : List Value} (h : Sl w v n cs) (hb : Below w.heap.size w w') : Sl w' v n cs := by
  obtain ⟨ao, cap, h1, h2, h3, h5, h4⟩ := h
  refine ⟨ao, cap, h1, h2, h3, h5, ?_⟩
  rcases h4 with h4 | ⟨b, off, h5, h6⟩
  · exact .inl h4
  · exact .inr ⟨b, off, h5, h6.below hb⟩

/-- the walk's own form: a nil or empty slice, or one with an address -/
theorem L1.open {α : Type} {enc : α → Value} {w : World} {v : Value} {xs : List α} (h : L1 enc w v xs) :
    (∃ ao cap, v = .slice ao 0 cap ∧ xs = [] ∧ (ao = none → cap = 0)) ∨ ∃ b off cap, v = .slice (some ⟨b, off, none⟩) xs.length cap ∧ 0 < xs.length ∧ xs.length ≤ cap ∧ cap ≤ 9223372036854775807 ∧ ∀ j (h : j < xs.length), w.cell? ⟨b, off + j, none⟩ = some (enc xs[j]) := by
  obtain ⟨ao, cap, h1, h2, h3, h7, h4⟩ := h
  rcases h4 with h4 | ⟨b, off, h5, h6⟩
  · have : xs = [] := by simpa using h4
    subst this
    exact .inl ⟨ao, cap, h1, rfl, h7⟩
  · cases xs with
    | nil => exact .inl ⟨ao, cap, h1, rfl, h7⟩
    | cons x r => exact .inr ⟨b, off, cap, by rw [h1, h5], by simp, h2, h3, fun j hj => by have := h6 j (by simpa using hj); rw [this, List.getElem_map]⟩
theorem Ints.open {w : World} {k : IntKind} {v : Value} {xs : List Int} (h : Ints w k v xs) :
    (∃ ao cap, v = .slice ao 0 cap ∧ xs = [] ∧ (ao = none → cap = 0)) ∨ ∃ b off cap, v = .slice (some ⟨b, off, none⟩) xs.length cap ∧ 0 < xs.length ∧ xs.length ≤ cap ∧ cap ≤ 9223372036854775807 ∧ ∀ j (h : j < xs.length), w.cell? ⟨b, off + j, none⟩ = some (.int k xs[j]) := L1.open h

theorem Sl.made (w : World) (t : TypeId) (n : Nat) (cs : List Value) (m : Nat) (hm : m = w.heap.size) (h : n ≤ 9223372036854775807) : Sl (w.alloc (.cells cs.toArray t)) (.slice (some ⟨m, 0, none⟩) n n) n cs := by
  subst hm
  refine ⟨_, _, rfl, Nat.le_refl _, h, by simp, .inr ⟨w.heap.size, 0, rfl, ?_⟩⟩
  intro j hj
  rw [World.cell?_alloc_new]
  simp
theorem Ints.made' (w : World) (k : IntKind) (t : TypeId) (xs : List Int) (m : Nat) (hm : m = w.heap.size) (h : xs.length ≤ 9223372036854775807) : Ints (w.alloc (.cells (xs.map (Value.int k)).toArray t)) k (.slice (some ⟨m, 0, none⟩) xs.length xs.length) xs := Sl.made w t _ _ m hm h
theorem Ints.made (w : World) (t : TypeId) (xs : List Int) (m : Nat) (hm : m = w.heap.size) (h : xs.length ≤ 9223372036854775807) : Ints (w.alloc (.cells (xs.map (Value.int .i64)).toArray t)) .i64 (.slice (some ⟨m, 0, none⟩) xs.length xs.length) xs := Sl.made w t _ _ m hm h
theorem ret1 {k : IntKind} {a b : Int} (h : a = b) : Ending.returned (.int k a) = .returned (.int k b) := by rw [h]
theorem retB {a b : Bool} (h : a = b) : Ending.returned (.bool a) = .returned (.bool b) := by rw [h]

theorem ret2 {k1 k2 : IntKind} {a b a' b' : Int} (h1 : a = a') (h2 : b = b') : Ending.returned (.tuple #[.int k1 a, .int k2 b]) = .returned (.tuple #[.int k1 a', .int k2 b']) := by rw [h1, h2]
theorem ret3 {k1 k2 k3 : IntKind} {a b c a' b' c' : Int} (h1 : a = a') (h2 : b = b') (h3 : c = c') : Ending.returned (.tuple #[.int k1 a, .int k2 b, .int k3 c]) = .returned (.tuple #[.int k1 a', .int k2 b', .int k3 c']) := by rw [h1, h2, h3]
theorem drop_cons {α : Type} (l : List α) (k : Nat) (h : k < l.length) : l.drop k = l[k] :: l.drop (k + 1) := List.drop_eq_getElem_cons h


/-- a string by its bytes -/
def S (l : List UInt8) : ByteArray := ⟨l.toArray⟩
theorem S_size (l : List UInt8) : (S l).size = l.length := by simp [S, ByteArray.size]
theorem S_append (a b : List UInt8) : S a ++ S b = S (a ++ b) := by simp [S, ByteArray.mk_append_mk]
theorem S_data (l : List UInt8) : (S l).data.toList = l := by simp [S]
theorem S_of (s : ByteArray) : S s.data.toList = s := by simp [S]
theorem S_nil : S [] = ⟨#[]⟩ := rfl
theorem S_inj {a b : List UInt8} (h : S a = S b) : a = b := by
  have := congrArg (fun s : ByteArray => s.data.toList) h
  simpa [S_data] using this

theorem retS {a b : List UInt8} (h : a = b) : Ending.returned (.string (S a)) = .returned (.string (S b)) := by rw [h]

theorem retSS {a b c : List UInt8} (h : a ++ b = c) : Ending.returned (.string (S a ++ S b)) = .returned (.string (S c)) := by rw [S_append, h]
theorem valSS {a b c : List UInt8} (h : a ++ b = c) : Value.string (S a ++ S b) = .string (S c) := by rw [S_append, h]

/-- the byte of a number -/
def byteOf (n : Int) : UInt8 := UInt8.ofNat (n % 256).toNat

/-- elements of one cell that the call itself has gathered -/
def O1 {α : Type} (enc : α → Value) (w : World) (base : Nat) (e : TypeId) (v : Value) (xs : List α) : Prop := w.ownsRow base e 1 v xs.length (xs.map enc)
/-- integers of a kind that the call itself has gathered -/
def OwnI (w : World) (base : Nat) (k : IntKind) (e : TypeId) (v : Value) (xs : List Int) : Prop := O1 (Value.int k) w base e v xs

theorem OwnI.nil (w : World) (base : Nat) (k : IntKind) (e : TypeId) : OwnI w base k e (.slice none 0 0) [] := World.ownsRow_nil _ _ _ _
theorem O1.nil {α : Type} (enc : α → Value) (w : World) (base : Nat) (e : TypeId) : O1 enc w base e (.slice none 0 0) [] := World.ownsRow_nil _ _ _ _

/-- what the call owns reads as a slice -/
theorem own_sl {w : World} {base : Nat} {e : TypeId} {size : Nat} {v : Value} {n : Nat} {cs : List Value} (h : w.ownsRow base e size v n cs) : Sl w v n cs := by
  obtain ⟨h1, h2⟩ := h
  rcases h2 with ⟨rfl, h3⟩ | ⟨g, cap, cur, rfl, hg, hh, hn, hc, hs, ht⟩
  · subst h3
    have : cs = [] := by simpa using h1
    subst this
    exact ⟨none, 0, rfl, by simp, by simp, by simp, .inl rfl⟩
  · refine ⟨_, cap, rfl, hn, by unfold maxLen at hc; omega, by simp, .inr ⟨g, 0, rfl, ?_⟩⟩
    intro j hj
    have e1 : (cur.toList.take (n * size))[j]? = cur[j]? := by
      rw [List.getElem?_take_of_lt (by omega)]; simp
    rw [ht] at e1
    simp only [World.cell?, hh]
    simp only [Nat.zero_add, Option.isSome_none, Bool.false_eq_true, if_false]
    rw [← e1, List.getElem?_eq_getElem hj]
theorem OwnI.ints {w : World} {base : Nat} {k : IntKind} {e : TypeId} {v : Value} {xs : List Int} (h : OwnI w base k e v xs) : Ints w k v xs := own_sl h
theorem O1.l1 {α : Type} {enc : α → Value} {w : World} {base : Nat} {e : TypeId} {v : Value} {xs : List α} (h : O1 enc w base e v xs) : L1 enc w v xs := own_sl h

/-- what the call owns stays owned while nothing that was there turns -/
theorem own_below {w w' : World} {base : Nat} {e : TypeId} {size : Nat} {v : Value} {n : Nat} {cs : List Value} (h : w.ownsRow base e size v n cs) (hb : Below w.heap.size w w') : w'.ownsRow base e size v n cs :=
  h.kept (row := none) ⟨hb.os, hb.tape, hb.output, hb.size, fun k hk _ => hb.block k hk⟩ (by cases v.ownBlock <;> simp)
theorem OwnI.below {w w' : World} {base : Nat} {k : IntKind} {e : TypeId} {v : Value} {xs : List Int} (h : OwnI w base k e v xs) (hb : Below w.heap.size w w') : OwnI w' base k e v xs := own_below h hb
theorem O1.below {α : Type} {enc : α → Value} {w w' : World} {base : Nat} {e : TypeId} {v : Value} {xs : List α} (h : O1 enc w base e v xs) (hb : Below w.heap.size w w') : O1 enc w' base e v xs := own_below h hb
theorem L1.below {α : Type} {enc : α → Value} {w w' : World} {v : Value} {xs : List α} (h : L1 enc w v xs) (hb : Below w.heap.size w w') : L1 enc w' v xs := Sl.below h hb
theorem own_mono {w : World} {base b' : Nat} {e : TypeId} {size : Nat} {v : Value} {n : Nat} {cs : List Value} (h : w.ownsRow base e size v n cs) (hb : b' ≤ base) : w.ownsRow b' e size v n cs := by
  obtain ⟨h1, h2⟩ := h
  refine ⟨h1, ?_⟩
  rcases h2 with h2 | ⟨g, cap, cur, hv, hg, r⟩
  · exact .inl h2
  · exact .inr ⟨g, cap, cur, hv, by omega, r⟩

/-- An element type: the slice type, the element's type, its zero value, its cells and its bytes. -/
def Elem (P : Program) (T E : TypeId) (z : Value) (size bytes : Nat) : Prop :=
  P.underlying T = some (.slice E) ∧ (P.info? E).map (fun i => (i.zero, i.size, i.bytes)) = some (some z, size, bytes) ∧ z.cells.size = size ∧ 0 < size

theorem own_block {w : World} {base : Nat} {e : TypeId} {size : Nat} {v : Value} {n : Nat} {cs : List Value} (h : w.ownsRow base e size v n cs) : ∀ k, v.ownBlock = some k → base ≤ k := fun k hk => (h.lt k hk).1

/-- the value behind an append: at the old head, or at a new one -/
def Fresh (w : World) (v v' : Value) : Prop := v'.ownBlock = v.ownBlock ∨ ∃ k, v'.ownBlock = some k ∧ w.heap.size ≤ k
/-- what an append does to the world -/
def Grew (w : World) (v : Value) (w' : World) (v' : Value) : Prop := w.grownBy w' v.ownBlock ∧ Fresh w v v'
/-- two values that lie apart -/
def Sep (u v : Value) : Prop := ∀ k, u.ownBlock = some k → v.ownBlock ≠ some k
theorem Sep.symm {u v : Value} (h : Sep u v) : Sep v u := fun k h1 h2 => h k h2 h1
theorem Sep.nil_left (v : Value) : Sep (.slice none 0 0) v := fun k h => by simp [Value.ownBlock] at h
theorem Sep.nil_right (v : Value) : Sep v (.slice none 0 0) := (Sep.nil_left v).symm
/-- two things that the call owns: one grows, the other stays -/
theorem Grew.other {w w' : World} {base : Nat} {e : TypeId} {size : Nat} {v v' u : Value} {n : Nat} {cs : List Value} (hg : Grew w v w' v') (h : w.ownsRow base e size u n cs) (hs : Sep u v) : w'.ownsRow base e size u n cs ∧ Sep u v' := by
  obtain ⟨h1, h2⟩ := hg
  refine ⟨h.kept h1 ?_, ?_⟩
  · cases hu : u.ownBlock with
    | none => exact .inl rfl
    | some k => exact .inr (fun e => hs k hu e.symm)
  · intro k hk hv
    rcases h2 with h2 | ⟨k', h2, h3⟩
    · exact hs k hk (h2 ▸ hv)
    · have := (h.lt k hk).2
      rw [h2] at hv
      injection hv with hv
      omega

/-- a block that was laid just ahead of an append to another row -/
theorem Grew.newcell {wr w' : World} {base : Nat} {e t : TypeId} {size : Nat} {v v' : Value} {n : Nat} {cs : List Value} {c : Array Value} (hg : Grew (wr.alloc (.cells c t)) v w' v') (h : wr.ownsRow base e size v n cs) (j : Nat) : w'.cell? ⟨wr.heap.size, j, none⟩ = c[j]? := by
  have hne : some wr.heap.size ≠ v.ownBlock := by
    intro hv
    have := (h.lt _ hv.symm).2
    omega
  rw [World.cell?_of_block (w := wr.alloc (.cells c t)) (hg.1.block wr.heap.size (by simp) hne), World.cell?_alloc_new]
theorem run_own_fresh {P : Program} (w : World) (base : Nat) (t ty e : TypeId) (i : TypeInfo) (z : Value) (size bytes : Nat) (ht : P.underlying t = some (.slice e)) (hi : P.info? e = some i) (hz : i.zero = some z)
    (hsize : i.size = size) (hby : i.bytes = bytes) (hzs : z.cells.size = size) (hsz : 0 < size)
    (v : Value) (n : Nat) (xs : List Value) (hown : w.ownsRow base e size v n xs)
    (a : Addr) (m c : Nat) (news : List Value) (hl : news.length = m * size) (hnews : ∀ j u, news[j]? = some u → w.cell? (a.add j) = some u) (h1 : ∀ u ∈ news, u.oneCell' = true)
    (h63 : n + m ≤ maxLen) (hbytes : (n + m) * bytes ≤ 140737488355328) (hbase : base ≤ w.heap.size) :
    ∃ v' w', (Builtin.append_ #[t, t] ty #[v, .slice (some a) m c]).run P w = .ok v' w' ∧ w'.ownsRow base e size v' (n + m) (xs ++ news) ∧ Grew w v w' v' := by
  obtain ⟨v', w', hr, h2, h3, _⟩ := run_append_own (P := P) w base t ty e i z size bytes ht hi hz hsize hby hzs hsz v n xs hown a m c news hl hnews h1 h63 hbytes hbase
  refine ⟨v', w', hr, h2, h3, ?_⟩
  have hsmall : n + m ≤ 9223372036854775807 := by simp only [maxLen] at h63; omega
  subst hsize
  subst hby
  rcases id hown.2 with ⟨rfl, rfl⟩ | ⟨g, cap, cur, rfl, hbg, hg, hnc, hcm, hcs, htake⟩
  · by_cases hm : m = 0
    · subst hm
      rcases h2.2 with ⟨rfl, _⟩ | ⟨g, cap, cur, rfl, _⟩
      · exact .inl rfl
      · have hn : news = [] := List.eq_nil_of_length_eq_zero (by simpa using hl)
        subst hn
        have hr2 : (Builtin.append_ #[t, t] ty #[.slice none 0 0, .slice (some a) 0 c]).run P w = .ok (.slice none 0 0) w := by
          simp [Builtin.append_, run_underlying ht, sizeOf, typeInfo, hi, Builtin.lenOf, Builtin.firstCells, loadCells, loadCellsFrom]
        have := hr.symm.trans hr2
        simp at this
    · have hr2 := run_append_nil (P := P) w t ty e i z ht hi hz a m c news hl hnews (by omega) (by omega) (by have hb := hbytes; simp only [Nat.zero_add] at hb; omega)
      have h4 := hr.symm.trans hr2
      simp only [Result.ok.injEq] at h4
      exact .inr ⟨w.heap.size, by rw [h4.1]; rfl, Nat.le_refl _⟩
  · by_cases hroom : n + m ≤ cap
    · obtain ⟨w2, hr2, _, _⟩ := run_append_fits (P := P) w base t ty e i i.size ht hi rfl g n cap xs hown a m c news hl hnews h1 hroom
      have h4 := hr.symm.trans hr2
      simp only [Result.ok.injEq] at h4
      exact .inl (by rw [h4.1]; rfl)
    · have holds : ∀ j u, xs[j]? = some u → w.cell? ((⟨g, 0, none⟩ : Addr).add j) = some u := hown.cells (g := g) rfl
      have hr2 := run_append_grow (P := P) w t ty e i z ht hi hz ⟨g, 0, none⟩ n cap xs hown.1 holds a m c news hl hnews (by omega) (by omega) (growslice_fits (by omega) hbytes)
      have h4 := hr.symm.trans hr2
      simp only [Result.ok.injEq] at h4
      exact .inr ⟨w.heap.size, by rw [h4.1]; rfl, Nat.le_refl _⟩

/-- append(out, u...), out the call's own, u any slice -/
theorem app_any {P : Program} {T E : TypeId} {z : Value} {size bytes : Nat} (hE : Elem P T E z size bytes)
    {ops : Array Oper} {rest : List Oper} {o : Oper} {a : Act} {Q : Exit → Act → World → Prop} {w : World} {base : Nat} {v u : Value} {n m : Nat} {xs news : List Value} (hgd : o.guard = none) (s x : Operand)
    (ho : o.op = .call { callee := .builtin .append, args := #[s, x], argTypes := #[T, T] })
    (hs : a.eval s = v) (hx : a.eval x = u) (hown : w.ownsRow base E size v n xs) (hu : Sl w u m news) (hl : news.length = m * size) (h1 : ∀ c ∈ news, c.oneCell' = true)
    (hlen : n + m ≤ 9223372036854775807) (hbytes : (n + m) * bytes ≤ 140737488355328) (hbase : base ≤ w.heap.size)
    (h : ∀ v' w', w'.ownsRow base E size v' (n + m) (xs ++ news) → Below base w w' → Grew w v w' v' → wpList P ops Q rest (a.put o.dst v') w') : wpList P ops Q (o :: rest) a w := by
  obtain ⟨ht, hinfo, hz2, hpos⟩ := hE
  obtain ⟨i0, hi, hz0, hz1, hzb⟩ := info_parts hinfo
  obtain ⟨ao, cap, rfl, hmc, hcap, hnil, hcells⟩ := hu
  have fin : ∀ v' w', w'.ownsRow base E size v' (n + m) (xs ++ news) → Grew w v w' v' → wpList P ops Q rest (a.put o.dst v') w' := by
    intro v' w' g1 g2
    exact h v' w' g1 ((Below.refl base w).grown g2.1 hbase (own_block hown)) g2
  cases ao with
  | none =>
    have hc0 := hnil rfl
    obtain rfl : m = 0 := by omega
    subst hc0
    have hn0 : news = [] := by simpa using hl
    subst hn0
    refine wpList_append_own_none hgd s x T ho base E i0 size ht hi v n xs hs hown hx ?_
    have := fin v w (by simpa using hown) ⟨World.grownBy.refl _ _, .inl rfl⟩
    exact this
  | some ad =>
    have hnews : ∀ j c, news[j]? = some c → w.cell? (ad.add j) = some c := by
      intro j c hj
      rcases hcells with rfl | ⟨b, off, hb, hat⟩
      · simp at hj
      · simp only [Option.some.injEq] at hb
        subst hb
        have hjl : j < news.length := by
          rcases Nat.lt_or_ge j news.length with h | h
          · exact h
          · simp [List.getElem?_eq_none h] at hj
        have hplain : (⟨b, off, none⟩ : Addr).add j = ⟨b, off + j, none⟩ := by unfold Addr.add; split <;> simp_all
        rw [hplain, hat j hjl, ← hj, List.getElem?_eq_getElem hjl]
    refine wpList_plain hgd fun K hK => ?_
    obtain ⟨v', w', hr, h2, h3⟩ := run_own_fresh (P := P) w base T o.type E i0 z size bytes ht hi hz0 hz1 hzb hz2 hpos v n xs hown ad m cap news hl hnews h1 (by unfold maxLen; omega) hbytes hbase
    unfold Oper.wp execOp
    simp only [ho, resolve, invoke, builtin, Sem.run_bind, Sem.run_pure, Result.andThen_ok, List.map_toArray, List.map_cons, List.map_nil, hs, hx, hr]
    exact hK _ _ (fin v' w' h2 h3)

/-- append(out, x), one element, which the translation lays in a block of its own -/
theorem app_one {P : Program} {T E : TypeId} {z : Value} {size bytes : Nat} (hE : Elem P T E z size bytes)
    {ops : Array Oper} {rest : List Oper} {o : Oper} {a : Act} {Q : Exit → Act → World → Prop} {w : World} {base : Nat} {v : Value} {n : Nat} {xs cs : List Value} (hgd : o.guard = none) (s x : Operand)
    (ho : o.op = .call { callee := .builtin .append, args := #[s, x], argTypes := #[T, T] })
    {mm : Nat} (hs : a.eval s = v) (hx : a.eval x = .slice (some ⟨mm, 0, none⟩) 1 1) (hmm : mm = w.heap.size) (hown : w.ownsRow base E size v n xs) (hl : cs.length = size) (h1 : ∀ c ∈ cs, c.oneCell' = true)
    (hlen : n + 1 ≤ 9223372036854775807) (hbytes : (n + 1) * bytes ≤ 140737488355328) (hbase : base ≤ w.heap.size)
    (h : ∀ v' w', w'.ownsRow base E size v' (n + 1) (xs ++ cs) → Below base w w' → Grew w v w' v' → wpList P ops Q rest (a.put o.dst v') w') : wpList P ops Q (o :: rest) a (w.alloc (.cells cs.toArray E)) := by
  refine app_any hE hgd s x ho hs hx (hown.alloc _) (Sl.made w E 1 cs _ hmm (by omega)) (by omega) h1 hlen hbytes (by simp; omega) ?_
  intro v' w' g1 g2 g3
  obtain ⟨g3, g4⟩ := g3
  refine h v' w' g1 (((Below.refl base w).alloc hbase _).trans g2) ⟨⟨g3.os, g3.tape, g3.output, by have := g3.size; simp at this; omega, fun k hk hne => ?_⟩, ?_⟩
  · rw [g3.block k (by simp; omega) hne, Below.heap_alloc _ _ _ hk]
  · rcases g4 with g4 | ⟨k, g4, g5⟩
    · exact .inl g4
    · exact .inr ⟨k, g4, by simp at g5; omega⟩

theorem one_int {k : IntKind} {x : Int} : ∀ c ∈ [Value.int k x], c.oneCell' = true := by intro c hc; simp at hc; subst hc; rfl
theorem map_oneCell {α : Type} {enc : α → Value} (h : ∀ x, (enc x).oneCell' = true) (xs : List α) : ∀ c ∈ xs.map enc, c.oneCell' = true := by
  intro c hc
  obtain ⟨x, _, rfl⟩ := List.mem_map.1 hc
  exact h x

/-- append(out, x) of one integer -/
theorem app_int {P : Program} {T E : TypeId} {k : IntKind} {bytes : Nat} (hE : Elem P T E (.int k 0) 1 bytes)
    {ops : Array Oper} {rest : List Oper} {o : Oper} {a : Act} {Q : Exit → Act → World → Prop} {w : World} {base : Nat} {v : Value} {xs : List Int} {y : Int} (hgd : o.guard = none) (s x : Operand)
    (ho : o.op = .call { callee := .builtin .append, args := #[s, x], argTypes := #[T, T] })
    {mm : Nat} (hs : a.eval s = v) (hx : a.eval x = .slice (some ⟨mm, 0, none⟩) 1 1) (hmm : mm = w.heap.size) (hown : OwnI w base k E v xs)
    (hlen : xs.length + 1 ≤ 9223372036854775807) (hbytes : (xs.length + 1) * bytes ≤ 140737488355328) (hbase : base ≤ w.heap.size)
    (h : ∀ v' w', OwnI w' base k E v' (xs ++ [y]) → Below base w w' → Grew w v w' v' → wpList P ops Q rest (a.put o.dst v') w') : wpList P ops Q (o :: rest) a (w.alloc (.cells #[.int k y] E)) := by
  refine app_one hE (cs := [.int k y]) hgd s x ho hs hx hmm hown rfl one_int hlen hbytes hbase ?_
  intro v' w' g1 g2 g3
  refine h v' w' ?_ g2 g3
  show w'.ownsRow base E 1 v' (xs ++ [y]).length ((xs ++ [y]).map (Value.int k))
  rw [List.map_append, List.length_append]
  exact g1

/-- append(out, u...) of integers -/
theorem app_ints {P : Program} {T E : TypeId} {k : IntKind} {bytes : Nat} (hE : Elem P T E (.int k 0) 1 bytes)
    {ops : Array Oper} {rest : List Oper} {o : Oper} {a : Act} {Q : Exit → Act → World → Prop} {w : World} {base : Nat} {v u : Value} {xs ys : List Int} (hgd : o.guard = none) (s x : Operand)
    (ho : o.op = .call { callee := .builtin .append, args := #[s, x], argTypes := #[T, T] })
    (hs : a.eval s = v) (hx : a.eval x = u) (hown : OwnI w base k E v xs) (hu : Ints w k u ys)
    (hlen : xs.length + ys.length ≤ 9223372036854775807) (hbytes : (xs.length + ys.length) * bytes ≤ 140737488355328) (hbase : base ≤ w.heap.size)
    (h : ∀ v' w', OwnI w' base k E v' (xs ++ ys) → Below base w w' → Grew w v w' v' → wpList P ops Q rest (a.put o.dst v') w') : wpList P ops Q (o :: rest) a w := by
  refine app_any hE hgd s x ho hs hx hown hu (by simp) (map_oneCell (fun _ => rfl) _) hlen hbytes hbase ?_
  intro v' w' g1 g2 g3
  refine h v' w' ?_ g2 g3
  show w'.ownsRow base E 1 v' (xs ++ ys).length ((xs ++ ys).map (Value.int k))
  rw [List.map_append, List.length_append]
  exact g1


/-- what the call owns, not empty: its head -/
theorem O1.head {α : Type} {enc : α → Value} {w : World} {base : Nat} {e : TypeId} {v : Value} {xs : List α} (h : O1 enc w base e v xs) (hne : 0 < xs.length) :
    ∃ g cap, v = .slice (some ⟨g, 0, none⟩) xs.length cap ∧ base ≤ g ∧ xs.length ≤ cap ∧ cap ≤ 9223372036854775807 ∧ ∀ j (h : j < xs.length), w.cell? ⟨g, j, none⟩ = some (enc xs[j]) := by
  have hl : L1 enc w v xs := h.l1
  obtain ⟨h1, h2⟩ := h
  rcases h2 with ⟨_, h3⟩ | ⟨g, cap, cur, rfl, hg, hh, hn, hc, hs, ht⟩
  · omega
  · refine ⟨g, cap, rfl, hg, hn, by unfold maxLen at hc; omega, ?_⟩
    rcases hl.open with ⟨ao, cap', _, hx, _⟩ | ⟨b, off, cap', hv, _, _, _, hcells⟩
    · subst hx; simp at hne
    · simp only [Value.slice.injEq, Option.some.injEq, Addr.mk.injEq] at hv
      obtain ⟨⟨rfl, rfl, _⟩, _, rfl⟩ := hv
      intro j hj
      have := hcells j hj
      simpa using this

/-- append(out, x, y) of two integers -/
theorem app_int2 {P : Program} {T E : TypeId} {k : IntKind} {bytes : Nat} (hE : Elem P T E (.int k 0) 1 bytes)
    {ops : Array Oper} {rest : List Oper} {o : Oper} {a : Act} {Q : Exit → Act → World → Prop} {w : World} {base : Nat} {v : Value} {xs : List Int} {y z : Int} (hgd : o.guard = none) (s x : Operand)
    (ho : o.op = .call { callee := .builtin .append, args := #[s, x], argTypes := #[T, T] })
    {mm : Nat} (hs : a.eval s = v) (hx : a.eval x = .slice (some ⟨mm, 0, none⟩) 2 2) (hmm : mm = w.heap.size) (hown : OwnI w base k E v xs)
    (hlen : xs.length + 2 ≤ 9223372036854775807) (hbytes : (xs.length + 2) * bytes ≤ 140737488355328) (hbase : base ≤ w.heap.size)
    (h : ∀ v' w', OwnI w' base k E v' (xs ++ [y, z]) → Below base w w' → wpList P ops Q rest (a.put o.dst v') w') : wpList P ops Q (o :: rest) a (w.alloc (.cells #[.int k y, .int k z] E)) := by
  refine app_ints hE (ys := [y, z]) hgd s x ho hs hx (World.ownsRow.alloc hown _) (Ints.made' w k E [y, z] _ hmm (by simp)) hlen hbytes (by simp; omega) ?_
  intro v' w' g1 g2 _
  exact h v' w' g1 (((Below.refl base w).alloc hbase _).trans g2)
theorem O1.head_snoc {α : Type} {enc : α → Value} {w : World} {base : Nat} {e : TypeId} {v : Value} {xs : List α} {y : α} (h : O1 enc w base e v (xs ++ [y])) :
    ∃ g cap, v = .slice (some ⟨g, 0, none⟩) (xs.length + 1) cap ∧ base ≤ g := by
  obtain ⟨g, cap, h1, h2, _⟩ := h.head (by simp)
  exact ⟨g, cap, by rw [h1]; simp, h2⟩
theorem retVBI {v : Value} {b b' : Bool} {k : IntKind} {n n' : Int} (hb : b = b') (hn : n = n') : Ending.returned (.tuple #[v, .bool b, .int k n]) = .returned (.tuple #[v, .bool b', .int k n']) := by rw [hb, hn]

/-- elements of 's' cells each, laid one behind the other -/
theorem flat_getElem? {α : Type} {enc : α → List Value} {s : Nat} (hs : ∀ x, (enc x).length = s) (xs : List α) : ∀ (j f : Nat) (_ : f < s) (h : j < xs.length), (xs.flatMap enc)[j * s + f]? = (enc xs[j])[f]? := by
  induction xs with
  | nil => intro j f _ h; simp at h
  | cons x r ih =>
    intro j f hf h
    rw [List.flatMap_cons]
    cases j with
    | zero => rw [List.getElem?_append_left (by rw [hs]; omega)]; simp
    | succ j =>
      rw [List.getElem?_append_right (by rw [hs, Nat.succ_mul]; omega), hs, show (j + 1) * s + f - s = j * s + f by rw [Nat.succ_mul]; omega, ih j f hf (by simpa using h)]
      simp
theorem flat_length {α : Type} {enc : α → List Value} {s : Nat} (hs : ∀ x, (enc x).length = s) (xs : List α) : (xs.flatMap enc).length = xs.length * s := by
  induction xs with
  | nil => simp
  | cons x r ih => rw [List.flatMap_cons, List.length_append, hs, ih, List.length_cons, Nat.succ_mul]; omega

/-- A slice whose elements take s cells each. -/
def Lk {α : Type} (enc : α → List Value) (w : World) (v : Value) (xs : List α) : Prop := Sl w v xs.length (xs.flatMap enc)
def Ok {α : Type} (enc : α → List Value) (s : Nat) (w : World) (base : Nat) (e : TypeId) (v : Value) (xs : List α) : Prop := w.ownsRow base e s v xs.length (xs.flatMap enc)
theorem Lk.below {α : Type} {enc : α → List Value} {w w' : World} {v : Value} {xs : List α} (h : Lk enc w v xs) (hb : Below w.heap.size w w') : Lk enc w' v xs := Sl.below h hb
theorem Ok.lk {α : Type} {enc : α → List Value} {s : Nat} {w : World} {base : Nat} {e : TypeId} {v : Value} {xs : List α} (h : Ok enc s w base e v xs) : Lk enc w v xs := own_sl h

theorem Lk.open {α : Type} {enc : α → List Value} {s : Nat} {w : World} {v : Value} {xs : List α} (h : Lk enc w v xs) (hs : ∀ x, (enc x).length = s) (hpos : 0 < s) :
    (∃ ao cap, v = .slice ao 0 cap ∧ xs = [] ∧ (ao = none → cap = 0)) ∨ ∃ b off cap, v = .slice (some ⟨b, off, none⟩) xs.length cap ∧ 0 < xs.length ∧ xs.length ≤ cap ∧ cap ≤ 9223372036854775807 ∧ ∀ j (_ : j < xs.length) f (_ : f < s), w.cell? ⟨b, off + j * s + f, none⟩ = (enc xs[j])[f]? := by
  obtain ⟨ao, cap, h1, h2, h3, h7, h4⟩ := h
  cases xs with
  | nil => exact .inl ⟨ao, cap, h1, rfl, h7⟩
  | cons x r =>
    rcases h4 with h4 | ⟨b, off, h5, h6⟩
    · have := congrArg List.length h4
      rw [flat_length hs, List.length_cons, Nat.succ_mul, List.length_nil] at this
      omega
    · refine .inr ⟨b, off, cap, by rw [h1, h5], by simp, h2, h3, fun j hj f hf => ?_⟩
      have hlt : j * s + f < ((x :: r).flatMap enc).length := by
        rw [flat_length hs]
        have : (j + 1) * s ≤ (x :: r).length * s := Nat.mul_le_mul_right _ hj
        rw [Nat.succ_mul] at this
        omega
      rw [Nat.add_assoc, h6 _ hlt, ← flat_getElem? hs (x :: r) j f hf hj, List.getElem?_eq_getElem hlt]

/-- a value in a block that was not there -/
def New (w : World) (v' : Value) : Prop := ∃ k, v'.ownBlock = some k ∧ w.heap.size ≤ k
theorem sep_new {w : World} {b : Nat} {e : TypeId} {size : Nat} {z v' : Value} {n : Nat} {cs : List Value} (h : w.ownsRow b e size z n cs) (hn : New w v') : Sep z v' := by
  obtain ⟨k', h1, h2⟩ := hn
  intro k hk he
  have := (h.lt k hk).2
  rw [h1] at he
  injection he with he
  omega
/-- append([]T{x}, old...): a new row, ahead of what was gathered; nothing that was there turns -/
theorem app_cons {P : Program} {T E : TypeId} {k : IntKind} {bytes : Nat} (hE : Elem P T E (.int k 0) 1 bytes)
    {ops : Array Oper} {rest : List Oper} {o : Oper} {a : Act} {Q : Exit → Act → World → Prop} {w : World} {base : Nat} {u : Value} {xs : List Int} {y : Int} (hgd : o.guard = none) (s x : Operand)
    (ho : o.op = .call { callee := .builtin .append, args := #[s, x], argTypes := #[T, T] })
    {mm : Nat} (hs : a.eval s = .slice (some ⟨mm, 0, none⟩) 1 1) (hx : a.eval x = u) (hmm : mm = w.heap.size) (hown : OwnI w base k E u xs)
    (hlen : xs.length + 1 ≤ 9223372036854775807) (hbytes : (1 + xs.length) * bytes ≤ 140737488355328) (hbase : base ≤ w.heap.size)
    (h : ∀ v' w', OwnI w' base k E v' (y :: xs) → Below w.heap.size w w' → New w v' → wpList P ops Q rest (a.put o.dst v') w') : wpList P ops Q (o :: rest) a (w.alloc (.cells #[.int k y] E)) := by
  subst hmm
  have hlit : OwnI (w.alloc (.cells #[.int k y] E)) w.heap.size k E (.slice (some ⟨w.heap.size, 0, none⟩) 1 1) [y] :=
    World.ownsRow_lit (e := E) (size := 1) w #[.int k y] 1 (Nat.le_refl _) (by unfold maxLen; omega) rfl
  refine app_ints hE hgd s x ho hs hx hlit (L1.below (OwnI.ints hown) ((Below.refl _ _).alloc (Nat.le_refl _) _)) (by simp; omega) (by simpa using hbytes) (by simp) ?_
  intro v' w' g1 g2 g3
  refine h v' w' (own_mono g1 hbase) (((Below.refl w.heap.size w).alloc (Nat.le_refl _) _).trans g2) ?_
  rcases g3.2 with g4 | ⟨k, g4, g5⟩
  · exact ⟨w.heap.size, by rw [g4]; rfl, Nat.le_refl _⟩
  · exact ⟨k, g4, by simp at g5; omega⟩

/-- make([]T, n) of integers -/
theorem app_make {P : Program} {T E : TypeId} {k : IntKind} {bytes : Nat} (hE : Elem P T E (.int k 0) 1 bytes)
    {ops : Array Oper} {rest : List Oper} {o : Oper} {a : Act} {Q : Exit → Act → World → Prop} {w : World} {base n : Nat} {L : Int} (hgd : o.guard = none) (l c : Operand)
    (ho : o.op = Op.makeSlice T l c) {kl kc : IntKind} (hl : a.eval l = .int kl L) (hc : a.eval c = .int kc L) (hL : L = (n : Int)) (hbytes : bytes * n ≤ 281474976710656) (hlen : n ≤ 9223372036854775807) (hbase : base ≤ w.heap.size)
    (h : ∀ w', OwnI w' base k E (.slice (some ⟨w.heap.size, 0, none⟩) n n) (List.replicate n 0) → Below w.heap.size w w' → w.heap.size < w'.heap.size → wpList P ops Q rest (a.put o.dst (.slice (some ⟨w.heap.size, 0, none⟩) n n)) w') : wpList P ops Q (o :: rest) a w := by
  obtain ⟨ht, hinfo, hz2, hpos⟩ := hE
  obtain ⟨i0, hi, hz0, hz1, hzb⟩ := info_parts hinfo
  refine wpList_make_full w hgd l c T ho base E i0 (.int k 0) 1 ht hi hz0 hz1 kl kc L L n hl hc hL hL (by rw [hzb]; exact hbytes) (by unfold maxLen; omega) hbase ?_
  intro w' h1 h2
  have e : (madeCells (Value.cells (.int k 0)) (n * 1)).toList = (List.replicate n (0 : Int)).map (Value.int k) := by
    show (madeCells #[Value.int k 0] (n * 1)).toList = _
    rw [toList_madeCells_one, Nat.mul_one, List.map_replicate]
  rw [e] at h1
  have h3 : OwnI w' base k E (.slice (some ⟨w.heap.size, 0, none⟩) n n) (List.replicate n 0) := by
    show World.ownsRow _ _ _ _ _ (List.replicate n (0 : Int)).length _
    rw [List.length_replicate]; exact h1
  refine h w' h3 ⟨h2.os, h2.tape, h2.output, h2.size, fun k hk => h2.block k hk (by simp)⟩ ?_
  have := h1.lt w.heap.size rfl
  exact this.2

/-- a store into a row of integers that the call owns -/
theorem OwnI.stored {w : World} {base : Nat} {k : IntKind} {e : TypeId} {g n : Nat} {xs : List Int} (h : OwnI w base k e (.slice (some ⟨g, 0, none⟩) n n) xs) (hn : n = xs.length) (j : Nat) (x : Int) :
    OwnI (w.setCell ⟨g, j, none⟩ (.int k x)) base k e (.slice (some ⟨g, 0, none⟩) n n) (xs.set j x) ∧ Grew w (.slice (some ⟨g, 0, none⟩) n n) (w.setCell ⟨g, j, none⟩ (.int k x)) (.slice (some ⟨g, 0, none⟩) n n) := by
  subst hn
  have h0 : w.ownsRow base e 1 (.slice (some ⟨g, 0, none⟩) xs.length xs.length) xs.length (xs.map (Value.int k)) := h
  obtain ⟨h1, h2⟩ := h0.stored j (Value.int k x)
  refine ⟨?_, h2, .inl rfl⟩
  show World.ownsRow _ _ _ _ _ (xs.set j x).length ((xs.set j x).map (Value.int k))
  rw [List.length_set, List.map_set]
  exact h1
theorem OwnI.cellAt {w : World} {base : Nat} {k : IntKind} {e : TypeId} {g n : Nat} {xs : List Int} (h : OwnI w base k e (.slice (some ⟨g, 0, none⟩) n n) xs) (hn : n = xs.length) (j : Nat) (hj : j < xs.length) :
    w.cell? ⟨g, j, none⟩ = some (.int k xs[j]) ∧ w.frozen? ⟨g, j, none⟩ = false := by
  subst hn
  have h0 : w.ownsRow base e 1 (.slice (some ⟨g, 0, none⟩) xs.length xs.length) xs.length (xs.map (Value.int k)) := h
  refine ⟨?_, h0.frozenAt j⟩
  rw [h0.cellAt j (by omega)]
  simp [hj]
end Go.Proofs.YtakfineljffoaaaGreatDoor
