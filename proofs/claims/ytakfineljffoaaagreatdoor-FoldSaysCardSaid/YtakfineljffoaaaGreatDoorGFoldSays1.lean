/-
  PLAIN LEMMAS AND SMALL PREDICATES ON MEMORY THAT THE OTHER TEXTS USE. No statement of the seat stands here; no condition.
-/
import Derived.Test.YtakfineljffoaaaGreatDoorRows
import Derived.WalkKit
import Derived.WalkSpells
import Derived.Outline
import Derived.Laws.AppendOwnNone
namespace Go.Proofs.YtakfineljffoaaaGreatDoor
open Go.RowKit

theorem hid {p : Prop} (h : p) : Hid p := h

def At (w : World) (b off : Nat) (cs : List Value) : Prop := ∀ j (h : j < cs.length), w.cell? ⟨b, off + j, none⟩ = some cs[j]

def Sl (w : World) (v : Value) (n : Nat) (cs : List Value) : Prop :=
  ∃ ao cap, v = .slice ao n cap ∧ n ≤ cap ∧ cap ≤ 9223372036854775807 ∧ (ao = none → cap = 0) ∧ (cs = [] ∨ ∃ b off, ao = some ⟨b, off, none⟩ ∧ At w b off cs)

def L1 {α : Type} (enc : α → Value) (w : World) (v : Value) (xs : List α) : Prop := Sl w v xs.length (xs.map enc)

def Ints (w : World) (k : IntKind) (v : Value) (xs : List Int) : Prop := L1 (Value.int k) w v xs

theorem At.below {w w' : World} {b off : Nat} {cs : List Value} (h : At w b off cs) (hb : Below w.heap.size w w') : At w' b off cs := by
  intro j hj
  have hc := h j hj
  rw [← hc]
  refine hb.cell (p := ⟨b, off + j, none⟩) ?_
  show b < w.heap.size
  apply Classical.byContradiction
  intro hn
  simp only [World.cell?] at hc
  rw [show w.heap[b]? = none from by simp; omega] at hc
  simp at hc

theorem Sl.below {w w' : World} {v : Value} {n : Nat} {cs : List Value} (h : Sl w v n cs) (hb : Below w.heap.size w w') : Sl w' v n cs := by
  obtain ⟨ao, cap, h1, h2, h3, h5, h4⟩ := h
  refine ⟨ao, cap, h1, h2, h3, h5, ?_⟩
  rcases h4 with h4 | ⟨b, off, h5, h6⟩
  · exact .inl h4
  · exact .inr ⟨b, off, h5, h6.below hb⟩

theorem L1.open {α : Type} {enc : α → Value} {w : World} {v : Value} {xs : List α} (h : L1 enc w v xs) :
    (∃ ao cap, v = .slice ao 0 cap ∧ xs = [] ∧ (ao = none → cap = 0)) ∨ ∃ b off cap, v = .slice (some ⟨b, off, none⟩) xs.length cap ∧ 0 < xs.length ∧ xs.length ≤ cap ∧ cap ≤ 9223372036854775807 ∧ ∀ j (h : j < xs.length), w.cell? ⟨b, off + j, none⟩ = some (enc xs[j]) := by
  obtain ⟨ao, cap, h1, h2, h3, h7, h4⟩ := h
  rcases h4 with h4 | ⟨b, off, h5, h6⟩
  · have : xs = [] := by simpa using h4
    subst this
    exact .inl ⟨ao, cap, h1, rfl, h7⟩
  · cases xs with
    | nil => exact .inl ⟨ao, cap, h1, rfl, h7⟩
    | cons x r => exact .inr ⟨b, off, cap, by rw [h1, h5], by simp, h2, h3, fun j hj => by have := h6 j (by simpa using hj); rw [this, List.getElem_map]⟩
theorem Ints.open {w : World} {k : IntKind} {v : Value} {xs : List Int} (h : Ints w k v xs) :
    (∃ ao cap, v = .slice ao 0 cap ∧ xs = [] ∧ (ao = none → cap = 0)) ∨ ∃ b off cap, v = .slice (some ⟨b, off, none⟩) xs.length cap ∧ 0 < xs.length ∧ xs.length ≤ cap ∧ cap ≤ 9223372036854775807 ∧ ∀ j (h : j < xs.length), w.cell? ⟨b, off + j, none⟩ = some (.int k xs[j]) := L1.open h

theorem Sl.made (w : World) (t : TypeId) (n : Nat) (cs : List Value) (m : Nat) (hm : m = w.heap.size) (h : n ≤ 9223372036854775807) : Sl (w.alloc (.cells cs.toArray t)) (.slice (some ⟨m, 0, none⟩) n n) n cs := by
  subst hm
  refine ⟨_, _, rfl, Nat.le_refl _, h, by simp, .inr ⟨w.heap.size, 0, rfl, ?_⟩⟩
  intro j hj
  rw [World.cell?_alloc_new]
  simp
theorem Ints.made' (w : World) (k : IntKind) (t : TypeId) (xs : List Int) (m : Nat) (hm : m = w.heap.size) (h : xs.length ≤ 9223372036854775807) : Ints (w.alloc (.cells (xs.map (Value.int k)).toArray t)) k (.slice (some ⟨m, 0, none⟩) xs.length xs.length) xs := Sl.made w t _ _ m hm h
theorem Ints.made (w : World) (t : TypeId) (xs : List Int) (m : Nat) (hm : m = w.heap.size) (h : xs.length ≤ 9223372036854775807) : Ints (w.alloc (.cells (xs.map (Value.int .i64)).toArray t)) .i64 (.slice (some ⟨m, 0, none⟩) xs.length xs.length) xs := Sl.made w t _ _ m hm h
theorem ret1 {k : IntKind} {a b : Int} (h : a = b) : Ending.returned (.int k a) = .returned (.int k b) := by rw [h]
theorem retB {a b : Bool} (h : a = b) : Ending.returned (.bool a) = .returned (.bool b) := by rw [h]

theorem drop_cons {α : Type} (l : List α) (k : Nat) (h : k < l.length) : l.drop k = l[k] :: l.drop (k + 1) := List.drop_eq_getElem_cons h


def S (l : List UInt8) : ByteArray := ⟨l.toArray⟩
theorem S_size (l : List UInt8) : (S l).size = l.length := by simp [S, ByteArray.size]
theorem S_append (a b : List UInt8) : S a ++ S b = S (a ++ b) := by simp [S, ByteArray.mk_append_mk]
theorem S_data (l : List UInt8) : (S l).data.toList = l := by simp [S]
theorem S_nil : S [] = ⟨#[]⟩ := rfl
def byteOf (n : Int) : UInt8 := UInt8.ofNat (n % 256).toNat

def O1 {α : Type} (enc : α → Value) (w : World) (base : Nat) (e : TypeId) (v : Value) (xs : List α) : Prop := w.ownsRow base e 1 v xs.length (xs.map enc)
def OwnI (w : World) (base : Nat) (k : IntKind) (e : TypeId) (v : Value) (xs : List Int) : Prop := O1 (Value.int k) w base e v xs

theorem OwnI.nil (w : World) (base : Nat) (k : IntKind) (e : TypeId) : OwnI w base k e (.slice none 0 0) [] := World.ownsRow_nil _ _ _ _
theorem O1.nil {α : Type} (enc : α → Value) (w : World) (base : Nat) (e : TypeId) : O1 enc w base e (.slice none 0 0) [] := World.ownsRow_nil _ _ _ _

theorem own_sl {w : World} {base : Nat} {e : TypeId} {size : Nat} {v : Value} {n : Nat} {cs : List Value} (h : w.ownsRow base e size v n cs) : Sl w v n cs := by
  obtain ⟨h1, h2⟩ := h
  rcases h2 with ⟨rfl, h3⟩ | ⟨g, cap, cur, rfl, hg, hh, hn, hc, hs, ht⟩
  · subst h3
    have : cs = [] := by simpa using h1
    subst this
    exact ⟨none, 0, rfl, by simp, by simp, by simp, .inl rfl⟩
  · refine ⟨_, cap, rfl, hn, by unfold maxLen at hc; omega, by simp, .inr ⟨g, 0, rfl, ?_⟩⟩
    intro j hj
    have e1 : (cur.toList.take (n * size))[j]? = cur[j]? := by
      rw [List.getElem?_take_of_lt (by omega)]; simp
    rw [ht] at e1
    simp only [World.cell?, hh]
    simp only [Nat.zero_add, Option.isSome_none, Bool.false_eq_true, if_false]
    rw [← e1, List.getElem?_eq_getElem hj]
theorem OwnI.ints {w : World} {base : Nat} {k : IntKind} {e : TypeId} {v : Value} {xs : List Int} (h : OwnI w base k e v xs) : Ints w k v xs := own_sl h
theorem O1.l1 {α : Type} {enc : α → Value} {w : World} {base : Nat} {e : TypeId} {v : Value} {xs : List α} (h : O1 enc w base e v xs) : L1 enc w v xs := own_sl h

theorem own_below {w w' : World} {base : Nat} {e : TypeId} {size : Nat} {v : Value} {n : Nat} {cs : List Value} (h : w.ownsRow base e size v n cs) (hb : Below w.heap.size w w') : w'.ownsRow base e size v n cs :=
  h.kept (row := none) ⟨hb.os, hb.tape, hb.output, hb.size, fun k hk _ => hb.block k hk⟩ (by cases v.ownBlock <;> simp)
theorem OwnI.below {w w' : World} {base : Nat} {k : IntKind} {e : TypeId} {v : Value} {xs : List Int} (h : OwnI w base k e v xs) (hb : Below w.heap.size w w') : OwnI w' base k e v xs := own_below h hb
theorem O1.below {α : Type} {enc : α → Value} {w w' : World} {base : Nat} {e : TypeId} {v : Value} {xs : List α} (h : O1 enc w base e v xs) (hb : Below w.heap.size w w') : O1 enc w' base e v xs := own_below h hb
theorem L1.below {α : Type} {enc : α → Value} {w w' : World} {v : Value} {xs : List α} (h : L1 enc w v xs) (hb : Below w.heap.size w w') : L1 enc w' v xs := Sl.below h hb
theorem own_mono {w : World} {base b' : Nat} {e : TypeId} {size : Nat} {v : Value} {n : Nat} {cs : List Value} (h : w.ownsRow base e size v n cs) (hb : b' ≤ base) : w.ownsRow b' e size v n cs := by
  obtain ⟨h1, h2⟩ := h
  refine ⟨h1, ?_⟩
  rcases h2 with h2 | ⟨g, cap, cur, hv, hg, r⟩
  · exact .inl h2
  · exact .inr ⟨g, cap, cur, hv, by omega, r⟩

def Elem (P : Program) (T E : TypeId) (z : Value) (size bytes : Nat) : Prop :=
  P.underlying T = some (.slice E) ∧ (P.info? E).map (fun i => (i.zero, i.size, i.bytes)) = some (some z, size, bytes) ∧ z.cells.size = size ∧ 0 < size

theorem own_block {w : World} {base : Nat} {e : TypeId} {size : Nat} {v : Value} {n : Nat} {cs : List Value} (h : w.ownsRow base e size v n cs) : ∀ k, v.ownBlock = some k → base ≤ k := fun k hk => (h.lt k hk).1

def Fresh (w : World) (v v' : Value) : Prop := v'.ownBlock = v.ownBlock ∨ ∃ k, v'.ownBlock = some k ∧ w.heap.size ≤ k
def Grew (w : World) (v : Value) (w' : World) (v' : Value) : Prop := w.grownBy w' v.ownBlock ∧ Fresh w v v'
def Sep (u v : Value) : Prop := ∀ k, u.ownBlock = some k → v.ownBlock ≠ some k
theorem Sep.symm {u v : Value} (h : Sep u v) : Sep v u := fun k h1 h2 => h k h2 h1
theorem Grew.other {w w' : World} {base : Nat} {e : TypeId} {size : Nat} {v v' u : Value} {n : Nat} {cs : List Value} (hg : Grew w v w' v') (h : w.ownsRow base e size u n cs) (hs : Sep u v) : w'.ownsRow base e size u n cs ∧ Sep u v' := by
  obtain ⟨h1, h2⟩ := hg
  refine ⟨h.kept h1 ?_, ?_⟩
  · cases hu : u.ownBlock with
    | none => exact .inl rfl
    | some k => exact .inr (fun e => hs k hu e.symm)
  · intro k hk hv
    rcases h2 with h2 | ⟨k', h2, h3⟩
    · exact hs k hk (h2 ▸ hv)
    · have := (h.lt k hk).2
      rw [h2] at hv
      injection hv with hv
      omega

theorem run_own_fresh {P : Program} (w : World) (base : Nat) (t ty e : TypeId) (i : TypeInfo) (z : Value) (size bytes : Nat) (ht : P.underlying t = some (.slice e)) (hi : P.info? e = some i) (hz : i.zero = some z)
    (hsize : i.size = size) (hby : i.bytes = bytes) (hzs : z.cells.size = size) (hsz : 0 < size)
    (v : Value) (n : Nat) (xs : List Value) (hown : w.ownsRow base e size v n xs)
    (a : Addr) (m c : Nat) (news : List Value) (hl : news.length = m * size) (hnews : ∀ j u, news[j]? = some u → w.cell? (a.add j) = some u) (h1 : ∀ u ∈ news, u.oneCell' = true)
    (h63 : n + m ≤ maxLen) (hbytes : (n + m) * bytes ≤ 140737488355328) (hbase : base ≤ w.heap.size) :
    ∃ v' w', (Builtin.append_ #[t, t] ty #[v, .slice (some a) m c]).run P w = .ok v' w' ∧ w'.ownsRow base e size v' (n + m) (xs ++ news) ∧ Grew w v w' v' := by
  obtain ⟨v', w', hr, h2, h3, _⟩ := run_append_own (P := P) w base t ty e i z size bytes ht hi hz hsize hby hzs hsz v n xs hown a m c news hl hnews h1 h63 hbytes hbase
  refine ⟨v', w', hr, h2, h3, ?_⟩
  have hsmall : n + m ≤ 9223372036854775807 := by simp only [maxLen] at h63; omega
  subst hsize
  subst hby
  rcases id hown.2 with ⟨rfl, rfl⟩ | ⟨g, cap, cur, rfl, hbg, hg, hnc, hcm, hcs, htake⟩
  · by_cases hm : m = 0
    · subst hm
      rcases h2.2 with ⟨rfl, _⟩ | ⟨g, cap, cur, rfl, _⟩
      · exact .inl rfl
      · have hn : news = [] := List.eq_nil_of_length_eq_zero (by simpa using hl)
        subst hn
        have hr2 : (Builtin.append_ #[t, t] ty #[.slice none 0 0, .slice (some a) 0 c]).run P w = .ok (.slice none 0 0) w := by
          simp [Builtin.append_, run_underlying ht, sizeOf, typeInfo, hi, Builtin.lenOf, Builtin.firstCells, loadCells, loadCellsFrom]
        have := hr.symm.trans hr2
        simp at this
    · have hr2 := run_append_nil (P := P) w t ty e i z ht hi hz a m c news hl hnews (by omega) (by omega) (by have hb := hbytes; simp only [Nat.zero_add] at hb; omega)
      have h4 := hr.symm.trans hr2
      simp only [Result.ok.injEq] at h4
      exact .inr ⟨w.heap.size, by rw [h4.1]; rfl, Nat.le_refl _⟩
  · by_cases hroom : n + m ≤ cap
    · obtain ⟨w2, hr2, _, _⟩ := run_append_fits (P := P) w base t ty e i i.size ht hi rfl g n cap xs hown a m c news hl hnews h1 hroom
      have h4 := hr.symm.trans hr2
      simp only [Result.ok.injEq] at h4
      exact .inl (by rw [h4.1]; rfl)
    · have holds : ∀ j u, xs[j]? = some u → w.cell? ((⟨g, 0, none⟩ : Addr).add j) = some u := hown.cells (g := g) rfl
      have hr2 := run_append_grow (P := P) w t ty e i z ht hi hz ⟨g, 0, none⟩ n cap xs hown.1 holds a m c news hl hnews (by omega) (by omega) (growslice_fits (by omega) hbytes)
      have h4 := hr.symm.trans hr2
      simp only [Result.ok.injEq] at h4
      exact .inr ⟨w.heap.size, by rw [h4.1]; rfl, Nat.le_refl _⟩

theorem app_any {P : Program} {T E : TypeId} {z : Value} {size bytes : Nat} (hE : Elem P T E z size bytes)
    {ops : Array Oper} {rest : List Oper} {o : Oper} {a : Act} {Q : Exit → Act → World → Prop} {w : World} {base : Nat} {v u : Value} {n m : Nat} {xs news : List Value} (hgd : o.guard = none) (s x : Operand)
    (ho : o.op = .call { callee := .builtin .append, args := #[s, x], argTypes := #[T, T] })
    (hs : a.eval s = v) (hx : a.eval x = u) (hown : w.ownsRow base E size v n xs) (hu : Sl w u m news) (hl : news.length = m * size) (h1 : ∀ c ∈ news, c.oneCell' = true)
    (hlen : n + m ≤ 9223372036854775807) (hbytes : (n + m) * bytes ≤ 140737488355328) (hbase : base ≤ w.heap.size)
    (h : ∀ v' w', w'.ownsRow base E size v' (n + m) (xs ++ news) → Below base w w' → Grew w v w' v' → wpList P ops Q rest (a.put o.dst v') w') : wpList P ops Q (o :: rest) a w := by
  obtain ⟨ht, hinfo, hz2, hpos⟩ := hE
  obtain ⟨i0, hi, hz0, hz1, hzb⟩ := info_parts hinfo
  obtain ⟨ao, cap, rfl, hmc, hcap, hnil, hcells⟩ := hu
  have fin : ∀ v' w', w'.ownsRow base E size v' (n + m) (xs ++ news) → Grew w v w' v' → wpList P ops Q rest (a.put o.dst v') w' := by
    intro v' w' g1 g2
    exact h v' w' g1 ((Below.refl base w).grown g2.1 hbase (own_block hown)) g2
  cases ao with
  | none =>
    have hc0 := hnil rfl
    obtain rfl : m = 0 := by omega
    subst hc0
    have hn0 : news = [] := by simpa using hl
    subst hn0
    refine wpList_append_own_none hgd s x T ho base E i0 size ht hi v n xs hs hown hx ?_
    have := fin v w (by simpa using hown) ⟨World.grownBy.refl _ _, .inl rfl⟩
    exact this
  | some ad =>
    have hnews : ∀ j c, news[j]? = some c → w.cell? (ad.add j) = some c := by
      intro j c hj
      rcases hcells with rfl | ⟨b, off, hb, hat⟩
      · simp at hj
      · simp only [Option.some.injEq] at hb
        subst hb
        have hjl : j < news.length := by
          rcases Nat.lt_or_ge j news.length with h | h
          · exact h
          · simp [List.getElem?_eq_none h] at hj
        have hplain : (⟨b, off, none⟩ : Addr).add j = ⟨b, off + j, none⟩ := by unfold Addr.add; split <;> simp_all
        rw [hplain, hat j hjl, ← hj, List.getElem?_eq_getElem hjl]
    refine wpList_plain hgd fun K hK => ?_
    obtain ⟨v', w', hr, h2, h3⟩ := run_own_fresh (P := P) w base T o.type E i0 z size bytes ht hi hz0 hz1 hzb hz2 hpos v n xs hown ad m cap news hl hnews h1 (by unfold maxLen; omega) hbytes hbase
    unfold Oper.wp execOp
    simp only [ho, resolve, invoke, builtin, Sem.run_bind, Sem.run_pure, Result.andThen_ok, List.map_toArray, List.map_cons, List.map_nil, hs, hx, hr]
    exact hK _ _ (fin v' w' h2 h3)

theorem app_one {P : Program} {T E : TypeId} {z : Value} {size bytes : Nat} (hE : Elem P T E z size bytes)
    {ops : Array Oper} {rest : List Oper} {o : Oper} {a : Act} {Q : Exit → Act → World → Prop} {w : World} {base : Nat} {v : Value} {n : Nat} {xs cs : List Value} (hgd : o.guard = none) (s x : Operand)
    (ho : o.op = .call { callee := .builtin .append, args := #[s, x], argTypes := #[T, T] })
    {mm : Nat} (hs : a.eval s = v) (hx : a.eval x = .slice (some ⟨mm, 0, none⟩) 1 1) (hmm : mm = w.heap.size) (hown : w.ownsRow base E size v n xs) (hl : cs.length = size) (h1 : ∀ c ∈ cs, c.oneCell' = true)
    (hlen : n + 1 ≤ 9223372036854775807) (hbytes : (n + 1) * bytes ≤ 140737488355328) (hbase : base ≤ w.heap.size)
    (h : ∀ v' w', w'.ownsRow base E size v' (n + 1) (xs ++ cs) → Below base w w' → Grew w v w' v' → wpList P ops Q rest (a.put o.dst v') w') : wpList P ops Q (o :: rest) a (w.alloc (.cells cs.toArray E)) := by
  refine app_any hE hgd s x ho hs hx (hown.alloc _) (Sl.made w E 1 cs _ hmm (by omega)) (by omega) h1 hlen hbytes (by simp; omega) ?_
  intro v' w' g1 g2 g3
  obtain ⟨g3, g4⟩ := g3
  refine h v' w' g1 (((Below.refl base w).alloc hbase _).trans g2) ⟨⟨g3.os, g3.tape, g3.output, by have := g3.size; simp at this; omega, fun k hk hne => ?_⟩, ?_⟩
  · rw [g3.block k (by simp; omega) hne, Below.heap_alloc _ _ _ hk]
  · rcases g4 with g4 | ⟨k, g4, g5⟩
    · exact .inl g4
    · exact .inr ⟨k, g4, by simp at g5; omega⟩

theorem map_oneCell {α : Type} {enc : α → Value} (h : ∀ x, (enc x).oneCell' = true) (xs : List α) : ∀ c ∈ xs.map enc, c.oneCell' = true := by
  intro c hc
  obtain ⟨x, _, rfl⟩ := List.mem_map.1 hc
  exact h x

theorem flat_getElem? {α : Type} {enc : α → List Value} {s : Nat} (hs : ∀ x, (enc x).length = s) (xs : List α) : ∀ (j f : Nat) (_ : f < s) (h : j < xs.length), (xs.flatMap enc)[j * s + f]? = (enc xs[j])[f]? := by
  induction xs with
  | nil => intro j f _ h; simp at h
  | cons x r ih =>
    intro j f hf h
    rw [List.flatMap_cons]
    cases j with
    | zero => rw [List.getElem?_append_left (by rw [hs]; omega)]; simp
    | succ j =>
      rw [List.getElem?_append_right (by rw [hs, Nat.succ_mul]; omega), hs, show (j + 1) * s + f - s = j * s + f by rw [Nat.succ_mul]; omega, ih j f hf (by simpa using h)]
      simp
theorem flat_length {α : Type} {enc : α → List Value} {s : Nat} (hs : ∀ x, (enc x).length = s) (xs : List α) : (xs.flatMap enc).length = xs.length * s := by
  induction xs with
  | nil => simp
  | cons x r ih => rw [List.flatMap_cons, List.length_append, hs, ih, List.length_cons, Nat.succ_mul]; omega

def Lk {α : Type} (enc : α → List Value) (w : World) (v : Value) (xs : List α) : Prop := Sl w v xs.length (xs.flatMap enc)
theorem Lk.below {α : Type} {enc : α → List Value} {w w' : World} {v : Value} {xs : List α} (h : Lk enc w v xs) (hb : Below w.heap.size w w') : Lk enc w' v xs := Sl.below h hb
theorem Lk.open {α : Type} {enc : α → List Value} {s : Nat} {w : World} {v : Value} {xs : List α} (h : Lk enc w v xs) (hs : ∀ x, (enc x).length = s) (hpos : 0 < s) :
    (∃ ao cap, v = .slice ao 0 cap ∧ xs = [] ∧ (ao = none → cap = 0)) ∨ ∃ b off cap, v = .slice (some ⟨b, off, none⟩) xs.length cap ∧ 0 < xs.length ∧ xs.length ≤ cap ∧ cap ≤ 9223372036854775807 ∧ ∀ j (_ : j < xs.length) f (_ : f < s), w.cell? ⟨b, off + j * s + f, none⟩ = (enc xs[j])[f]? := by
  obtain ⟨ao, cap, h1, h2, h3, h7, h4⟩ := h
  cases xs with
  | nil => exact .inl ⟨ao, cap, h1, rfl, h7⟩
  | cons x r =>
    rcases h4 with h4 | ⟨b, off, h5, h6⟩
    · have := congrArg List.length h4
      rw [flat_length hs, List.length_cons, Nat.succ_mul, List.length_nil] at this
      omega
    · refine .inr ⟨b, off, cap, by rw [h1, h5], by simp, h2, h3, fun j hj f hf => ?_⟩
      have hlt : j * s + f < ((x :: r).flatMap enc).length := by
        rw [flat_length hs]
        have : (j + 1) * s ≤ (x :: r).length * s := Nat.mul_le_mul_right _ hj
        rw [Nat.succ_mul] at this
        omega
      rw [Nat.add_assoc, h6 _ hlt, ← flat_getElem? hs (x :: r) j f hf hj, List.getElem?_eq_getElem hlt]

theorem OwnI.stored {w : World} {base : Nat} {k : IntKind} {e : TypeId} {g n : Nat} {xs : List Int} (h : OwnI w base k e (.slice (some ⟨g, 0, none⟩) n n) xs) (hn : n = xs.length) (j : Nat) (x : Int) :
    OwnI (w.setCell ⟨g, j, none⟩ (.int k x)) base k e (.slice (some ⟨g, 0, none⟩) n n) (xs.set j x) ∧ Grew w (.slice (some ⟨g, 0, none⟩) n n) (w.setCell ⟨g, j, none⟩ (.int k x)) (.slice (some ⟨g, 0, none⟩) n n) := by
  subst hn
  have h0 : w.ownsRow base e 1 (.slice (some ⟨g, 0, none⟩) xs.length xs.length) xs.length (xs.map (Value.int k)) := h
  obtain ⟨h1, h2⟩ := h0.stored j (Value.int k x)
  refine ⟨?_, h2, .inl rfl⟩
  show World.ownsRow _ _ _ _ _ (xs.set j x).length ((xs.set j x).map (Value.int k))
  rw [List.length_set, List.map_set]
  exact h1
end Go.Proofs.YtakfineljffoaaaGreatDoor
