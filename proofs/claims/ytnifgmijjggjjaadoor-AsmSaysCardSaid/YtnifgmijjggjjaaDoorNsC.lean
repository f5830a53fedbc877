/-
  BODIES: the program's Match. No condition.
-/
import Derived.Test.YtnifgmijjggjjaaDoorNsB
import Derived.Deep.RegionLaw
namespace Go.Proofs.YtnifgmijjggjjaaDoor
open Go.RowKit Go.Lib
attribute [local go_sem ↓] Go.wp_at_zero Go.wp_at_succ

/-- what the program marks -/
def mkM (l : List It) : AB := matR It.op l 0 ([(-1, 2)], false) (List.replicate l.length 0, List.replicate l.length 0)
theorem made_ints (w : World) (n base : Nat) (e : TypeId) (hn : n ≤ 9223372036854775807) (hb : base ≤ w.heap.size) : OwnI (w.alloc (.cells (madeCells #[Value.int .i64 0] n) e)) base .i64 e (.slice (some ⟨w.heap.size, 0, none⟩) n n) (List.replicate n 0) := by
  have e1 : (madeCells #[Value.int .i64 0] n).toList = (List.replicate n (0 : Int)).map (Value.int .i64) := by rw [toList_madeCells_one, List.map_replicate]
  show World.ownsRow _ _ _ _ _ (List.replicate n (0 : Int)).length _
  rw [List.length_replicate]
  refine ⟨by simp, .inr ⟨w.heap.size, n, _, rfl, hb, heap_alloc_new w _, Nat.le_refl _, by unfold maxLen; omega, by have h := congrArg List.length e1; simpa using h, ?_⟩⟩
  rw [e1]
  exact List.take_of_length_le (by simp)
theorem run_mk (n : Nat) (hn : n ≤ 200) (w : World) : (Instr.makeSlice 66 (.int .i64 n) (.int .i64 n)).run Tryd.prog w = .ok (.slice (some ⟨w.heap.size, 0, none⟩) n n) (w.alloc (.cells (madeCells #[Value.int .i64 0] n) 3)) := by
  obtain ⟨ht, hinfo, _, _⟩ := elem_intv
  obtain ⟨i0, hi, hz0, hz1, hzb⟩ := info_parts hinfo
  have := run_make (P := Tryd.prog) w 66 3 i0 (.int .i64 0) ht hi hz0 .i64 .i64 n n (by omega) (by omega) (by rw [hzb]; omega) (by omega)
  rw [this, hz1]
  simp [Value.cells]
/-- every place that is open lies before -/
def InvT (k : Nat) (T : Stk) : Prop := ∀ x ∈ T, (x.1 = -1 ∧ x.2 = 2) ∨ ∃ q : Nat, x.1 = q ∧ q < k
theorem next_inv {k : Nat} {T : Stk} {ov : Bool} {op : Nat} (hI : InvT k T) (hT : ov = false → T ≠ []) (h0 : (wnext (T, ov) op k).1.2 = 0) :
    InvT (k + 1) (wnext (T, ov) op k).2.1 ∧ (op = 5 → ∃ q : Nat, (wnext (T, ov) op k).1.1 = q ∧ q < k) ∧ (op = 11 → (wnext (T, ov) op k).1.1 = -1 ∨ ∃ q : Nat, (wnext (T, ov) op k).1.1 = q ∧ q < k) := by
  have hup : InvT (k + 1) T := fun x hx => (hI x hx).imp id (fun ⟨q, h1, h2⟩ => ⟨q, h1, by omega⟩)
  cases ov with
  | true => simp [wnext] at h0
  | false =>
    obtain ⟨p, u, r, rfl⟩ : ∃ p u r, T = (p, u) :: r := by
      have := hT rfl
      match T, this with
      | (p, u) :: r, _ => exact ⟨p, u, r, rfl⟩
    by_cases h2 : op = 2 ∨ op = 3 ∨ op = 4
    · by_cases hd : 13 ≤ ((p, u) :: r).length
      · rw [wn_deep h2 hd] at h0; simp at h0
      · rw [wn_push h2 hd]
        refine ⟨?_, fun h => by omega, fun h => by omega⟩
        intro x hx
        rcases List.mem_cons.1 hx with rfl | hx
        · exact .inr ⟨k, rfl, by omega⟩
        · exact hup x hx
    · by_cases h5 : op = 5
      · subst h5
        by_cases hu : u = 4
        · rw [wn_else hu]
          have hp := hI (p, u) (List.mem_cons_self)
          simp only at hp
          obtain ⟨q, hq1, hq2⟩ : ∃ q : Nat, p = q ∧ q < k := by
            rcases hp with ⟨_, hp⟩ | hp
            · omega
            · exact hp
          refine ⟨?_, fun _ => ⟨q, hq1, hq2⟩, fun h => by omega⟩
          intro x hx
          rcases List.mem_cons.1 hx with rfl | hx
          · exact .inr ⟨q, hq1, by omega⟩
          · exact hup x (List.mem_cons_of_mem _ hx)
        · rw [wn_noelse hu] at h0; simp at h0
      · by_cases h11 : op = 11
        · subst h11
          rw [wn_end]
          refine ⟨fun x hx => hup x (List.mem_cons_of_mem _ hx), fun h => by omega, fun _ => ?_⟩
          rcases hI (p, u) (List.mem_cons_self) with ⟨hp, _⟩ | hp
          · exact .inl hp
          · exact .inr hp
        · rw [wn_plain h2 h5 h11]
          exact ⟨hup, fun h => absurd h h5, fun h => absurd h h11⟩
theorem mat_plain {op : Nat} {is : Int} {k : Nat} {m : AB} (h5 : op ≠ 5) (h11 : op ≠ 11) : matS op is k m = (m.1.set k (-1), m.2.set k (-1)) := by unfold matS; rw [if_neg h5, if_neg h11]
theorem mat_else {q k : Nat} {m : AB} : matS 5 (q : Int) k m = (m.1.set k (-1), ((m.2.set k (-1)).set k q).set q k) := by unfold matS; rw [if_pos rfl, Int.toNat_natCast]
theorem mat_end0 {k : Nat} {m : AB} : matS 11 (-1) k m = ((m.1.set k (-1)).set k (-1), m.2.set k (-1)) := by unfold matS; rw [if_neg (by decide), if_pos rfl, if_neg (by decide)]
theorem mat_end1 {q k : Nat} {m : AB} {z : Int} (hz : (m.2.set k (-1))[q]? = some z) (h0 : ¬ 0 ≤ z) : matS 11 (q : Int) k m = (((m.1.set k (-1)).set k q).set q k, m.2.set k (-1)) := by
  unfold matS
  rw [if_neg (by decide), if_pos rfl, if_pos (by omega), Int.toNat_natCast, getD_of hz, if_neg h0]
theorem mat_end2 {q k z : Nat} {m : AB} (hz : (m.2.set k (-1))[q]? = some (z : Int)) : matS 11 (q : Int) k m = ((((m.1.set k (-1)).set k q).set q k).set z k, m.2.set k (-1)) := by
  unfold matS
  rw [if_neg (by decide), if_pos rfl, if_pos (by omega), Int.toNat_natCast, getD_of hz, if_pos (by omega), Int.toNat_natCast]
theorem OwnI.at1 {w : World} {base : Nat} {k : IntKind} {e : TypeId} {g n : Nat} {xs : List Int} (h : OwnI w base k e (.slice (some ⟨g, 0, none⟩) n n) xs) (hn : xs.length = n) (j : Nat) (hj : j < xs.length) : ∃ v, w.cell? ⟨g, j, none⟩ = some v ∧ ∀ i, w.frozen? ⟨g, i, none⟩ = false := by
  obtain ⟨g', cap, h1, _, _, _, h5, h6, _⟩ := h.at hn (by omega)
  simp only [Value.slice.injEq, Option.some.injEq, Addr.mk.injEq, and_true, true_and] at h1
  obtain ⟨rfl, _⟩ := h1
  exact ⟨_, h5 j _ (List.getElem?_eq_getElem hj), h6⟩
theorem OwnI.val1 {w : World} {base : Nat} {k : IntKind} {e : TypeId} {g n : Nat} {xs : List Int} (h : OwnI w base k e (.slice (some ⟨g, 0, none⟩) n n) xs) (hn : xs.length = n) {j : Nat} {z : Int} (hz : xs[j]? = some z) : w.cell? ⟨g, j, none⟩ = some (.int k z) := by
  have hj := (List.getElem?_eq_some_iff.1 hz).1
  obtain ⟨g', cap, h1, _, _, _, h5, h6, _⟩ := h.at hn (by omega)
  simp only [Value.slice.injEq, Option.some.injEq, Addr.mk.injEq, and_true, true_and] at h1
  obtain ⟨rfl, _⟩ := h1
  exact h5 j z hz
theorem own_setCell2 {w : World} {base : Nat} {k : IntKind} {e : TypeId} {g n m : Nat} {xs : List Int} (h : OwnI w base k e (.slice (some ⟨g, 0, none⟩) n m) xs) {b : Nat} (hne : g ≠ b) (x : Nat × Value) : OwnI (w.setCell ⟨b, x.1, none⟩ x.2) base k e (.slice (some ⟨g, 0, none⟩) n m) xs := ownsRow_setCell_other (a := ⟨b, x.1, none⟩) h (fun e => hne (by injection e)) x.2
theorem WkB.put {w : World} {B base : Nat} {vo vl : Value} {st : Stk × Bool} (h : WkB w B base vo vl st) {g : Nat} (hg : g < base) (j : Nat) (x : Value) : WkB (w.setCell ⟨g, j, none⟩ x) B base vo vl st :=
  ⟨h.blk.other (by have := h.le; simp only; omega) _, ownsRow_setCell_below h.op hg _, ownsRow_setCell_below h.la hg _, h.le, h.full, h.most⟩
theorem chk_zero_step {l : List It} {k : Nat} {x : It} {st : Stk × Bool} (hx : l[k]? = some x) (h : chkR itC It.op (l.drop k) k st = 0) : (wnext st x.op k).1.2 = 0 ∧ chkR itC It.op (l.drop (k + 1)) (k + 1) (wnext st x.op k).2 = 0 := by
  by_cases h0 : itC x = 0
  · by_cases h1 : (wnext st x.op k).1.2 = 0
    · rw [chk_step hx h0 h1] at h
      exact ⟨h1, h⟩
    · rw [chk_wrong hx h0 h1] at h; exact absurd h h1
  · rw [chk_bad hx h0] at h; exact absurd h h0
theorem set_bound {xs : List Int} {n : Int} (h : ∀ x ∈ xs, x < n) (i : Nat) {a : Int} (ha : a < n) : ∀ x ∈ xs.set i a, x < n := by
  intro x hx
  rcases List.mem_or_eq_of_mem_set hx with hx | rfl
  · exact h x hx
  · exact ha
end Go.Proofs.YtnifgmijjggjjaaDoor
