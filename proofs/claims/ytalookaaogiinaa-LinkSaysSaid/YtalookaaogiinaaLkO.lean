/-
  LINKS, the program's end: Out. Conditions: the object's own invariant; lengths.
-/
import Derived.Test.YtalookaaogiinaaLkB
import Derived.Lib.MinMax
import Derived.Deep.RegionLaw
namespace Go.Proofs.Ytalookaaogiinaa
open Go.RowKit Go.Lib
attribute [local go_sem ↓] Go.wp_at_zero Go.wp_at_succ

def encFr (f : Frm) : List Value := [.int .i64 f.fr, .int .i64 f.to, .int .i64 f.seq, .int .i64 f.ack, .string f.body]
theorem encFr_len (x : Frm) : (encFr x).length = 5 := rfl
theorem encFr_one (xs : List Frm) : ∀ c ∈ xs.flatMap encFr, c.oneCell' = true := by
  intro c hc
  obtain ⟨x, _, hx⟩ := List.mem_flatMap.1 hc
  simp only [encFr, List.mem_cons, List.not_mem_nil, or_false] at hx
  rcases hx with rfl | rfl | rfl | rfl | rfl <;> rfl
theorem info_Fr : (Try.prog.info? 31).map (fun i => (i.zero, i.size, i.bytes)) = some (some (.agg #[.int .i64 0, .int .i64 0, .int .i64 0, .int .i64 0, .string ByteArray.empty]), 5, 48) := by kernel_rfl
theorem elem_Fr : Elem Try.prog 37 31 (.agg #[.int .i64 0, .int .i64 0, .int .i64 0, .int .i64 0, .string ByteArray.empty]) 5 48 := ⟨Try.underlying37, info_Fr, rfl, by decide⟩
/-- what is sent of the first k: the frames, the bodies behind it, the highest count -/
def outQ (s : PE) : Nat → List Frm × List Ln × Int
  | 0 => ([], s.waits, s.high)
  | k + 1 => match s.waits[k]? with
    | none => outQ s k
    | some x => if x.sent = true ∧ s.now - x.time < 3 then outQ s k
      else ((outQ s k).1 ++ [⟨s.me, s.other, s.acked + 1 + k, s.came, x.body⟩], (outQ s k).2.1.set k ⟨x.body, true, s.now⟩, max (outQ s k).2.2 (s.acked + 1 + k))
theorem outQ_len (s : PE) (k : Nat) : (outQ s k).2.1.length = s.waits.length := by
  induction k with
  | zero => rfl
  | succ k ih =>
    unfold outQ
    split
    · exact ih
    · split
      · exact ih
      · simpa using ih
theorem outQ_far (s : PE) (k j : Nat) (h : k ≤ j) : (outQ s k).2.1[j]? = s.waits[j]? := by
  induction k with
  | zero => rfl
  | succ k ih =>
    unfold outQ
    split
    · exact ih (by omega)
    · split
      · exact ih (by omega)
      · simp only
        rw [List.getElem?_set_ne (by omega)]
        exact ih (by omega)
theorem outQ_few (s : PE) (k : Nat) : (outQ s k).1.length ≤ k := by
  induction k with
  | zero => simp [outQ]
  | succ k ih =>
    unfold outQ
    split
    · omega
    · split
      · omega
      · simp; omega
theorem outQ_skip {s : PE} {k : Nat} {x : Ln} (hx : s.waits[k]? = some x) (h : x.sent = true ∧ s.now - x.time < 3) : outQ s (k + 1) = outQ s k := by
  rw [outQ, hx]; exact if_pos h
theorem outQ_send {s : PE} {k : Nat} {x : Ln} (hx : s.waits[k]? = some x) (h : ¬ (x.sent = true ∧ s.now - x.time < 3)) : outQ s (k + 1) = ((outQ s k).1 ++ [⟨s.me, s.other, s.acked + 1 + k, s.came, x.body⟩], (outQ s k).2.1.set k ⟨x.body, true, s.now⟩, max (outQ s k).2.2 (s.acked + 1 + k)) := by
  rw [outQ, hx]; exact if_neg h
def outN (s : PE) : Nat := min 4 s.waits.length
def outF (s : PE) : List Frm := if (outQ s (outN s)).1 = [] ∧ s.owed = true then [⟨s.me, s.other, 0, s.came, ByteArray.empty⟩] else (outQ s (outN s)).1
def outS (s : PE) : PE := { s with waits := (outQ s (outN s)).2.1, high := (outQ s (outN s)).2.2, owed := s.owed && decide (outF s = []) }
theorem flat_set3 (l : List Ln) (k : Nat) (x : Ln) (hk : k < l.length) : (l.set k x).flatMap encLn = (((l.flatMap encLn).set (k * 3) (.string x.body)).set (k * 3 + 1) (.bool x.sent)).set (k * 3 + 2) (.int .i64 x.time) := by
  induction l generalizing k with
  | nil => simp at hk
  | cons y l ih =>
    cases k with
    | zero => rfl
    | succ k =>
      simp only [List.length_cons] at hk
      rw [List.set_cons_succ, List.flatMap_cons, ih k (by omega), List.flatMap_cons]
      rw [show (k + 1) * 3 = k * 3 + 3 by omega]
      rw [List.set_append_right _ _ (by rw [encLn_len]; omega), List.set_append_right _ _ (by rw [encLn_len]; omega), List.set_append_right _ _ (by rw [encLn_len]; omega)]
      simp only [encLn_len, show k * 3 + 3 - 3 = k * 3 by omega, show k * 3 + 3 + 1 - 3 = k * 3 + 1 by omega, show k * 3 + 3 + 2 - 3 = k * 3 + 2 by omega]
/-- one cell of a row of threes is turned -/
theorem own_put3 {w : World} {base : Nat} {e : TypeId} {g n cap : Nat} {xs : List Value} (h : w.ownsRow base e 3 (.slice (some ⟨g, 0, none⟩) n cap) n xs) (i : Nat) (a : Value) (hi : i < n * 3) : (w.setCell ⟨g, i, none⟩ a).ownsRow base e 3 (.slice (some ⟨g, 0, none⟩) n cap) n (xs.set i a) := by
  obtain ⟨h1, h2⟩ := h
  refine ⟨by rw [List.length_set]; exact h1, ?_⟩
  rcases h2 with ⟨h2, _⟩ | ⟨g', cap', cur, hv, hg, hh, hn, hc, hs, ht⟩
  · simp at h2
  simp only [Value.slice.injEq, Option.some.injEq, Addr.mk.injEq, and_true, true_and] at hv
  obtain ⟨rfl, rfl⟩ := hv
  refine .inr ⟨g, cap, _, rfl, hg, heap_setCell_same w g i cur e a hh, hn, hc, by simpa using hs, ?_⟩
  rw [← ht]
  simp [List.take_set]
theorem row3_at {w : World} {base : Nat} {e : TypeId} {v : Value} {l : List Ln} (h : w.ownsRow base e 3 v l.length (l.flatMap encLn)) (k : Nat) (hk : k < l.length) :
    ∃ g cap, v = .slice (some ⟨g, 0, none⟩) l.length cap ∧ l.length ≤ cap ∧ cap ≤ 9223372036854775807 ∧ w.cell? ⟨g, k * 3, none⟩ = some (.string l[k].body) ∧ w.cell? ⟨g, k * 3 + 1, none⟩ = some (.bool l[k].sent) ∧ w.cell? ⟨g, k * 3 + 2, none⟩ = some (.int .i64 l[k].time) ∧ (∀ i, w.frozen? ⟨g, i, none⟩ = false) := by
  have hl : Lk encLn w v l := own_sl h
  obtain ⟨g, cap, rfl, hg, hlt, h1, h2⟩ := own_head h (by omega)
  obtain ⟨_, _, _, hc⟩ := lk_cells hl encLn_len (by decide) (by omega)
  have c0 := hc k hk 0 (by decide)
  have c1 := hc k hk 1 (by decide)
  have c2 := hc k hk 2 (by decide)
  simp only [Nat.zero_add, Nat.add_zero] at c0 c1 c2
  refine ⟨g, cap, rfl, h1, h2, c0, c1, c2, fun i => ?_⟩
  rcases h.2 with ⟨e, _⟩ | ⟨g', cap', cur, e, _, hh, _⟩
  · simp at e
  · simp only [Value.slice.injEq, Option.some.injEq, Addr.mk.injEq, and_true, true_and] at e
    obtain ⟨rfl, _⟩ := e
    simp [World.frozen?, hh]
end Go.Proofs.Ytalookaaogiinaa
