/-
  THE LAW ShotWrites: Write is the reference's. Condition: the arguments' bulk at most 2^20.
-/
import Derived.Test.YtbjhedfgnocflaaSwg
import Derived.Test.YtbjhedfgnocflaaLawK
import Derived.Test.YtbjhedfgnocflaaDecS
import Derived.Laws.StructEq
namespace Go.Proofs.Ytbjhedfgnocflaa
open Go.RowKit Go.Lib

theorem ones_sum (l : List Int) : (l.map (fun _ => 1)).sum = l.length := by
  induction l with
  | nil => rfl
  | cons a r ih => rw [List.map_cons, List.sum_cons, ih, List.length_cons]; omega
theorem flat_one {α : Type} (f : α → Value) (l : List α) : l.flatMap (fun x => [f x]) = l.map f := by
  induction l with
  | nil => rfl
  | cons a r ih => rw [List.flatMap_cons, List.map_cons, ih]; rfl
theorem ints_of {W : World} {v : Value} {zs : List Int} (h : sliceR W 1 8 (intR .i64) [v] zs) : Ints W .i64 v zs ∧ i64L zs := by
  obtain ⟨h1, h2, _⟩ := slice_flat (fun n => [Value.int .i64 n]) (fun n => -9223372036854775808 ≤ n ∧ n ≤ 9223372036854775807) (fun cs y h => ⟨h.1, wf_i64 h.2⟩) h
  refine ⟨?_, h2⟩
  unfold Lk at h1
  rw [flat_one] at h1
  exact h1
def calOf (y : D_api_Call) : Cal := ⟨y.1, y.2.1, y.2.2.1, y.2.2.2.1⟩
theorem calls_of {W : World} {v : Value} {ys : List D_api_Call} (h : R_s_api_Call W [v] ys) : CallsS W v (ys.map calOf) ∧ ∀ y ∈ ys, i64L y.2.2.1 ∧ i64L y.2.2.2.1 := by
  obtain ⟨v', css, hv, hsl, hl, hb, hel⟩ := h
  simp only [List.cons.injEq, and_true] at hv
  subst hv
  have key : ∀ i (h1 : i < css.length) (h2 : i < ys.length), CalAt W css[i] (calOf ys[i]) ∧ i64L ys[i].2.2.1 ∧ i64L ys[i].2.2.2.1 := by
    intro i h1 h2
    obtain ⟨_, hr⟩ := hel i h1 h2
    generalize css[i] = cs at *
    generalize ys[i] = y at *
    obtain ⟨fn, pc, loc, stk, u⟩ := y
    obtain ⟨_, _, rfl, ⟨rfl, _⟩, _, _, rfl, ⟨rfl, _⟩, c1, _, rfl, h3, c2, _, rfl, h4, rfl⟩ := hr
    obtain ⟨v1, _, rfl, _⟩ := id h3
    obtain ⟨v2, _, rfl, _⟩ := id h4
    obtain ⟨i1, l1⟩ := ints_of h3
    obtain ⟨i2, l2⟩ := ints_of h4
    exact ⟨⟨v1, v2, rfl, i1, i2⟩, l1, l2⟩
  refine ⟨⟨css, by rw [List.length_map]; exact hl, by rw [List.length_map]; exact hsl, fun i h1 h2 => ?_⟩, ?_⟩
  · rw [List.getElem_map]
    exact (key i h1 (by simpa using h2)).1
  · intro y hy
    obtain ⟨i, hi, rfl⟩ := List.getElem_of_mem hy
    exact (key i (by omega) hi).2
theorem sum_ge {α : Type} (f : α → Nat) (l : List α) : ∀ y ∈ l, f y ≤ (l.map f).sum := by
  induction l with
  | nil => intro y hy; cases hy
  | cons a r ih =>
    intro y hy
    rw [List.map_cons, List.sum_cons]
    rcases List.mem_cons.1 hy with rfl | hy
    · omega
    · have := ih y hy; omega
theorem sum_len {α : Type} (f : α → Nat) (h : ∀ a, 1 ≤ f a) (l : List α) : l.length ≤ (l.map f).sum := by
  induction l with
  | nil => simp
  | cons a r ih => rw [List.map_cons, List.sum_cons, List.length_cons]; have := h a; omega

set_option maxRecDepth 100000 in
set_option maxHeartbeats 4000000 in
theorem law_ShotWrites (v0 v1 : Value) (x0 : D_api_Image) (x1 : D_api_State) (W : World) (i0 : IsAgg (R_api_Image W) v0 x0) (i1 : IsAgg (R_api_State W) v1 x1) (hB : b_api_Image x0 + (b_api_State x1 + 0) ≤ 1048576) :
    Calls Try.prog 13 #[v0, v1] W fun e w' => e = .returned (.bool true) ∧ Below W.heap.size W w' := by
  obtain ⟨mem, tab, glob, u⟩ := x0
  obtain ⟨calls, host, u'⟩ := x1
  obtain ⟨cs0, rfl, h0⟩ := i0
  obtain ⟨cs1, rfl, h1⟩ := i1
  obtain ⟨_, _, rfl, ⟨rfl, _⟩, c1, _, rfl, h3, c2, _, rfl, h4, rfl⟩ := h0
  obtain ⟨c3, _, rfl, h5, _, _, rfl, ⟨rfl, _⟩, rfl⟩ := h1
  obtain ⟨vt, -, rfl, -⟩ := id h3
  obtain ⟨vg, -, rfl, -⟩ := id h4
  obtain ⟨vc, -, rfl, -⟩ := id h5
  obtain ⟨t1, t2⟩ := ints_of h3
  obtain ⟨g1, g2⟩ := ints_of h4
  obtain ⟨k1, k2⟩ := calls_of h5
  have hok : ShotOk ⟨mem, tab, glob, calls.map calOf, host⟩ := by
    have e1 : (mem.size + 1) + ((tab.map (fun _ => 1)).sum + 1 + ((glob.map (fun _ => 1)).sum + 1 + 0)) + 1 + ((calls.map b_api_Call).sum + 1 + (1 + 0) + 1 + 0) ≤ 1048576 := hB
    rw [ones_sum, ones_sum] at e1
    have e2 := sum_len b_api_Call (fun a => Nat.le_add_left 1 _) calls
    have e3 : ∀ y ∈ calls, y.2.2.1.length + y.2.2.2.1.length ≤ 1048576 := by
      intro y hy
      have := sum_ge b_api_Call calls y hy
      have e4 : b_api_Call y = 1 + (1 + ((y.2.2.1.map (fun _ => 1)).sum + 1 + ((y.2.2.2.1.map (fun _ => 1)).sum + 1 + 0))) + 1 := rfl
      rw [ones_sum, ones_sum] at e4
      omega
    refine ⟨by simp only; omega, by simp only; omega, by simp only; omega, by rw [List.length_map]; omega, ?_, ?_, t2, g2⟩
    · intro c hc
      obtain ⟨y, hy, rfl⟩ := List.mem_map.1 hc
      exact ⟨by have := e3 y hy; show y.2.2.1.length ≤ _; omega, (k2 y hy).1⟩
    · intro c hc
      obtain ⟨y, hy, rfl⟩ := List.mem_map.1 hc
      exact ⟨by have := e3 y hy; show y.2.2.2.1.length ≤ _; omega, (k2 y hy).2⟩
  have p1 := fun w' hb => swrite_any w' ⟨mem, tab, glob, calls.map calOf, host⟩ vt vg vc (L1.below t1 hb) (L1.below g1 hb) (CallsS.below k1 hb) hok
  have p2 := fun w' hb => rswrite_any w' ⟨mem, tab, glob, calls.map calOf, host⟩ vt vg vc (L1.below t1 hb) (L1.below g1 hb) (CallsS.below k1 hb) hok
  obtain ⟨s, n, hs⟩ : ∃ s n, shotV ⟨mem, tab, glob, calls.map calOf, host⟩ = .tuple #[.string s, .int .i64 n] := by
    unfold shotV
    split
    · exact ⟨_, _, rfl⟩
    · exact ⟨_, _, rfl⟩
  rw [hs] at p1 p2
  have P1 := hid p1
  have P2 := hid p2
  obtain ⟨aot, capt, rfl, -⟩ := id t1
  obtain ⟨aog, capg, rfl, -⟩ := id g1
  obtain ⟨css, -, ⟨aoc, capc, rfl, -⟩, -⟩ := id k1
  clear p1 p2 hs hok h3 h4 h5 t1 t2 g1 g2 k1 k2 hB
  generalize (calls.map calOf).length = nc at *
  generalize tab.length = nt at *
  generalize glob.length = ng at *
  simp only [List.append_nil, List.singleton_append, List.cons_append, List.nil_append] at *
  go_enter Try.func13, Try.ntmps13
  go_wp2_with fail
  have hb0 : Below W.heap.size W ((W.alloc (.cells #[.string mem, .slice aot nt capt, .slice aog ng capg] 103)).alloc (.cells #[.slice aoc nc capc, .int .i64 host] 106)) := ((Below.refl _ _).alloc (Nat.le_refl _) _).alloc (by simp) _
  refine (P1.out _ hb0).mono ?_
  rintro e w1 ⟨rfl, b1⟩
  have q : Blk w1 W.heap.size 103 _ := ((Blk.new W #[.string mem, .slice aot nt capt, .slice aog ng capg] 103 _ rfl).alloc _).below b1
  have r : Blk w1 (W.heap.size + 1) 106 _ := (Blk.new (W.alloc (.cells #[.string mem, .slice aot nt capt, .slice aog ng capg] 103)) #[.slice aoc nc capc, .int .i64 host] 106 _ (by simp)).below b1
  have q0 := q.cell (i := 0) rfl
  have q1 := q.cell (i := 1) rfl
  have q2 := q.cell (i := 2) rfl
  have r0 := r.cell (i := 0) rfl
  have r1 := r.cell (i := 1) rfl
  have hb1 := hb0.trans (b1.mono hb0.size)
  clear q r b1 hb0
  go_wp2_with fail
  refine (P2.out _ hb1).mono ?_
  rintro e w2 ⟨rfl, b2⟩
  have hb2 := hb1.trans (b2.mono hb1.size)
  clear q0 q1 q2 r0 r1 b2 hb1
  go_wp2_with fail
  go_ret
  exact ⟨rfl, hb2⟩
end Go.Proofs.Ytbjhedfgnocflaa
