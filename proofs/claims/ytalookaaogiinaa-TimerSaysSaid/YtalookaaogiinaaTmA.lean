/-
  TIMERS, the program's clock: its memory; the methods of its line. Conditions: the object's own invariant.
-/
import Derived.Test.YtalookaaogiinaaTmO
import Derived.Test.YtalookaaogiinaaPart
import Derived.Test.YtalookaaogiinaaStep
import Derived.Deep.RegionLaw
namespace Go.Proofs.Ytalookaaogiinaa
open Go.RowKit Go.Lib
attribute [local go_sem ↓] Go.wp_at_zero Go.wp_at_succ

def encTm (x : Tm) : List Value := [.int .i64 x.id, .int .i64 x.due, .int .i64 x.turn]
theorem encTm_len (x : Tm) : (encTm x).length = 3 := rfl
theorem encTm_one (xs : List Tm) : ∀ c ∈ xs.flatMap encTm, c.oneCell' = true := by
  intro c hc
  obtain ⟨x, _, hx⟩ := List.mem_flatMap.1 hc
  simp only [encTm, List.mem_cons, List.not_mem_nil, or_false] at hx
  rcases hx with rfl | rfl | rfl <;> rfl
theorem info_Tm : (Try.prog.info? 108).map (fun i => (i.zero, i.size, i.bytes)) = some (some (.agg #[.int .i64 0, .int .i64 0, .int .i64 0]), 3, 24) := by kernel_rfl
theorem elem_Tm : Elem Try.prog 101 108 (.agg #[.int .i64 0, .int .i64 0, .int .i64 0]) 3 24 := ⟨Try.underlying101, info_Tm, rfl, by decide⟩
/-- where one of a row of threes lies -/
theorem tm_at {w : World} {base : Nat} {v : Value} {l : List Tm} (h : w.ownsRow base 108 3 v l.length (l.flatMap encTm)) (h0 : 0 < l.length) :
    ∃ g cap, v = .slice (some ⟨g, 0, none⟩) l.length cap ∧ l.length ≤ cap ∧ cap ≤ 9223372036854775807 ∧ (∀ k (hk : k < l.length), w.cell? ⟨g, k * 3, none⟩ = some (.int .i64 l[k].id) ∧ w.cell? ⟨g, k * 3 + 1, none⟩ = some (.int .i64 l[k].due) ∧ w.cell? ⟨g, k * 3 + 2, none⟩ = some (.int .i64 l[k].turn)) ∧ (∀ i, w.frozen? ⟨g, i, none⟩ = false) := by
  have hl : Lk encTm w v l := own_sl h
  obtain ⟨g, cap, rfl, hg, hlt, h1, h2⟩ := own_head h h0
  obtain ⟨_, _, _, hc⟩ := lk_cells hl encTm_len (by decide) h0
  refine ⟨g, cap, rfl, h1, h2, fun k hk => ?_, fun i => ?_⟩
  · have c0 := hc k hk 0 (by decide)
    have c1 := hc k hk 1 (by decide)
    have c2 := hc k hk 2 (by decide)
    simp only [Nat.zero_add, Nat.add_zero] at c0 c1 c2
    exact ⟨c0, c1, c2⟩
  · rcases h.2 with ⟨e, _⟩ | ⟨g', cap', cur, e, _, hh, _⟩
    · simp at e
    · simp only [Value.slice.injEq, Option.some.injEq, Addr.mk.injEq, and_true, true_and] at e
      obtain ⟨rfl, _⟩ := e
      simp [World.frozen?, hh]
set_option maxRecDepth 100000 in
set_option maxHeartbeats 1000000 in
theorem less_any (w : World) (base : Nat) (v : Value) (l : List Tm) (i j : Nat) (hi : i < l.length) (hj : j < l.length) (h : w.ownsRow base 108 3 v l.length (l.flatMap encTm)) :
    Calls Try.prog 103 #[v, .int .i64 i, .int .i64 j] w fun e w' => e = .returned (.bool (lessT (at0 l i) (at0 l j))) ∧ Below w.heap.size w w' := by
  obtain ⟨g, cap, rfl, hc1, hc2, hc, -⟩ := tm_at h (by omega)
  obtain ⟨-, a1, a2⟩ := hc i hi
  obtain ⟨-, b1, b2⟩ := hc j hj
  rw [at_eq hi, at_eq hj]
  have hii : (i : Int) < (l.length : Int) := by omega
  have hjj : (j : Int) < (l.length : Int) := by omega
  clear hc h
  generalize l[i] = x at *
  generalize l[j] = y at *
  obtain ⟨xi, xd, xt⟩ := x
  obtain ⟨yi, yd, yt⟩ := y
  simp only at a1 a2 b1 b2
  have a1d : w.drew.cell? ⟨g, i * 3 + 1, none⟩ = some (.int .i64 xd) := a1
  have b1d : w.drew.cell? ⟨g, j * 3 + 1, none⟩ = some (.int .i64 yd) := b1
  by_cases hd : xd = yd
  · have HR := hid (show lessT ⟨xi, xd, xt⟩ ⟨yi, yd, yt⟩ = decide (xt < yt) from by unfold lessT; rw [if_pos hd])
    have e1 : (xd != yd) = false := by simpa using hd
    clear hd
    go_enter Try.func103, Try.ntmps103
    go_wp2_with fail
    go_quiet (fail)
    have a2d : (w.drewN nq).cell? ⟨g, i * 3 + 2, none⟩ = some (.int .i64 xt) := a2
    have b2d : (w.drewN nq).cell? ⟨g, j * 3 + 2, none⟩ = some (.int .i64 yt) := b2
    have a2e : (w.drewN nq).drew.cell? ⟨g, i * 3 + 2, none⟩ = some (.int .i64 xt) := a2
    have b2e : (w.drewN nq).drew.cell? ⟨g, j * 3 + 2, none⟩ = some (.int .i64 yt) := b2
    have HB := hid (show Below w.heap.size w (w.drewN nq) from drew_bel' (Below.refl _ _))
    generalize w.drewN nq = w1 at *
    go_wp2_with fail
    go_quiet (fail)
    go_wp2_with fail
    go_ret
    exact ⟨(by rw [HR.out]; rfl), drew_bel' HB.out⟩
  · have HR := hid (show lessT ⟨xi, xd, xt⟩ ⟨yi, yd, yt⟩ = decide (xd < yd) from by unfold lessT; rw [if_neg hd])
    have e1 : (xd != yd) = true := by simpa using hd
    clear hd
    go_enter Try.func103, Try.ntmps103
    go_wp2_with fail
    go_quiet (fail)
    have a2d : (w.drewN nq).cell? ⟨g, i * 3 + 1, none⟩ = some (.int .i64 xd) := a1
    have b2d : (w.drewN nq).cell? ⟨g, j * 3 + 1, none⟩ = some (.int .i64 yd) := b1
    have a2e : (w.drewN nq).drew.cell? ⟨g, i * 3 + 1, none⟩ = some (.int .i64 xd) := a1
    have b2e : (w.drewN nq).drew.cell? ⟨g, j * 3 + 1, none⟩ = some (.int .i64 yd) := b1
    have HB := hid (show Below w.heap.size w (w.drewN nq) from drew_bel' (Below.refl _ _))
    generalize w.drewN nq = w1 at *
    go_wp2_with fail
    go_quiet (fail)
    go_wp2_with fail
    go_ret
    exact ⟨(by rw [HR.out]; rfl), drew_bel' HB.out⟩
/-- one cell of a row of threes is turned -/
theorem own_set3 {w : World} {base : Nat} {e : TypeId} {g n cap : Nat} {xs : List Value} (h : w.ownsRow base e 3 (.slice (some ⟨g, 0, none⟩) n cap) n xs) (i : Nat) (a : Value) (_hi : i < n * 3) : (w.setCell ⟨g, i, none⟩ a).ownsRow base e 3 (.slice (some ⟨g, 0, none⟩) n cap) n (xs.set i a) := by
  obtain ⟨h1, h2⟩ := h
  refine ⟨by rw [List.length_set]; exact h1, ?_⟩
  rcases h2 with ⟨h2, _⟩ | ⟨g', cap', cur, hv, hg, hh, hn, hc, hs, ht⟩
  · simp at h2
  simp only [Value.slice.injEq, Option.some.injEq, Addr.mk.injEq, and_true, true_and] at hv
  obtain ⟨rfl, rfl⟩ := hv
  refine .inr ⟨g, cap, _, rfl, hg, heap_setCell_same w g i cur e a hh, hn, hc, by simpa using hs, ?_⟩
  rw [← ht]
  simp [List.take_set]
theorem flat_setT (l : List Tm) (k : Nat) (x : Tm) (hk : k < l.length) : (l.set k x).flatMap encTm = (((l.flatMap encTm).set (k * 3) (.int .i64 x.id)).set (k * 3 + 1) (.int .i64 x.due)).set (k * 3 + 2) (.int .i64 x.turn) := by
  induction l generalizing k with
  | nil => simp at hk
  | cons y l ih =>
    cases k with
    | zero => rfl
    | succ k =>
      simp only [List.length_cons] at hk
      rw [List.set_cons_succ, List.flatMap_cons, ih k (by omega), List.flatMap_cons]
      rw [show (k + 1) * 3 = k * 3 + 3 by omega]
      rw [List.set_append_right _ _ (by rw [encTm_len]; omega), List.set_append_right _ _ (by rw [encTm_len]; omega), List.set_append_right _ _ (by rw [encTm_len]; omega)]
      simp only [encTm_len, show k * 3 + 3 - 3 = k * 3 by omega, show k * 3 + 3 + 1 - 3 = k * 3 + 1 by omega, show k * 3 + 3 + 2 - 3 = k * 3 + 2 by omega]
theorem own_setT {w : World} {base g n cap : Nat} {l : List Tm} (h : w.ownsRow base 108 3 (.slice (some ⟨g, 0, none⟩) n cap) n (l.flatMap encTm)) (hn : n = l.length) (k : Nat) (x : Tm) (hk : k < l.length) :
    (((w.setCell ⟨g, k * 3, none⟩ (.int .i64 x.id)).setCell ⟨g, k * 3 + 1, none⟩ (.int .i64 x.due)).setCell ⟨g, k * 3 + 2, none⟩ (.int .i64 x.turn)).ownsRow base 108 3 (.slice (some ⟨g, 0, none⟩) n cap) n ((l.set k x).flatMap encTm) := by
  rw [flat_setT l k x hk]
  exact own_set3 (own_set3 (own_set3 h _ _ (by omega)) _ _ (by omega)) _ _ (by omega)
abbrev swapW (w : World) (g i j : Nat) (x y : Tm) : World := (((((((w.setCell ⟨g, i * 3, none⟩ (.int .i64 y.id)).setCell ⟨g, i * 3 + 1, none⟩ (.int .i64 y.due)).setCell ⟨g, i * 3 + 2, none⟩ (.int .i64 y.turn)).setCell ⟨g, j * 3, none⟩ (.int .i64 x.id)).setCell ⟨g, j * 3 + 1, none⟩ (.int .i64 x.due)).setCell ⟨g, j * 3 + 2, none⟩ (.int .i64 x.turn)).drew)
theorem own_swap {w : World} {base g cap : Nat} {l m : List Tm} {i j : Nat} {x y : Tm} (h : w.ownsRow base 108 3 (.slice (some ⟨g, 0, none⟩) l.length cap) l.length (l.flatMap encTm)) (hi : i < l.length) (hj : j < l.length) (hs : m = (l.set i y).set j x) :
    (swapW w g i j x y).ownsRow base 108 3 (.slice (some ⟨g, 0, none⟩) l.length cap) l.length (m.flatMap encTm) := by
  subst hs
  have h1 := own_setT h rfl i y hi
  have h2 := own_setT h1 (by simp) j x (by simpa using hj)
  exact World.ownsRow.drew h2
theorem touch_swap {w : World} {g i j : Nat} {x y : Tm} : Touch (· = g) w (swapW w g i j x y) := by
  have h1 : Touch (· = g) w (w.setCell ⟨g, i * 3, none⟩ (.int .i64 y.id)) := Touch.setCell (F := fun x => x = g) (a := ⟨g, i * 3, none⟩) rfl _
  have h2 := h1.put (a := ⟨g, i * 3 + 1, none⟩) rfl (.int .i64 y.due)
  have h3 := h2.put (a := ⟨g, i * 3 + 2, none⟩) rfl (.int .i64 y.turn)
  have h4 := h3.put (a := ⟨g, j * 3, none⟩) rfl (.int .i64 x.id)
  have h5 := h4.put (a := ⟨g, j * 3 + 1, none⟩) rfl (.int .i64 x.due)
  have h6 := h5.put (a := ⟨g, j * 3 + 2, none⟩) rfl (.int .i64 x.turn)
  exact h6.drew1
set_option maxRecDepth 100000 in
set_option maxHeartbeats 4000000 in
theorem swap_any (w : World) (base g cap : Nat) (l : List Tm) (i j : Nat) (hi : i < l.length) (hj : j < l.length) (h : w.ownsRow base 108 3 (.slice (some ⟨g, 0, none⟩) l.length cap) l.length (l.flatMap encTm)) :
    Calls Try.prog 104 #[.slice (some ⟨g, 0, none⟩) l.length cap, .int .i64 i, .int .i64 j] w fun e w' => e = .returned (.tuple #[]) ∧ w'.ownsRow base 108 3 (.slice (some ⟨g, 0, none⟩) l.length cap) l.length ((swapL l i j).flatMap encTm) ∧ Touch (· = g) w w' := by
  obtain ⟨g', cap', hv, hc1, hc2, hc, hf⟩ := tm_at h (by omega)
  simp only [Value.slice.injEq, Option.some.injEq, Addr.mk.injEq, and_true, true_and] at hv
  obtain ⟨rfl, rfl⟩ := hv
  have H := hid h
  obtain ⟨a0, a1, a2⟩ := hc i hi
  obtain ⟨b0, b1, b2⟩ := hc j hj
  have hii : (i : Int) < (l.length : Int) := by omega
  have hjj : (j : Int) < (l.length : Int) := by omega
  have HI := hid hi
  have HJ := hid hj
  have HS := hid (show swapL l i j = (l.set i l[j]).set j l[i] from by unfold swapL; rw [at_eq hi, at_eq hj]; rfl)
  generalize l[i] = x at *
  generalize l[j] = y at *
  clear hc h
  have a0d : w.drew.cell? ⟨g, i * 3, none⟩ = some (.int .i64 x.id) := a0
  have a1d : w.drew.cell? ⟨g, i * 3 + 1, none⟩ = some (.int .i64 x.due) := a1
  have a2d : w.drew.cell? ⟨g, i * 3 + 2, none⟩ = some (.int .i64 x.turn) := a2
  have b0d : w.drew.cell? ⟨g, j * 3, none⟩ = some (.int .i64 y.id) := b0
  have b1d : w.drew.cell? ⟨g, j * 3 + 1, none⟩ = some (.int .i64 y.due) := b1
  have b2d : w.drew.cell? ⟨g, j * 3 + 2, none⟩ = some (.int .i64 y.turn) := b2
  have hfd : ∀ i, w.drew.frozen? ⟨g, i, none⟩ = false := hf
  by_cases hij : i = j
  · subst hij
    clear b0 b1 b2 b0d b1d b2d hjj HJ
    have HSS := hid (show swapL l i i = (l.set i x).set i x from by rw [HS.out]; simp)
    go_enter Try.func104, Try.ntmps104
    go_region_law (fail)
    all_goals
      go_wp2_with fail
      go_end0
      exact ⟨rfl, own_swap H.out HI.out HI.out HSS.out, touch_swap⟩
  · have n1 : ¬ (i * 3 = j * 3) := by omega
    go_enter Try.func104, Try.ntmps104
    go_region_law (fail)
    all_goals
      go_wp2_with fail
      go_end0
      exact ⟨rfl, own_swap H.out HI.out HJ.out HS.out, touch_swap⟩
set_option maxRecDepth 100000 in
theorem info_less : ((Try.prog.info? 106).bind (fun i => i.methods.find? (fun m => m.name == "Less"))).map (fun m => (m.path, m.func)) = some (#[], some (103, false)) := by kernel_rfl
theorem info_swap : ((Try.prog.info? 106).bind (fun i => i.methods.find? (fun m => m.name == "Swap"))).map (fun m => (m.path, m.func)) = some (#[], some (104, false)) := by kernel_rfl
theorem info_len : ((Try.prog.info? 106).bind (fun i => i.methods.find? (fun m => m.name == "Len"))).map (fun m => (m.path, m.func)) = some (#[], some (102, false)) := by kernel_rfl
theorem meth_push (w : World) (B : Nat) : (method (Try.prog.types.size + Made.depth) 106 (.pointer (some ⟨B, 2, none⟩)) "Push").run Try.prog w = .ok (106, .pointer (some ⟨B, 2, none⟩)) w := by kernel_rfl
theorem meth_pop (w : World) (B : Nat) : (method (Try.prog.types.size + Made.depth) 106 (.pointer (some ⟨B, 2, none⟩)) "Pop").run Try.prog w = .ok (105, .pointer (some ⟨B, 2, none⟩)) w := by kernel_rfl
set_option maxRecDepth 100000 in
/-- a promoted method of the line, called through an interface on its address: the receiver is loaded -/
theorem meth_line {f : FuncId} {name : String} (hi : ((Try.prog.info? 106).bind (fun i => i.methods.find? (fun m => m.name == name))).map (fun m => (m.path, m.func)) = some (#[], some (f, false))) (n : Nat) (w : World) (B : Nat) (v : Value) (hc : w.cell? ⟨B, 2, none⟩ = some v) : (method (n + 1) 106 (.pointer (some ⟨B, 2, none⟩)) name).run Try.prog w = .ok (f, v) w := by
  cases h1 : Try.prog.info? 106 with
  | none => rw [h1] at hi; simp at hi
  | some i =>
    rw [h1] at hi
    simp only [Option.bind_some] at hi
    cases h2 : i.methods.find? (fun m => m.name == name) with
    | none => rw [h2] at hi; simp at hi
    | some m =>
      rw [h2] at hi
      simp only [Option.map_some, Option.some.injEq, Prod.mk.injEq] at hi
      obtain ⟨h3, h4⟩ := hi
      have hw : ∀ (x y : ByteArray) (w : World), (Builtin.ssaWrapNilChk_ #[106] 106 #[.pointer (some ⟨B, 2, none⟩), .string x, .string y]).run Try.prog w = .ok (.pointer (some ⟨B, 2, none⟩)) w := fun x y w => by kernel_rfl
      have hl : (loadVar 101 ⟨B, 2, none⟩).run Try.prog w = .ok v w := by
        simp [loadVar, isAgg, run_underlying Try.underlying101, hc, go_sem, Result.andThen]
      unfold method
      simp [typeInfo, h1, h2, h3, h4, follow, receiverAt, Place.get, run_underlying Try.underlying106, hw, strVal, asAddr, hl, Result.andThen]
end Go.Proofs.Ytalookaaogiinaa
