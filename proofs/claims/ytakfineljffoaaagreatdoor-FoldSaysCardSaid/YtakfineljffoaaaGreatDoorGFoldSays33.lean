/-
  FOLDED BODIES: the program's rule choice. No condition.
-/
import Derived.Test.YtakfineljffoaaaGreatDoorGFoldSays31
import Derived.Test.YtakfineljffoaaaGreatDoorGFoldSays32
namespace Go.Proofs.YtakfineljffoaaaGreatDoor
open Go.RowKit Go.Lib

theorem OwnF.new {W : World} (w : World) (base : Nat) (c : Array Value) (x : It) (m : Nat) (hI : ItAt W c.toList x) (hm : m = w.heap.size) (hb : base ≤ w.heap.size) : OwnF W (w.alloc (.cells c 97)) base (.slice (some ⟨m, 0, none⟩) 1 1) [x] := by
 subst hm
 have h4 : c.toList.length = 4 := by
  obtain ⟨u, h, -⟩ := hI
  rw [h]; rfl
 refine ⟨[c.toList], ⟨rfl, fun i h1 h2 => ?_⟩, by simpa using h4, .inr ⟨_, 1, c, rfl, hb, Blk.new w c _ _ rfl, Nat.le_refl _, by decide, by simpa using h4, ?_⟩⟩
 ·obtain rfl : i = 0 := by simp at h1; omega
  exact hI
 ·simp only [List.length_cons, List.length_nil, List.flatten_cons, List.flatten_nil, List.append_nil]
  rw [List.take_of_length_le (by omega)]
theorem OwnF.below {W w w' : World} {base : Nat} {v : Value} {l : List It} (h : OwnF W w base v l) (hb : Below w.heap.size w w') : OwnF W w' base v l := by
 obtain ⟨css, h1, h2⟩ := h
 exact ⟨css, h1, own_below h2 hb⟩
theorem OwnF.set {W w : World} {base : Nat} {v : Value} {l : List It} (h : OwnF W w base v l) {a : Addr} (ha : a.block < base) (u : Value) : OwnF W (w.setCell a u) base v l := by
 obtain ⟨css, h1, h2⟩ := h
 exact ⟨css, h1, ownsRow_setCell_below h2 ha u⟩
theorem OwnF.sl {W w : World} {base : Nat} {v : Value} {l : List It} (h : OwnF W w base v l) : ∃ ao cap, v = .slice ao l.length cap := by
 obtain ⟨css, h1, h2⟩ := h
 obtain ⟨ao, cap, rfl, -⟩ := own_sl h2
 exact ⟨ao, cap, rfl⟩
theorem app_its {ops : Array Oper} {rest : List Oper} {o : Oper} {a : Act} {Q : Exit → Act → World → Prop} {W w : World} {base : Nat} {v u : Value} {l m : List It} {ds : List (List Value)} (hgd : o.guard = none) (s x : Operand)
  (ho : o.op = .call { callee := .builtin .append, args := #[s, x], argTypes := #[36, 36] })
  (hs : a.eval s = v) (hx : a.eval x = u) (hown : OwnF W w base v l) (hd : Its0 W ds m) (hu : Sl w u m.length ds.flatten)
  (hlen : l.length + m.length ≤ 1000) (hbase : base ≤ w.heap.size)
  (h : ∀ v' w', OwnF W w' base v' (l ++ m) → Below base w w' → slLen v' = l.length + m.length → wpList Tryz.prog ops Q rest (a.put o.dst v') w') : wpList Tryz.prog ops Q (o :: rest) a w := by
 obtain ⟨cs, hc, hr⟩ := hown
 refine app_any elem_insv hgd s x ho hs hx hr hu hd.len hd.one (by omega) (by omega) hbase (fun v' w' h1 h2 _ => ?_)
 refine h v' w' ⟨cs ++ ds, hc.append hd, ?_⟩ h2 ?_
 ·rw [List.length_append, List.flatten_append]
  exact h1
 ·obtain ⟨ao, cap, rfl, _⟩ := own_sl h1
  rfl
theorem step_bod {ops : Array Oper} {o : Oper} {a : Act} {K : Act → World → Prop} {Q : Exit → Act → World → Prop} {EE : Prop} {W w : World} {base : Nat} {v u : Value} {l m : List It} (hgd : o.guard = none) (s x : Operand)
  (ho : o.op = .call { callee := .builtin .append, args := #[s, x], argTypes := #[36, 36] })
  (hs : a.eval s = v) (hx : a.eval x = u) (hown : OwnF W w base v l) (hu : BodS W u m) (hW : Below W.heap.size W w)
  (hlen : l.length + m.length ≤ 1000) (hbase : base ≤ w.heap.size)
  (h : ∀ v' w', OwnF W w' base v' (l ++ m) → Below base w w' → slLen v' = l.length + m.length → K (a.put o.dst v') w') : if Region.wanted o (yielded ops a.tmps) = true then Oper.wp Tryz.prog o a w K Q else EE := by
 obtain ⟨cs, hc, hr⟩ := hown
 obtain ⟨ds', hd', hsl'⟩ := hu.its
 have hq : Sl w u m.length ds'.flatten := hsl'.below hW
 refine step_any elem_insv hgd s x ho hs hx hr hq hd'.len hd'.one (by omega) (by omega) hbase (fun v' w' h1 h2 _ => ?_)
 refine h v' w' ⟨cs ++ ds', hc.append hd', ?_⟩ h2 ?_
 ·rw [List.length_append, List.flatten_append]
  exact h1
 ·obtain ⟨ao, cap, rfl, _⟩ := own_sl h1
  rfl
theorem bel_tr2 {w X w1 : World} {B : Nat} (h : Below w.heap.size w X) (g : Below B X w1) (hB : w.heap.size ≤ B) : Below w.heap.size w w1 := h.trans (g.mono hB)
theorem Its0.of1 {w : World} {cs : List Value} {x : It} (h : ItAt w cs x) : Its0 w [cs] [x] := ⟨rfl, fun i h1 h2 => by
 have hi : i = 0 := Nat.lt_one_iff.1 h1
 subst hi
 exact h⟩
theorem headI_at (w : World) (y : It) : ItAt w [.int .u8 2, .int .i64 y.A, .int .i64 0, .slice none 0 0] (headI y) := ⟨_, rfl, ⟨none, 0, rfl, Nat.le_refl _, by decide, by simp, .inl rfl⟩⟩
theorem BodS.at {w : World} {b off n cap : Nat} {l : List It} (h : BodS w (.slice (some ⟨b, off, none⟩) n cap) l) (k : Nat) (hk : k < l.length) : ∃ u, ItAt w [.int .u8 l[k].op, .int .i64 l[k].A, .int .i64 l[k].B, u] l[k] ∧ ∀ wx, Below w.heap.size w wx →
  wx.cell? ⟨b, off + k * 4, none⟩ = some (.int .u8 l[k].op) ∧ wx.cell? ⟨b, off + k * 4 + 1, none⟩ = some (.int .i64 l[k].A) ∧ wx.cell? ⟨b, off + k * 4 + 2, none⟩ = some (.int .i64 l[k].B) ∧ wx.cell? ⟨b, off + k * 4 + 3, none⟩ = some u := by
 obtain ⟨b', off', cap', u, hv, hc1, hc2, c0, c1, c2, c3, hto⟩ := h.open k hk
 simp only [Value.slice.injEq, Option.some.injEq, Addr.mk.injEq, and_true] at hv
 obtain ⟨⟨rfl, rfl⟩, rfl, rfl⟩ := hv
 exact ⟨u, ⟨u, rfl, hto⟩, fun wx hb => ⟨cell_below hb c0, cell_below hb c1, cell_below hb c2, cell_below hb c3⟩⟩
theorem cho_bounds {N O n : Nat} (h1 : N ≤ n - 1) (h2 : O < N) (h3 : n - 1 ≤ 200) : wrap64 (1 + (N : Int)) = 1 + (N : Int) ∧ IntKind.i64.wrap (1 + (N : Int)) = 1 + (N : Int) ∧ IntKind.i64.wrap ((O : Int) + 1) = (O : Int) + 1 ∧ (O : Int) < ((n - 1 : Nat) : Int) ∧ (0 : Int) < ((n - 1 : Nat) : Int) ∧ O < n - 1 ∧ 0 < n - 1 := by
 refine ⟨by unfold wrap64; omega, IntWalk.i64_in _ (by omega), IntWalk.i64_in _ (by omega), by omega, by omega, by omega, by omega⟩
theorem cho_bounds2 {N O n : Nat} (h1 : N ≤ n - 1) (h2 : O < N) (h3 : n - 1 ≤ 200) : wrap64 ((N : Int) - 1) = ((N - 1 : Nat) : Int) ∧ ((N - 1 : Nat) : Int) < ((n - 1 : Nat) : Int) ∧ N - 1 < n - 1 := ⟨by unfold wrap64; omega, by omega, by omega⟩
theorem else_at {l : List It} (h : othM l < l.length) : isElse l ↔ l[othM l].op = 5 := by
 unfold isElse
 rw [List.drop_eq_getElem_cons h]
 simp only [List.head?_cons, Option.map_some, Option.some.injEq]

set_option maxRecDepth 100000 in
set_option maxHeartbeats 4000000 in
theorem choice_any : RuleP 72 r7 := by
 intro w v x t k st hok hrun _ h h200
 rcases t with _ | ⟨y, r⟩
 ·have g0 := hok
  obtain ⟨b, off, n, cap, rfl, hn, hc1, hc2, u, hcell⟩ := h.one
  have HC := hid hcell
  have hp : 0 < n := by omega
  have hq : (0 : Int) < (n : Int) := by omega
  have hq2 : (n : Int) < 2 := by rw [hn]; simp
  have HG := hid (fun w' nv => show Gives w' 0 nv false (r7 [x]) from rfl)
  clear hn hcell h hrun hok
  go_enter Tryz.func72, Tryz.ntmps72
  go_wp2_with fail
  refine bodyPost_ret (v := .tuple #[.agg #[.int .i64 0, .slice none 0 0], .bool false]) (by simp [results, Tryz.results72, go_sem]) rfl ?_
  exact ⟨_, _, _, _, _, rfl, by (repeat (first | exact Below.refl _ _ | assumption | refine bel_al ?_ _ | refine Below.drew ?_ | refine bel_dn ?_ _ | refine bel_set ?_ (Nat.le_refl _) _)), HG.out _ _⟩
 ·have g0 := hok
  obtain ⟨b, off, n, cap, rfl, hn, hc1, hc2, u, hcell⟩ := h.one
  obtain ⟨u2, hcell2⟩ := h.second
  have HC := hid (fun wx hb => show _ ∧ _ from ⟨hcell wx hb, hcell2 wx hb⟩)
  have hp : 0 < n := by omega
  have hp1 : 1 < n := by rw [hn]; simp
  have hq : (0 : Int) < (n : Int) := by omega
  have hq1 : (1 : Int) < (n : Int) := by omega
  have hq2 : ¬ (n : Int) < 2 := by omega
  have HN2 := hid (fun w => isNumber_any w x.op x.A x.B u)
  clear g0
  by_cases g1 : x.op = 65
  ·rw [show decide (x.op = 65) = true from decide_eq_true g1] at HN2
   by_cases gy : y.op = 4
   ·have e4 : ((y.op : Int) == 4) = true := opT gy
    have hr2 : run (y :: r) (k :: st) = some [] := by rw [run_flat (flatI (by omega))] at hrun; exact hrun
    obtain ⟨-, hN2, hNl, hO1, hON, hnE, hE⟩ := upt_is (.inr (.inr gy)) hr2
    clear hr2
    obtain ⟨o, ho, hsl⟩ := run_lo elem_insv b off n cap 1 .i64 1 rfl (by omega)
    have HB1 := h.drop 1 (by simp) ho
    simp only [List.drop_succ_cons, List.drop_zero] at HB1
    have hl1 : (y :: r).length ≤ 200 := by simp only [List.length_cons] at h200 ⊢; omega
    have hl0 : (y :: r).length = n - 1 := by rw [hn]; simp
    have HB := hid HB1
    have HSp := hid (fun wx (hb : Below w.heap.size w wx) => span_any wx _ _ (HB1.below hb) hl1)
    have HOt := hid (fun wx (hb : Below w.heap.size w wx) => other_any wx _ _ (HB1.below hb) hl1 (by simp))
    have hOl : othM (y :: r) < (y :: r).length := by omega
    have HE := hid (else_at hOl)
    obtain ⟨uo, -, hco⟩ := HB1.at (othM (y :: r)) hOl
    have HCO := hid hco
    have HR := hid (show r7 (x :: y :: r) = some (choM x y r) from if_pos ⟨g1, gy⟩)
    obtain ⟨u4, hc4⟩ : ∃ u4, ∀ wx, Below w.heap.size w wx → wx.cell? ⟨b, o, none⟩ = some (.int .u8 y.op) ∧ wx.cell? ⟨b, o + 1, none⟩ = some (.int .i64 y.A) ∧ wx.cell? ⟨b, o + 2, none⟩ = some (.int .i64 y.B) ∧ wx.cell? ⟨b, o + 3, none⟩ = some u4 := by
     obtain ⟨b2, o2, n2, c2, hv, -, -, -, u4, hc⟩ := HB1.one
     simp only [Value.slice.injEq, Option.some.injEq, Addr.mk.injEq, and_true] at hv
     obtain ⟨⟨rfl, rfl⟩, -, -⟩ := hv
     exact ⟨u4, hc⟩
    have HC4 := hid hc4
    have hNc : spanM (y :: r) ≤ n - 1 := by omega
    have hnc : n - 1 ≤ cap - 1 := by omega
    have hl200 : n - 1 ≤ 200 := by omega
    have hM := hid (show spanM (y :: r) - 1 < (y :: r).length by omega)
    by_cases hA : x.A = 0
    ·have eA : (x.A != 0) = false := by simp [hA]
     by_cases hels : isElse (y :: r)
     ·have hz : (y :: r)[othM (y :: r)].op = 5 := HE.out.1 hels
      have e5 : (((y :: r)[othM (y :: r)].op : Int) == 5) = true := opT hz
      generalize (y :: r)[othM (y :: r)] = z at *
      obtain ⟨om, hom, hsm⟩ := run_mid elem_insv b o (n - 1) (cap - 1) (othM (y :: r) + 1) (spanM (y :: r)) .i64 .i64 ((othM (y :: r) : Int) + 1) (spanM (y :: r) : Int) (by simp) rfl (by omega) (by omega)
      have HP := hid (HB1.part (othM (y :: r) + 1) (spanM (y :: r)) (by omega) hNl hom)
      have HG := hid (fun w' nv (hB : BodS w' nv (headI y :: ((y :: r).take (spanM (y :: r))).drop (othM (y :: r) + 1))) => show Gives w' (1 + (spanM (y :: r) : Int)) nv true (r7 (x :: y :: r)) from by
       rw [HR.out, show choM x y r = (1 + spanM (y :: r), headI y :: ((y :: r).take (spanM (y :: r))).drop (othM (y :: r) + 1)) from by unfold choM; rw [if_neg (by simpa using hA)]; exact if_pos hels]
       exact ⟨rfl, by simp, hB⟩)
      have hlP := hid (show (((y :: r).take (spanM (y :: r))).drop (othM (y :: r) + 1)).length ≤ 200 by rw [List.length_drop, List.length_take]; omega)
      generalize ((y :: r).take (spanM (y :: r))).drop (othM (y :: r) + 1) = ps at *
      clear hels HE HR hM hom
      generalize hNN : spanM (y :: r) = N at *
      generalize hOO : othM (y :: r) = O at *
      obtain ⟨hwN, hwN2, hwO, hiO, hi0, hiN, hi1⟩ := cho_bounds hNc hON hl200
      clear hn hcell hcell2 h hrun hok h200 hco hc4 hNl hl0 ho HB1 hN2 hO1 hON hnE hE hl1 hOl hNc hnc hl200 hNN hOO g1 gy
      clear hA hz
      have hb0 : Below w.heap.size w (w.alloc (.cells #[.int .i64 0, .slice none 0 0] 127)) := by (repeat (first | exact Below.refl _ _ | assumption | refine bel_al ?_ _ | refine Below.drew ?_ | refine bel_dn ?_ _ | refine bel_set ?_ (Nat.le_refl _) _))
      obtain ⟨⟨c0, c1, c2, c3⟩, d0, d1, d2, d3⟩ := HC.out _ hb0
      go_enter Tryz.func72, Tryz.ntmps72
      go_wp2_with (first | (go_at_call 103; refine (HN2.out _).mono ?_; rintro r1 w1 ⟨rfl, g1⟩; have s1 := bel_lt g1; have b1 := bel_tr hb0 g1; obtain ⟨x0, x1, xf⟩ := turn_blk g1; obtain ⟨⟨c0, c1, c2, c3⟩, d0, d1, d2, d3⟩ := HC.out _ b1) | (go_at_call 104; refine (HSp.out _ b1).mono ?_; rintro r2 w2 ⟨rfl, hb2⟩; have g2 := bel_tr g1 hb2; have b2 := bel_tr hb0 g2; clear hb2) | (go_at_call 105; refine (HOt.out _ b2).mono ?_; rintro r3 w3 ⟨rfl, hb3⟩; have g3 := bel_tr g2 hb3; clear hb3 x0 x1 xf c0 c1 c2 c3 d0 d1 d2 d3; have s3 := bel_lt g3; have b3 := bel_tr hb0 g3; obtain ⟨x0, x1, xf⟩ := turn_blk g3; obtain ⟨⟨c0, c1, c2, c3⟩, d0, d1, d2, d3⟩ := HC.out _ b3; obtain ⟨p0, p1, p2, p3⟩ := HC4.out _ b3; obtain ⟨q0, q1, q2, q3⟩ := HCO.out _ b3; have a1 := fun o => cell_alloc o c1; have a2 := fun o => cell_alloc o q0))
      have XH := hid (fun wx (hb : Below (w3.alloc (.cells #[.int .u8 2, .int .i64 y.A, .int .i64 0, .slice none 0 0] 97)).heap.size (w3.alloc (.cells #[.int .u8 2, .int .i64 y.A, .int .i64 0, .slice none 0 0] 97)) wx) => (Blk.new w3 #[.int .u8 2, .int .i64 y.A, .int .i64 0, .slice none 0 0] 97 _ rfl).below hb)
      refine wp_region_tail (S := (fun w' => Below (w3.alloc (.cells #[.int .u8 2, .int .i64 y.A, .int .i64 0, .slice none 0 0] 97)).heap.size (w3.alloc (.cells #[.int .u8 2, .int .i64 y.A, .int .i64 0, .slice none 0 0] 97)) w')) 10 (by kernel_rfl) (by kernel_rfl) ?_ (fun hHeld => ?_)
      ·(repeat (first | exact Below.refl _ _ | assumption | refine bel_al ?_ _ | refine Below.drew ?_ | refine bel_dn ?_ _ | refine bel_set ?_ (Nat.le_refl _) _))
      refine tk 0 ?_ rfl ?_ ?_
      rotate_left
      ·intro wy hSw; (try dsimp only at hSw); have XX := XH.out wy hSw; have t0 := XX.cell (i := 0) rfl; have t1 := XX.cell (i := 1) rfl; have t2 := XX.cell (i := 2) rfl; have t3 := XX.cell (i := 3) rfl; clear XX; (go_simp <;> with_reducible rfl)
      (try simp only [List.getElem_toArray, List.getElem_cons_zero, Act.put, List.setIfInBounds_toArray, List.set_cons_zero, List.set_cons_succ])
      refine tk 1 ?_ rfl ?_ ?_
      rotate_left
      ·intro wy hSw; (try dsimp only at hSw); have XX := XH.out wy hSw; have t0 := XX.cell (i := 0) rfl; have t1 := XX.cell (i := 1) rfl; have t2 := XX.cell (i := 2) rfl; have t3 := XX.cell (i := 3) rfl; clear XX; (go_simp <;> with_reducible rfl)
      (try simp only [List.getElem_toArray, List.getElem_cons_zero, List.getElem_cons_succ, Act.put, List.setIfInBounds_toArray, List.set_cons_zero, List.set_cons_succ])
      refine tk 2 ?_ rfl ?_ ?_
      rotate_left
      ·intro wy hSw; (try dsimp only at hSw); have XX := XH.out wy hSw; have t0 := XX.cell (i := 0) rfl; have t1 := XX.cell (i := 1) rfl; have t2 := XX.cell (i := 2) rfl; have t3 := XX.cell (i := 3) rfl; clear XX; (go_simp <;> with_reducible rfl)
      (try simp only [List.getElem_toArray, List.getElem_cons_zero, List.getElem_cons_succ, Act.put, List.setIfInBounds_toArray, List.set_cons_zero, List.set_cons_succ])
      refine tk 4 ?_ rfl ?_ ?_
      rotate_left
      ·intro wy hSw; (try dsimp only at hSw); have XX := XH.out wy hSw; have t0 := XX.cell (i := 0) rfl; have t1 := XX.cell (i := 1) rfl; have t2 := XX.cell (i := 2) rfl; have t3 := XX.cell (i := 3) rfl; clear XX; (go_simp <;> with_reducible rfl)
      (try simp only [List.getElem_toArray, List.getElem_cons_zero, List.getElem_cons_succ, Act.put, List.setIfInBounds_toArray, List.set_cons_zero, List.set_cons_succ])
      refine tk 5 ?_ rfl ?_ ?_
      rotate_left
      ·intro wy hSw; (try dsimp only at hSw); have XX := XH.out wy hSw; have t0 := XX.cell (i := 0) rfl; have t1 := XX.cell (i := 1) rfl; have t2 := XX.cell (i := 2) rfl; have t3 := XX.cell (i := 3) rfl; clear XX; (go_simp <;> with_reducible rfl)
      (try simp only [List.getElem_toArray, List.getElem_cons_zero, List.getElem_cons_succ, Act.put, List.setIfInBounds_toArray, List.set_cons_zero, List.set_cons_succ])
      refine tk 6 ?_ rfl ?_ ?_
      rotate_left
      ·intro wy hSw; (try dsimp only at hSw); have XX := XH.out wy hSw; have t0 := XX.cell (i := 0) rfl; have t1 := XX.cell (i := 1) rfl; have t2 := XX.cell (i := 2) rfl; have t3 := XX.cell (i := 3) rfl; clear XX; (go_simp <;> with_reducible rfl)
      (try simp only [List.getElem_toArray, List.getElem_cons_zero, List.getElem_cons_succ, Act.put, List.setIfInBounds_toArray, List.set_cons_zero, List.set_cons_succ])
      refine tk 7 ?_ rfl ?_ ?_
      rotate_left
      ·intro wy hSw; (try dsimp only at hSw); have XX := XH.out wy hSw; have t0 := XX.cell (i := 0) rfl; have t1 := XX.cell (i := 1) rfl; have t2 := XX.cell (i := 2) rfl; have t3 := XX.cell (i := 3) rfl; clear XX; (go_simp <;> with_reducible rfl)
      (try simp only [List.getElem_toArray, List.getElem_cons_zero, List.getElem_cons_succ, Act.put, List.setIfInBounds_toArray, List.set_cons_zero, List.set_cons_succ])
      refine tk 8 ?_ rfl ?_ ?_
      rotate_left
      ·intro wy hSw; (try dsimp only at hSw); have XX := XH.out wy hSw; have t0 := XX.cell (i := 0) rfl; have t1 := XX.cell (i := 1) rfl; have t2 := XX.cell (i := 2) rfl; have t3 := XX.cell (i := 3) rfl; clear XX; (go_simp <;> with_reducible rfl)
      (try simp only [List.getElem_toArray, List.getElem_cons_zero, List.getElem_cons_succ, Act.put, List.setIfInBounds_toArray, List.set_cons_zero, List.set_cons_succ])
      refine wpT_one (k := 3) rfl (by kernel_rfl) (fun K hK => ?_)
      go_simp
      refine hK.out _ _ ?_ (fun hHeld => ?_)
      ·(repeat (first | exact Below.refl _ _ | assumption | refine bel_al ?_ _ | refine Below.drew ?_ | refine bel_dn ?_ _ | refine bel_set ?_ (Nat.le_refl _) _))
      clear hK K
      (try simp only [Act.put, List.setIfInBounds_toArray, List.set_cons_zero, List.set_cons_succ])
      refine wpT_one (k := 9) rfl (by kernel_rfl) (fun K hK => ?_)
      refine step_bod (W := w) (base := w3.heap.size + 1) (l := [headI y]) (m := ps) rfl _ _ rfl rfl rfl (OwnF.new _ _ _ _ _ (headI_at w y) (by simp) (by simp)) HP.out (by (repeat (first | exact Below.refl _ _ | assumption | refine bel_al ?_ _ | refine Below.drew ?_ | refine bel_dn ?_ _ | refine bel_set ?_ (Nat.le_refl _) _))) (by have := hlP.out; simp only [List.length_cons, List.length_nil]; omega) (by simp) ?_
      intro v5 w5 ho5 hb5 hl5
      obtain ⟨ao5, cp5, rfl⟩ := ho5.sl
      have HO5 := hid ho5
      have g5 : Below (w.alloc (.cells #[.int .i64 0, .slice none 0 0] 127)).heap.size (w.alloc (.cells #[.int .i64 0, .slice none 0 0] 127)) w5 := bel_tr2 (by (repeat (first | exact Below.refl _ _ | assumption | refine bel_al ?_ _ | refine Below.drew ?_ | refine bel_dn ?_ _ | refine bel_set ?_ (Nat.le_refl _) _))) hb5 (Nat.le_succ_of_le g3.size)
      have s5 := bel_lt g5
      have b5 := bel_tr hb0 g5
      clear x0 x1 xf
      obtain ⟨x0, x1, xf⟩ := turn_blk g5
      clear ho5 hl5
      refine hK.out _ _ ?_ (fun hHeld => ?_)
      ·exact bel_tr2 (by (repeat (first | exact Below.refl _ _ | assumption | refine bel_al ?_ _ | refine Below.drew ?_ | refine bel_dn ?_ _ | refine bel_set ?_ (Nat.le_refl _) _))) hb5 (by simp)
      clear hK K
      (try simp only [Act.put, List.setIfInBounds_toArray])
      refine wpT_done (by kernel_rfl) ?_
      simp only [List.drop_succ_cons, List.drop_zero]
      go_wp2_with fail
      refine bodyPost_ret (v := .tuple #[.agg #[.int .i64 (1 + (N : Int)), .slice ao5 ([headI y] ++ ps).length cp5], .bool true]) (by simp [results, Tryz.results72, go_sem, x0, x1]) rfl ?_
      exact ⟨_, _, _, _, _, rfl, by (repeat (first | exact Below.refl _ _ | assumption | refine bel_al ?_ _ | refine Below.drew ?_ | refine bel_dn ?_ _ | refine bel_set ?_ (Nat.le_refl _) _)), HG.out _ _ (by have F := (HO5.out.set (a := ⟨w.heap.size, 0, none⟩) (show w.heap.size < w3.heap.size + 1 by omega) (.int .i64 (1 + (N : Int)))).set (a := ⟨w.heap.size, 1, none⟩) (show w.heap.size < w3.heap.size + 1 by omega) (.slice ao5 ([headI y] ++ ps).length cp5); exact F.bod (by (repeat (first | exact Below.refl _ _ | assumption | refine bel_al ?_ _ | refine Below.drew ?_ | refine bel_dn ?_ _ | refine bel_set ?_ (Nat.le_refl _) _))))⟩
     ·have hz : ¬ (y :: r)[othM (y :: r)].op = 5 := fun hh => hels (HE.out.2 hh)
      have e5 : (((y :: r)[othM (y :: r)].op : Int) == 5) = false := opF hz
      generalize (y :: r)[othM (y :: r)] = z at *
      have HG := hid (fun w' nv (hB : BodS w' nv []) => show Gives w' (1 + (spanM (y :: r) : Int)) nv true (r7 (x :: y :: r)) from by
       rw [HR.out, show choM x y r = (1 + spanM (y :: r), []) from by unfold choM; rw [if_neg (by simpa using hA)]; exact if_neg hels]
       exact ⟨rfl, by simp, hB⟩)
      clear hels HE HR hM
      generalize hNN : spanM (y :: r) = N at *
      generalize hOO : othM (y :: r) = O at *
      obtain ⟨hwN, hwN2, hwO, hiO, hi0, hiN, hi1⟩ := cho_bounds hNc hON hl200
      clear hn hcell hcell2 h hrun hok h200 hco hc4 hNl hl0 ho HB1 hN2 hO1 hON hnE hE hl1 hOl hNc hnc hl200 hNN hOO g1 gy
      clear hA hz
      have hb0 : Below w.heap.size w (w.alloc (.cells #[.int .i64 0, .slice none 0 0] 127)) := by (repeat (first | exact Below.refl _ _ | assumption | refine bel_al ?_ _ | refine Below.drew ?_ | refine bel_dn ?_ _ | refine bel_set ?_ (Nat.le_refl _) _))
      obtain ⟨⟨c0, c1, c2, c3⟩, d0, d1, d2, d3⟩ := HC.out _ hb0
      go_enter Tryz.func72, Tryz.ntmps72
      go_wp2_with (first | (go_at_call 103; refine (HN2.out _).mono ?_; rintro r1 w1 ⟨rfl, g1⟩; have s1 := bel_lt g1; have b1 := bel_tr hb0 g1; obtain ⟨x0, x1, xf⟩ := turn_blk g1; obtain ⟨⟨c0, c1, c2, c3⟩, d0, d1, d2, d3⟩ := HC.out _ b1) | (go_at_call 104; refine (HSp.out _ b1).mono ?_; rintro r2 w2 ⟨rfl, hb2⟩; have g2 := bel_tr g1 hb2; have b2 := bel_tr hb0 g2; clear hb2) | (go_at_call 105; refine (HOt.out _ b2).mono ?_; rintro r3 w3 ⟨rfl, hb3⟩; have g3 := bel_tr g2 hb3; clear hb3 x0 x1 xf c0 c1 c2 c3 d0 d1 d2 d3; have s3 := bel_lt g3; have b3 := bel_tr hb0 g3; obtain ⟨x0, x1, xf⟩ := turn_blk g3; obtain ⟨⟨c0, c1, c2, c3⟩, d0, d1, d2, d3⟩ := HC.out _ b3; obtain ⟨p0, p1, p2, p3⟩ := HC4.out _ b3; obtain ⟨q0, q1, q2, q3⟩ := HCO.out _ b3; have a1 := fun o => cell_alloc o c1; have a2 := fun o => cell_alloc o q0))
      obtain ⟨z0, z1⟩ := turn_read x0 x1 (.int .i64 (1 + (N : Int))) (.slice none 0 0)
      refine bodyPost_ret (v := .tuple #[.agg #[.int .i64 (1 + (N : Int)), .slice none 0 0], .bool true]) (by simp [results, Tryz.results72, go_sem, z0, z1]) rfl ?_
      exact ⟨_, _, _, _, _, rfl, by (repeat (first | exact Below.refl _ _ | assumption | refine bel_al ?_ _ | refine Below.drew ?_ | refine bel_dn ?_ _ | refine bel_set ?_ (Nat.le_refl _) _)), HG.out _ _ (BodS.nil _)⟩
    ·have eA : (x.A != 0) = true := by simp [hA]
     obtain ⟨om, hom, hsm⟩ := run_mid elem_insv b o (n - 1) (cap - 1) 1 (othM (y :: r)) .i64 .i64 1 (othM (y :: r) : Int) rfl rfl hO1 (by omega)
     have HP := hid (HB1.part 1 (othM (y :: r)) hO1 (Nat.le_of_lt hOl) hom)
     obtain ⟨um, him, hcm⟩ := HB1.at (spanM (y :: r) - 1) hM.out
     have HCM := hid hcm
     have HIM := hid him
     clear hcm him
     have HG := hid (fun w' nv (hB : BodS w' nv (headI y :: (((y :: r).take (othM (y :: r))).drop 1 ++ [(y :: r)[spanM (y :: r) - 1]'hM.out]))) => show Gives w' (1 + (spanM (y :: r) : Int)) nv true (r7 (x :: y :: r)) from by
      rw [HR.out, show choM x y r = (1 + spanM (y :: r), headI y :: (((y :: r).take (othM (y :: r))).drop 1 ++ [(y :: r)[spanM (y :: r) - 1]'hM.out])) from by
       unfold choM; rw [if_pos (by simpa using hA), List.drop_eq_getElem_cons hM.out]; rfl]
      exact ⟨rfl, by simp, hB⟩)
     have hlP := hid (show (((y :: r).take (othM (y :: r))).drop 1).length ≤ 200 by rw [List.length_drop, List.length_take]; omega)
     generalize ((y :: r).take (othM (y :: r))).drop 1 = ps at *
     generalize (y :: r)[othM (y :: r)] = z at *
     generalize ((y :: r)[spanM (y :: r) - 1]'hM.out) = zm at *
     obtain ⟨hwM, hiM, hiM2⟩ := cho_bounds2 hNc hON hl200
     generalize spanM (y :: r) - 1 = M at *
     clear HE HR hM hom
     generalize hNN : spanM (y :: r) = N at *
     generalize hOO : othM (y :: r) = O at *
     obtain ⟨hwN, hwN2, hwO, hiO, hi0, hiN, hi1⟩ := cho_bounds hNc hON hl200
     clear hn hcell hcell2 h hrun hok h200 hco hc4 hNl hl0 ho HB1 hN2 hO1 hON hnE hE hl1 hOl hNc hnc hl200 hNN hOO g1 gy
     clear hA
     have hb0 : Below w.heap.size w (w.alloc (.cells #[.int .i64 0, .slice none 0 0] 127)) := by (repeat (first | exact Below.refl _ _ | assumption | refine bel_al ?_ _ | refine Below.drew ?_ | refine bel_dn ?_ _ | refine bel_set ?_ (Nat.le_refl _) _))
     obtain ⟨⟨c0, c1, c2, c3⟩, d0, d1, d2, d3⟩ := HC.out _ hb0
     go_enter Tryz.func72, Tryz.ntmps72
     go_wp2_with (first | (go_at_call 103; refine (HN2.out _).mono ?_; rintro r1 w1 ⟨rfl, g1⟩; have s1 := bel_lt g1; have b1 := bel_tr hb0 g1; obtain ⟨x0, x1, xf⟩ := turn_blk g1; obtain ⟨⟨c0, c1, c2, c3⟩, d0, d1, d2, d3⟩ := HC.out _ b1) | (go_at_call 104; refine (HSp.out _ b1).mono ?_; rintro r2 w2 ⟨rfl, hb2⟩; have g2 := bel_tr g1 hb2; have b2 := bel_tr hb0 g2; clear hb2) | (go_at_call 105; refine (HOt.out _ b2).mono ?_; rintro r3 w3 ⟨rfl, hb3⟩; have g3 := bel_tr g2 hb3; clear hb3 x0 x1 xf c0 c1 c2 c3 d0 d1 d2 d3; have s3 := bel_lt g3; have b3 := bel_tr hb0 g3; obtain ⟨x0, x1, xf⟩ := turn_blk g3; obtain ⟨⟨c0, c1, c2, c3⟩, d0, d1, d2, d3⟩ := HC.out _ b3; obtain ⟨p0, p1, p2, p3⟩ := HC4.out _ b3; obtain ⟨q0, q1, q2, q3⟩ := HCO.out _ b3; have a1 := fun o => cell_alloc o c1; have a2 := fun o => cell_alloc o q0))
     have XH := hid (fun wx (hb : Below (w3.alloc (.cells #[.int .u8 2, .int .i64 y.A, .int .i64 0, .slice none 0 0] 97)).heap.size (w3.alloc (.cells #[.int .u8 2, .int .i64 y.A, .int .i64 0, .slice none 0 0] 97)) wx) => (Blk.new w3 #[.int .u8 2, .int .i64 y.A, .int .i64 0, .slice none 0 0] 97 _ rfl).below hb)
     refine wp_region_tail (S := (fun w' => Below (w3.alloc (.cells #[.int .u8 2, .int .i64 y.A, .int .i64 0, .slice none 0 0] 97)).heap.size (w3.alloc (.cells #[.int .u8 2, .int .i64 y.A, .int .i64 0, .slice none 0 0] 97)) w')) 5 (by kernel_rfl) (by kernel_rfl) ?_ (fun hHeld => ?_)
     ·(repeat (first | exact Below.refl _ _ | assumption | refine bel_al ?_ _ | refine Below.drew ?_ | refine bel_dn ?_ _ | refine bel_set ?_ (Nat.le_refl _) _))
     refine tk 0 ?_ rfl ?_ ?_
     rotate_left
     ·intro wy hSw; (try dsimp only at hSw); have XX := XH.out wy hSw; have t0 := XX.cell (i := 0) rfl; have t1 := XX.cell (i := 1) rfl; have t2 := XX.cell (i := 2) rfl; have t3 := XX.cell (i := 3) rfl; clear XX; (go_simp <;> with_reducible rfl)
     (try simp only [List.getElem_toArray, List.getElem_cons_zero, Act.put, List.setIfInBounds_toArray, List.set_cons_zero, List.set_cons_succ])
     refine tk 2 ?_ rfl ?_ ?_
     rotate_left
     ·intro wy hSw; (try dsimp only at hSw); have XX := XH.out wy hSw; have t0 := XX.cell (i := 0) rfl; have t1 := XX.cell (i := 1) rfl; have t2 := XX.cell (i := 2) rfl; have t3 := XX.cell (i := 3) rfl; clear XX; (go_simp <;> with_reducible rfl)
     (try simp only [List.getElem_toArray, List.getElem_cons_zero, List.getElem_cons_succ, Act.put, List.setIfInBounds_toArray, List.set_cons_zero, List.set_cons_succ])
     refine tk 3 ?_ rfl ?_ ?_
     rotate_left
     ·intro wy hSw; (try dsimp only at hSw); have XX := XH.out wy hSw; have t0 := XX.cell (i := 0) rfl; have t1 := XX.cell (i := 1) rfl; have t2 := XX.cell (i := 2) rfl; have t3 := XX.cell (i := 3) rfl; clear XX; (go_simp <;> with_reducible rfl)
     (try simp only [List.getElem_toArray, List.getElem_cons_zero, List.getElem_cons_succ, Act.put, List.setIfInBounds_toArray, List.set_cons_zero, List.set_cons_succ])
     refine tk 4 ?_ rfl ?_ ?_
     rotate_left
     ·intro wy hSw; (try dsimp only at hSw); have XX := XH.out wy hSw; have t0 := XX.cell (i := 0) rfl; have t1 := XX.cell (i := 1) rfl; have t2 := XX.cell (i := 2) rfl; have t3 := XX.cell (i := 3) rfl; clear XX; (go_simp <;> with_reducible rfl)
     (try simp only [List.getElem_toArray, List.getElem_cons_zero, List.getElem_cons_succ, Act.put, List.setIfInBounds_toArray, List.set_cons_zero, List.set_cons_succ])
     refine wpT_one (k := 1) rfl (by kernel_rfl) (fun K hK => ?_)
     go_simp
     refine hK.out _ _ ?_ (fun hHeld => ?_)
     ·(repeat (first | exact Below.refl _ _ | assumption | refine bel_al ?_ _ | refine Below.drew ?_ | refine bel_dn ?_ _ | refine bel_set ?_ (Nat.le_refl _) _))
     clear hK K
     (try simp only [Act.put, List.setIfInBounds_toArray, List.set_cons_zero, List.set_cons_succ])
     refine wpT_done (by kernel_rfl) ?_
     simp only [List.drop_succ_cons, List.drop_zero]
     go_wp2_with (at_builtin; first | ((refine app_its (W := w) (base := w3.heap.size + 1) (l := [headI y] ++ ps) (m := [zm]) rfl _ _ rfl rfl rfl (HO5.out.below (by (repeat (first | exact Below.refl _ _ | assumption | refine bel_al ?_ _ | refine Below.drew ?_ | refine bel_dn ?_ _ | refine bel_set ?_ (Nat.le_refl _) _)))) (ds := [[.int .u8 zm.op, .int .i64 zm.A, .int .i64 zm.B, um]]) (Its0.of1 HIM.out) (Sl.made _ _ 1 _ _ (by simp) (by decide)) (by have := hlP.out; simp only [List.length_append, List.length_cons, List.length_nil]; omega) (by first | (simp; done) | (simp; omega)) ?_); intro v6 w6 ho6 hb6 hl6; obtain ⟨ao6, cp6, rfl⟩ := ho6.sl; have HO6 := hid ho6; have g6 : Below (w.alloc (.cells #[.int .i64 0, .slice none 0 0] 127)).heap.size (w.alloc (.cells #[.int .i64 0, .slice none 0 0] 127)) w6 := bel_tr2 (by (repeat (first | exact Below.refl _ _ | assumption | refine bel_al ?_ _ | refine Below.drew ?_ | refine bel_dn ?_ _ | refine bel_set ?_ (Nat.le_refl _) _))) hb6 (Nat.le_succ_of_le g3.size); have s6 := bel_lt g6; have b6 := bel_tr hb0 g6; clear x0 x1 xf; obtain ⟨x0, x1, xf⟩ := turn_blk g6; clear ho6 hl6) | ((refine app_bod (W := w) (base := w3.heap.size + 1) (l := [headI y]) (m := ps) rfl _ _ rfl rfl rfl (OwnF.new _ _ _ _ _ (headI_at w y) (by simp) (by simp)) HP.out (by (repeat (first | exact Below.refl _ _ | assumption | refine bel_al ?_ _ | refine Below.drew ?_ | refine bel_dn ?_ _ | refine bel_set ?_ (Nat.le_refl _) _))) (by have := hlP.out; simp only [List.length_cons, List.length_nil]; omega) (by simp) ?_); intro v5 w5 ho5 hb5 hl5; obtain ⟨ao5, cp5, rfl⟩ := ho5.sl; have HO5 := hid ho5; have g5 : Below (w.alloc (.cells #[.int .i64 0, .slice none 0 0] 127)).heap.size (w.alloc (.cells #[.int .i64 0, .slice none 0 0] 127)) w5 := bel_tr2 (by (repeat (first | exact Below.refl _ _ | assumption | refine bel_al ?_ _ | refine Below.drew ?_ | refine bel_dn ?_ _ | refine bel_set ?_ (Nat.le_refl _) _))) hb5 (Nat.le_succ_of_le g3.size); have hz5 : w3.heap.size + 1 ≤ w5.heap.size := Nat.le_trans (by first | (simp; done) | (simp; omega)) hb5.size; have s5 := bel_lt g5; have b5 := bel_tr hb0 g5; obtain ⟨k0, k1, k2, k3⟩ := HCM.out _ b5; clear ho5 hl5))
     refine bodyPost_ret (v := .tuple #[.agg #[.int .i64 (1 + (N : Int)), .slice ao6 ([headI y] ++ ps ++ [zm]).length cp6], .bool true]) (by simp [results, Tryz.results72, go_sem, x0, x1]) rfl ?_
     exact ⟨_, _, _, _, _, rfl, by (repeat (first | exact Below.refl _ _ | assumption | refine bel_al ?_ _ | refine Below.drew ?_ | refine bel_dn ?_ _ | refine bel_set ?_ (Nat.le_refl _) _)), HG.out _ _ (by have F := (HO6.out.set (a := ⟨w.heap.size, 0, none⟩) (show w.heap.size < w3.heap.size + 1 by omega) (.int .i64 (1 + (N : Int)))).set (a := ⟨w.heap.size, 1, none⟩) (show w.heap.size < w3.heap.size + 1 by omega) (.slice ao6 (ps.length + 1 + 1) cp6); exact F.bod (by (repeat (first | exact Below.refl _ _ | assumption | refine bel_al ?_ _ | refine Below.drew ?_ | refine bel_dn ?_ _ | refine bel_set ?_ (Nat.le_refl _) _))))⟩
   ·have e4 : ((y.op : Int) == 4) = false := opF gy
    have HG := hid (fun w' nv => show Gives w' 0 nv false (r7 (x :: y :: r)) from by
     show Gives _ _ _ _ (if x.op = 65 ∧ y.op = 4 then some (choM x y r) else none)
     rw [if_neg (fun h => gy h.2)]; rfl)
    clear hn hcell hcell2 h hrun hok
    have hb0 : Below w.heap.size w (w.alloc (.cells #[.int .i64 0, .slice none 0 0] 127)) := by (repeat (first | exact Below.refl _ _ | assumption | refine bel_al ?_ _ | refine Below.drew ?_ | refine bel_dn ?_ _ | refine bel_set ?_ (Nat.le_refl _) _))
    obtain ⟨⟨c0, c1, c2, c3⟩, d0, d1, d2, d3⟩ := HC.out _ hb0
    clear g1 gy
    go_enter Tryz.func72, Tryz.ntmps72
    go_wp2_with (go_at_call 103; refine (HN2.out _).mono ?_; rintro r1 w1 ⟨rfl, g1⟩; have s1 := bel_lt g1; have b1 := bel_tr hb0 g1; obtain ⟨x0, x1, xf⟩ := turn_blk g1; obtain ⟨⟨c0, c1, c2, c3⟩, d0, d1, d2, d3⟩ := HC.out _ b1)
    refine bodyPost_ret (v := .tuple #[.agg #[.int .i64 0, .slice none 0 0], .bool false]) (by simp [results, Tryz.results72, go_sem, x0, x1]) rfl ?_
    exact ⟨_, _, _, _, _, rfl, by (repeat (first | exact Below.refl _ _ | assumption | refine bel_al ?_ _ | refine Below.drew ?_ | refine bel_dn ?_ _ | refine bel_set ?_ (Nat.le_refl _) _)), HG.out _ _⟩
  ·rw [show decide (x.op = 65) = false from decide_eq_false g1] at HN2
   have HG := hid (fun w' nv => show Gives w' 0 nv false (r7 (x :: y :: r)) from by
    show Gives _ _ _ _ (if x.op = 65 ∧ y.op = 4 then some (choM x y r) else none)
    rw [if_neg (fun h => g1 h.1)]; rfl)
   clear hn hcell hcell2 h hrun hok
   have hb0 : Below w.heap.size w (w.alloc (.cells #[.int .i64 0, .slice none 0 0] 127)) := by (repeat (first | exact Below.refl _ _ | assumption | refine bel_al ?_ _ | refine Below.drew ?_ | refine bel_dn ?_ _ | refine bel_set ?_ (Nat.le_refl _) _))
   obtain ⟨⟨c0, c1, c2, c3⟩, d0, d1, d2, d3⟩ := HC.out _ hb0
   clear g1
   go_enter Tryz.func72, Tryz.ntmps72
   go_wp2_with (go_at_call 103; refine (HN2.out _).mono ?_; rintro r1 w1 ⟨rfl, g1⟩; have s1 := bel_lt g1; have b1 := bel_tr hb0 g1; obtain ⟨x0, x1, xf⟩ := turn_blk g1; obtain ⟨⟨c0, c1, c2, c3⟩, d0, d1, d2, d3⟩ := HC.out _ b1)
   refine bodyPost_ret (v := .tuple #[.agg #[.int .i64 0, .slice none 0 0], .bool false]) (by simp [results, Tryz.results72, go_sem, x0, x1]) rfl ?_
   exact ⟨_, _, _, _, _, rfl, by (repeat (first | exact Below.refl _ _ | assumption | refine bel_al ?_ _ | refine Below.drew ?_ | refine bel_dn ?_ _ | refine bel_set ?_ (Nat.le_refl _) _)), HG.out _ _⟩
end Go.Proofs.YtakfineljffoaaaGreatDoor
