/-
  FOLDED BODIES: the reference's later. No condition.
-/
import Derived.Test.YtakfineljffoaaaGreatDoorGFoldSays30
import Derived.Test.YtakfineljffoaaaGreatDoorGFoldSays33
namespace Go.Proofs.YtakfineljffoaaaGreatDoor
open Go.RowKit Go.Lib

def ruleL (x y : It) (t : List It) : Option (Nat × List It) :=
 if x.op = 65 ∧ y.op = 4 then some (choM x y t)
 else if (x.op = 2 ∨ x.op = 3) ∧ x.A = 64 ∧ y.op = 11 then some (2, [])
 else if x.op = 34 ∧ y.op = 26 then some (2, [⟨33, x.A, 0, []⟩])
 else if x.op = 65 ∧ x.A ≠ 0 ∧ y.op = 27 then some (2, [⟨26, 0, 0, []⟩])
 else none
def RIPost (w : World) (q : Option (Nat × List It)) (e : Ending) (w' : World) : Prop := ∃ ao m c N, e = .returned (.tuple #[.slice ao m c, .int .i64 N]) ∧ Below w.heap.size w w' ∧ match q with
 | some q => N = (q.1 : Int) ∧ BodS w' (.slice ao m c) q.2
 | none => N = 0
def TwoAt (w : World) (X Y : Nat) (x y : It) (u u2 : Value) : Prop := Blk w X 97 [.int .u8 x.op, .int .i64 x.A, .int .i64 x.B, u] ∧ Blk w Y 97 [.int .u8 y.op, .int .i64 y.A, .int .i64 y.B, u2]
theorem TwoAt.below {w w' : World} {X Y : Nat} {x y : It} {u u2 : Value} (h : TwoAt w X Y x y u u2) (hb : Below w.heap.size w w') : TwoAt w' X Y x y u u2 := ⟨h.1.below hb, h.2.below hb⟩
theorem TwoAt.cells {w : World} {X Y : Nat} {x y : It} {u u2 : Value} (h : TwoAt w X Y x y u u2) :
  (w.cell? ⟨X, 0, none⟩ = some (.int .u8 x.op) ∧ w.cell? ⟨X, 1, none⟩ = some (.int .i64 x.A) ∧ w.cell? ⟨X, 2, none⟩ = some (.int .i64 x.B) ∧ w.cell? ⟨X, 3, none⟩ = some u) ∧
  w.cell? ⟨Y, 0, none⟩ = some (.int .u8 y.op) ∧ w.cell? ⟨Y, 1, none⟩ = some (.int .i64 y.A) ∧ w.cell? ⟨Y, 2, none⟩ = some (.int .i64 y.B) ∧ w.cell? ⟨Y, 3, none⟩ = some u2 :=
 ⟨⟨h.1.cell (i := 0) rfl, h.1.cell (i := 1) rfl, h.1.cell (i := 2) rfl, h.1.cell (i := 3) rfl⟩, h.2.cell (i := 0) rfl, h.2.cell (i := 1) rfl, h.2.cell (i := 2) rfl, h.2.cell (i := 3) rfl⟩

theorem cho_bounds3 {M O n : Nat} (h1 : M + 1 ≤ n - 1) (h2 : O + 1 ≤ M + 1) (h3 : n ≤ 200) : wrap64 ((M : Int) + 2) = (M : Int) + 2 ∧ IntKind.i64.wrap ((M : Int) + 2) = (M : Int) + 2 ∧ wrap64 ((O : Int) + 1) = (O : Int) + 1 :=
 ⟨by unfold wrap64; omega, IntWalk.i64_in _ (by omega), by unfold wrap64; omega⟩
theorem step_bodT {ops : Array Oper} {o : Oper} {a : Act} {K : Act → World → Prop} {Q : Exit → Act → World → Prop} {EE : Prop} {W w : World} {base : Nat} {v u : Value} {l m : List It} (hgd : o.guard = none) (s x : Operand)
  (ho : o.op = .call { callee := .builtin .append, args := #[s, x], argTypes := #[36, 36] })
  (hs : a.eval s = v) (hx : a.eval x = u) (hown : OwnF W w base v l) (hu : BodS W u m) (hW : Below W.heap.size W w)
  (hlen : l.length + m.length ≤ 1000) (hbase : base ≤ w.heap.size)
  (h : ∀ v' w', OwnF W w' base v' (l ++ m) → Below base w w' → Touch (fun k => v.ownBlock = some k) w w' → K (a.put o.dst v') w') : if Region.wanted o (yielded ops a.tmps) = true then Oper.wp Tryz.prog o a w K Q else EE := by
 obtain ⟨cs, hc, hr⟩ := hown
 obtain ⟨ds', hd', hsl'⟩ := hu.its
 have hq : Sl w u m.length ds'.flatten := hsl'.below hW
 refine step_any elem_insv hgd s x ho hs hx hr hq hd'.len hd'.one (by omega) (by omega) hbase (fun v' w' h1 h2 h3 => ?_)
 refine h v' w' ⟨cs ++ ds', hc.append hd', ?_⟩ h2 (Touch.grown h3.1 (fun k hk => hk))
 rw [List.length_append, List.flatten_append]
 exact h1
theorem step_itT {ops : Array Oper} {o : Oper} {a : Act} {K : Act → World → Prop} {Q : Exit → Act → World → Prop} {EE : Prop} {W w : World} {base mm : Nat} {v : Value} {l : List It} {z : It} {cs : List Value} (hgd : o.guard = none) (s x : Operand)
  (ho : o.op = .call { callee := .builtin .append, args := #[s, x], argTypes := #[36, 36] })
  (hs : a.eval s = v) (hx : a.eval x = .slice (some ⟨mm, 0, none⟩) 1 1) (hown : OwnF W w base v l) (hI : ItAt W cs z) (hb : Blk w mm 97 cs)
  (hlen : l.length + 1 ≤ 1000) (hbase : base ≤ w.heap.size)
  (h : ∀ v' w', OwnF W w' base v' (l ++ [z]) → Below base w w' → K (a.put o.dst v') w') : if Region.wanted o (yielded ops a.tmps) = true then Oper.wp Tryz.prog o a w K Q else EE := by
 obtain ⟨ds, hc, hr⟩ := hown
 have hd := Its0.of1 hI
 have hq : Sl w (.slice (some ⟨mm, 0, none⟩) 1 1) 1 ([cs] : List (List Value)).flatten := ⟨_, _, rfl, Nat.le_refl _, by decide, by simp, .inr ⟨mm, 0, rfl, fun j hj => by
  simp only [List.flatten_cons, List.flatten_nil, List.append_nil] at hj ⊢
  rw [Nat.zero_add]
  exact hb.cell (List.getElem?_eq_getElem hj)⟩⟩
 refine step_any elem_insv hgd s x ho hs hx hr hq hd.len hd.one (by omega) (by omega) hbase (fun v' w' h1 h2 h3 => ?_)
 refine h v' w' ⟨ds ++ [cs], hc.append hd, ?_⟩ h2
 rw [List.length_append, List.flatten_append]
 exact h1

set_option maxRecDepth 100000 in
set_option maxHeartbeats 16000000 in
theorem later_any (w : World) (v : Value) (x y : It) (t : List It) (k : Nat) (st : List Nat) (hrun : x.op = 65 → y.op = 4 → run (y :: t) (k :: st) = some []) (h : BodS w v (x :: y :: t)) (h200 : (x :: y :: t).length ≤ 200) :
  Calls Tryz.prog 82 #[v] w fun e w' => RIPost w (ruleL x y t) e w' := by
 obtain ⟨b, off, n, cap, rfl, hn, hc1, hc2, u, hcell⟩ := h.one
 obtain ⟨u2, hcell2⟩ := h.second
 have hu : ∃ ao c, u = .slice ao x.tos.length c := by
  obtain ⟨uu, ⟨u', e, ⟨ao, c, hv, _⟩⟩, hq⟩ := h.at 0 (by simp)
  have a1 := (hq w (Below.refl _ _)).2.2.2
  have a2 := (hcell w (Below.refl _ _)).2.2.2
  simp only [Nat.zero_mul, Nat.add_zero] at a1
  rw [a1] at a2
  simp only [List.cons.injEq, and_true, true_and, List.getElem_cons_zero] at e hv
  simp only [Option.some.injEq] at a2
  exact ⟨ao, c, by rw [← a2, e, hv]⟩
 have hu2 : ∃ ao c, u2 = .slice ao y.tos.length c := by
  obtain ⟨uu, ⟨u', e, ⟨ao, c, hv, _⟩⟩, hq⟩ := h.at 1 (by simp)
  have a1 := (hq w (Below.refl _ _)).2.2.2
  have a2 := (hcell2 w (Below.refl _ _)).2.2.2
  simp only [Nat.one_mul, Nat.add_assoc, Nat.reduceAdd] at a1
  rw [a1] at a2
  simp only [List.cons.injEq, and_true, true_and, List.getElem_cons_succ, List.getElem_cons_zero] at e hv
  simp only [Option.some.injEq] at a2
  exact ⟨ao, c, by rw [← a2, e, hv]⟩
 obtain ⟨au, cu, rfl⟩ := hu
 obtain ⟨au2, cu2, rfl⟩ := hu2
 have HC := hid (fun wx hb => show _ ∧ _ from ⟨hcell wx hb, hcell2 wx hb⟩)
 have hp : 0 < n := by omega
 have hp1 : 1 < n := by rw [hn]; simp
 have hq : (0 : Int) < (n : Int) := by omega
 have hq1 : (1 : Int) < (n : Int) := by omega
 have HH := hid h
 have HRUN := hid hrun
 have H200 := hid h200
 have HNN := hid hn
 clear hn hcell hcell2 h hrun h200
 obtain ⟨⟨c0, c1, c2, c3⟩, d0, d1, d2, d3⟩ := HC.out _ (Below.refl _ _)
 go_enter Tryz.func82, Tryz.ntmps82
 go_upto_region 1 with fail
 go_cut [4, 5] from 10 to 15 (fun vx vy wx => ∃ X Y, vx = .pointer (some ⟨X, 0, none⟩) ∧ vy = .pointer (some ⟨Y, 0, none⟩) ∧ Hid (Below w.heap.size w wx) ∧ Hid (TwoAt wx X Y x y (.slice au x.tos.length cu) (.slice au2 y.tos.length cu2)))
 case first =>
  refine wp_region_tail (S := (fun w' => Below w.heap.size w w')) 9 (by kernel_rfl) (by kernel_rfl) ?_ (fun hHeld => ?_)
  ·(repeat (first | exact Below.refl _ _ | assumption | refine bel_al ?_ _ | refine Below.drew ?_ | refine bel_dn ?_ _ | refine bel_set ?_ (Nat.le_refl _) _))
  refine tk 0 ?_ rfl ?_ ?_
  rotate_left
  ·intro wy hSw; (try dsimp only at hSw); obtain ⟨⟨c0, c1, c2, c3⟩, d0, d1, d2, d3⟩ := HC.out wy hSw; (go_simp <;> with_reducible rfl)
  (try simp only [List.getElem_toArray, List.getElem_cons_zero, Act.put, List.setIfInBounds_toArray, List.set_cons_zero, List.set_cons_succ])
  refine tk 1 ?_ rfl ?_ ?_
  rotate_left
  ·intro wy hSw; (try dsimp only at hSw); obtain ⟨⟨c0, c1, c2, c3⟩, d0, d1, d2, d3⟩ := HC.out wy hSw; (go_simp <;> with_reducible rfl)
  (try simp only [List.getElem_toArray, List.getElem_cons_zero, List.getElem_cons_succ, Act.put, List.setIfInBounds_toArray, List.set_cons_zero, List.set_cons_succ])
  refine tk 2 ?_ rfl ?_ ?_
  rotate_left
  ·intro wy hSw; (try dsimp only at hSw); obtain ⟨⟨c0, c1, c2, c3⟩, d0, d1, d2, d3⟩ := HC.out wy hSw; (go_simp <;> with_reducible rfl)
  (try simp only [List.getElem_toArray, List.getElem_cons_zero, List.getElem_cons_succ, Act.put, List.setIfInBounds_toArray, List.set_cons_zero, List.set_cons_succ])
  refine tk 3 ?_ rfl ?_ ?_
  rotate_left
  ·intro wy hSw; (try dsimp only at hSw); obtain ⟨⟨c0, c1, c2, c3⟩, d0, d1, d2, d3⟩ := HC.out wy hSw; (go_simp <;> with_reducible rfl)
  (try simp only [List.getElem_toArray, List.getElem_cons_zero, List.getElem_cons_succ, Act.put, List.setIfInBounds_toArray, List.set_cons_zero, List.set_cons_succ])
  refine tk 4 ?_ rfl ?_ ?_
  rotate_left
  ·intro wy hSw; (try dsimp only at hSw); obtain ⟨⟨c0, c1, c2, c3⟩, d0, d1, d2, d3⟩ := HC.out wy hSw; (go_simp <;> with_reducible rfl)
  (try simp only [List.getElem_toArray, List.getElem_cons_zero, List.getElem_cons_succ, Act.put, List.setIfInBounds_toArray, List.set_cons_zero, List.set_cons_succ])
  refine tk 5 ?_ rfl ?_ ?_
  rotate_left
  ·intro wy hSw; (try dsimp only at hSw); obtain ⟨⟨c0, c1, c2, c3⟩, d0, d1, d2, d3⟩ := HC.out wy hSw; (go_simp <;> with_reducible rfl)
  (try simp only [List.getElem_toArray, List.getElem_cons_zero, List.getElem_cons_succ, Act.put, List.setIfInBounds_toArray, List.set_cons_zero, List.set_cons_succ])
  refine wpT_two (j := 6) (k := 7) rfl rfl (by kernel_rfl) (fun K hK => ?_) (fun K hK => ?_)
  ·have z0 := HC
   go_simp
   refine hK.out _ _ ?_ (fun hHeld => ?_)
   ·(repeat (first | exact Below.refl _ _ | assumption | refine bel_al ?_ _ | refine Below.drew ?_ | refine bel_dn ?_ _ | refine bel_set ?_ (Nat.le_refl _) _))
   clear hK K
   (try simp only [Act.put, List.setIfInBounds_toArray, List.set_cons_zero, List.set_cons_succ])
   refine wpT_one (k := 7) rfl (by kernel_rfl) (fun K hK => ?_)
   go_simp
   refine hK.out _ _ ?_ (fun hHeld => ?_)
   ·(repeat (first | exact Below.refl _ _ | assumption | refine bel_al ?_ _ | refine Below.drew ?_ | refine bel_dn ?_ _ | refine bel_set ?_ (Nat.le_refl _) _))
   clear hK K
   (try simp only [Act.put, List.setIfInBounds_toArray, List.set_cons_zero, List.set_cons_succ])
   refine wpT_one (k := 8) rfl (by kernel_rfl) (fun K hK => ?_)
   go_simp
   refine hK.out _ _ ?_ (fun hHeld => ?_)
   ·(repeat (first | exact Below.refl _ _ | assumption | refine bel_al ?_ _ | refine Below.drew ?_ | refine bel_dn ?_ _ | refine bel_set ?_ (Nat.le_refl _) _))
   clear hK K
   (try simp only [Act.put, List.setIfInBounds_toArray, List.set_cons_zero, List.set_cons_succ])
   refine wpT_done (by kernel_rfl) ?_
   simp only [List.drop_succ_cons, List.drop_zero]
   go_wp2_with fail
   go_meet
   exact ⟨w.heap.size, w.heap.size + 1, rfl, rfl, hid (by (repeat (first | exact Below.refl _ _ | assumption | refine bel_al ?_ _ | refine Below.drew ?_ | refine bel_dn ?_ _ | refine bel_set ?_ (Nat.le_refl _) _))), hid ⟨(Blk.new w #[.int .u8 x.op, .int .i64 x.A, .int .i64 x.B, .slice au x.tos.length cu] 97 _ rfl).below (by (repeat (first | exact Below.refl _ _ | assumption | refine bel_al ?_ _ | refine Below.drew ?_ | refine bel_dn ?_ _ | refine bel_set ?_ (Nat.le_refl _) _))), (Blk.new (w.alloc (.cells #[.int .u8 x.op, .int .i64 x.A, .int .i64 x.B, .slice au x.tos.length cu] 97)) #[.int .u8 y.op, .int .i64 y.A, .int .i64 y.B, .slice au2 y.tos.length cu2] 97 (w.heap.size + 1) (by simp)).below (by (repeat (first | exact Below.refl _ _ | assumption | refine bel_al ?_ _ | refine Below.drew ?_ | refine bel_dn ?_ _ | refine bel_set ?_ (Nat.le_refl _) _)))⟩⟩
  ·have z0 := HC
   go_simp
   refine hK.out _ _ ?_ (fun hHeld => ?_)
   ·(repeat (first | exact Below.refl _ _ | assumption | refine bel_al ?_ _ | refine Below.drew ?_ | refine bel_dn ?_ _ | refine bel_set ?_ (Nat.le_refl _) _))
   clear hK K
   (try simp only [Act.put, List.setIfInBounds_toArray, List.set_cons_zero, List.set_cons_succ])
   refine wpT_one (k := 6) rfl (by kernel_rfl) (fun K hK => ?_)
   go_simp
   refine hK.out _ _ ?_ (fun hHeld => ?_)
   ·(repeat (first | exact Below.refl _ _ | assumption | refine bel_al ?_ _ | refine Below.drew ?_ | refine bel_dn ?_ _ | refine bel_set ?_ (Nat.le_refl _) _))
   clear hK K
   (try simp only [Act.put, List.setIfInBounds_toArray, List.set_cons_zero, List.set_cons_succ])
   refine wpT_one (k := 8) rfl (by kernel_rfl) (fun K hK => ?_)
   go_simp
   refine hK.out _ _ ?_ (fun hHeld => ?_)
   ·(repeat (first | exact Below.refl _ _ | assumption | refine bel_al ?_ _ | refine Below.drew ?_ | refine bel_dn ?_ _ | refine bel_set ?_ (Nat.le_refl _) _))
   clear hK K
   (try simp only [Act.put, List.setIfInBounds_toArray, List.set_cons_zero, List.set_cons_succ])
   refine wpT_done (by kernel_rfl) ?_
   simp only [List.drop_succ_cons, List.drop_zero]
   go_wp2_with fail
   go_meet
   exact ⟨w.heap.size + 1, w.heap.size, rfl, rfl, hid (by (repeat (first | exact Below.refl _ _ | assumption | refine bel_al ?_ _ | refine Below.drew ?_ | refine bel_dn ?_ _ | refine bel_set ?_ (Nat.le_refl _) _))), hid ⟨(Blk.new (w.alloc (.cells #[.int .u8 y.op, .int .i64 y.A, .int .i64 y.B, .slice au2 y.tos.length cu2] 97)) #[.int .u8 x.op, .int .i64 x.A, .int .i64 x.B, .slice au x.tos.length cu] 97 (w.heap.size + 1) (by simp)).below (by (repeat (first | exact Below.refl _ _ | assumption | refine bel_al ?_ _ | refine Below.drew ?_ | refine bel_dn ?_ _ | refine bel_set ?_ (Nat.le_refl _) _))), (Blk.new w #[.int .u8 y.op, .int .i64 y.A, .int .i64 y.B, .slice au2 y.tos.length cu2] 97 _ rfl).below (by (repeat (first | exact Below.refl _ _ | assumption | refine bel_al ?_ _ | refine Below.drew ?_ | refine bel_dn ?_ _ | refine bel_set ?_ (Nat.le_refl _) _)))⟩⟩
 case rest =>
  obtain ⟨X, Y, rfl, rfl, BL, TW⟩ := hcut
  obtain ⟨⟨m0, m1, m2, m3⟩, n0, n1, n2, n3⟩ := TW.out.cells
  by_cases h65 : x.op = 65
  ·have e65 : ((x.op : Int) == 65) = true := opT (show x.op = 65 by omega)
   have e2 : ((x.op : Int) == 2) = false := opF (show ¬ x.op = 2 by omega)
   have e3 : ((x.op : Int) == 3) = false := opF (show ¬ x.op = 3 by omega)
   have e34 : ((x.op : Int) == 34) = false := opF (show ¬ x.op = 34 by omega)
   by_cases hy4 : y.op = 4
   ·have y4 : ((y.op : Int) == 4) = true := opT (show y.op = 4 by omega)
    have hr := HRUN.out h65 hy4
    have hsame := cho_same (x := x) hy4 hr
    obtain ⟨hup, hs2, hsl1, ho1, hos, hne, hie⟩ := upt_is (.inr (.inr hy4)) hr
    have hR : ruleL x y t = some (choR x y t) := by rw [hsame]; exact if_pos ⟨h65, hy4⟩
    have hlen : (y :: t).length = n - 1 := by rw [HNN.out]; simp
    have hn200 : n ≤ 200 := by rw [HNN.out]; have := H200.out; simp only [List.length_cons] at this ⊢; omega
    have hlt0 : (y :: t).length ≤ 200 := by omega
    obtain ⟨M, hM⟩ : ∃ M, spanM (y :: t) = M + 1 := ⟨spanM (y :: t) - 1, by omega⟩
    have hM2 : M + 1 ≤ n - 1 := by omega
    have hOM : othM (y :: t) < M + 1 := by omega
    have hOM2 : othM (y :: t) + 1 ≤ M + 1 := by omega
    obtain ⟨o, ho, hsl⟩ := run_lo elem_insv b off n cap 1 .i64 1 rfl (by omega)
    have HB1 := HH.out.drop 1 (by simp) ho
    simp only [List.drop_succ_cons, List.drop_zero] at HB1
    have HU0 := fun wx (hb : Below w.heap.size w wx) => upto_any wx _ _ (HB1.below hb) hlt0
    rw [hup] at HU0
    simp only [hM, Int.natCast_add, Int.natCast_one, Int.add_sub_cancel] at HU0
    obtain ⟨oa, hoa, hsa0⟩ := run_mid elem_insv b off n cap 1 (M + 2) .i64 .i64 1 ((M : Int) + 2) rfl (by simp) (by omega) (by omega)
    have hsa : ∀ w : World, (Instr.slice 36 (.slice (some ⟨b, off, none⟩) n cap) (some (.int .i64 1)) (some (.int .i64 ((M : Int) + 2))) none).run Tryz.prog w = .ok (.slice (some ⟨b, oa, none⟩) (M + 1) (cap - 1)) w := hsa0
    have HA0 := HH.out.part 1 (M + 2) (by omega) (by simp only [List.length_cons] at hlen ⊢; omega) hoa
    simp only [List.take_succ_cons, List.drop_succ_cons, List.drop_zero] at HA0
    have HA1 : BodS w (.slice (some ⟨b, oa, none⟩) (M + 1) (cap - 1)) ((y :: t).take (M + 1)) := HA0
    have hal : ((y :: t).take (M + 1)).length = M + 1 := by rw [List.length_take]; omega
    have hcho : choR x y t = if x.A ≠ 0 ∧ 0 ≤ (uptM (y :: t)).2 then (M + 2, headI y :: ((((y :: t).take (M + 1)).take (uptM (y :: t)).2.toNat).drop 1 ++ (((y :: t).take (M + 1)).drop M).take 1)) else if x.A ≠ 0 then (M + 2, headI y :: ((y :: t).take (M + 1)).drop 1) else if 0 ≤ (uptM (y :: t)).2 then (M + 2, headI y :: ((y :: t).take (M + 1)).drop ((uptM (y :: t)).2.toNat + 1)) else (M + 2, []) := by
     have e1 : (uptM (y :: t)).1.toNat = M := by rw [hup]; simp only [hM]; omega
     unfold choR
     rw [e1]
    have HQ0 := hR
    rw [hcho, hup] at HQ0
    simp only at HQ0
    generalize (y :: t).take (M + 1) = al at *
    generalize hO : othM (y :: t) = O at *
    obtain ⟨M1, hM1⟩ : ∃ M1, M + 1 = M1 := ⟨_, rfl⟩
    rw [hM1] at HA1 hal
    simp only [hM1] at hsa
    have HN2 := hid hn200
    have HHA := hid HA1
    by_cases hE : isElse (y :: t)
    ·have hE2 := hE
     clear hE2
     rw [if_pos hE] at HU0
     have HU := hid HU0
     clear HU0
     rw [if_pos hE] at HQ0
     have hO0 : (0 : Int) ≤ (O : Int) := by simp
     have hi1 := hie hE
     by_cases hA : x.A = 0
     ·have eA : (x.A != 0) = false := by simp [hA]
      rw [if_neg (fun h => h.1 hA), if_neg (fun h => h hA), if_pos hO0, Int.toNat_natCast] at HQ0
      obtain ⟨op, hop, hsp⟩ := run_lo elem_insv b oa M1 (cap - 1) (O + 1) .i64 ((O : Int) + 1) (by simp) (by omega)
      have HP := hid (HHA.out.drop (O + 1) (by omega) hop)
      have hlP := hid (show (al.drop (O + 1)).length ≤ 200 by rw [List.length_drop, hal]; have := HN2.out; omega)
      clear hop
      generalize al.drop (O + 1) = ps at *
      have HQ := hid HQ0; obtain ⟨hwM, hwM2, hwO⟩ := cho_bounds3 (M := M) (O := O) hM2 hOM2 hn200; clear HC HH HRUN H200 HNN HB1 HA0 HA1 hsa0 hoa ho hr hsame hup hs2 hsl1 ho1 hos hne hie hR hlen hn200 hlt0 hM hM1 hcho hO HQ0 c0 c1 c2 c3 d0 d1 d2 d3 h65 hy4
      clear hE hA hi1 hal hM2 hOM hOM2 HHA
      go_wp2_with (first | (go_at_call 81; refine (HU.out _ BL.out).mono ?_; rintro r w3 ⟨rfl, hb3⟩; have B3 := hid (bel_tr BL.out hb3); obtain ⟨⟨m0, m1, m2, m3⟩, n0, n1, n2, n3⟩ := (TW.out.below hb3).cells; clear hb3; have a1 := fun o => cell_alloc o m1) | (at_builtin; go_must (refine app_bod (W := w) (base := w3.heap.size) (l := [headI y]) (m := ps) rfl _ _ rfl rfl rfl (OwnF.new _ _ _ _ _ (headI_at w y) (by simp) (by simp)) HP.out (by have := B3.out; (repeat (first | exact Below.refl _ _ | assumption | refine bel_al ?_ _ | refine Below.drew ?_ | refine bel_dn ?_ _ | refine bel_set ?_ (Nat.le_refl _) _))) (by have := hlP.out; simp only [List.length_cons, List.length_nil]; omega) (by simp) ?_); intro v5 w5 ho5 hb5 hl5; have B5 := hid (bel_tr2 (by have := B3.out; (repeat (first | exact Below.refl _ _ | assumption | refine bel_al ?_ _ | refine Below.drew ?_ | refine bel_dn ?_ _ | refine bel_set ?_ (Nat.le_refl _) _))) hb5 B3.out.size); have HO5 := hid ho5; clear hb5 ho5))
      refine bodyPost_ret (v := .tuple #[v5, .int .i64 ((M : Int) + 2)]) (by simp [results, Tryz.results82, go_sem]) rfl ?_
      obtain ⟨ao5, cp5, rfl⟩ := HO5.out.sl
      exact ⟨_, _, _, _, rfl, B5.out, by rw [HQ.out]; exact ⟨by simp, HO5.out.bod B5.out⟩⟩
     ·have eA : (x.A != 0) = true := by simp [hA]
      rw [if_pos ⟨hA, hO0⟩, Int.toNat_natCast] at HQ0
      obtain ⟨op, hop, hsp⟩ := run_mid elem_insv b oa M1 (cap - 1) 1 O .i64 .i64 1 (O : Int) rfl rfl ho1 (by omega)
      have HP := hid (HHA.out.part 1 O ho1 (by omega) hop)
      have hlP := hid (show ((al.take O).drop 1).length ≤ 200 by rw [List.length_drop, List.length_take]; have := HN2.out; omega)
      have hMl : M < al.length := by omega
      obtain ⟨um, him, hcm⟩ := HHA.out.at M hMl
      rw [List.drop_eq_getElem_cons hMl, List.take_succ_cons, List.take_zero] at HQ0
      generalize al[M] = zm at *
      generalize (al.take O).drop 1 = ps at *
      have HCM := hid hcm
      have HIM := hid him
      have hiM : (M : Int) < (M1 : Int) := by omega
      have hiM2 : M < M1 := by omega
      clear hop hcm him
      have HQ := hid HQ0; obtain ⟨hwM, hwM2, hwO⟩ := cho_bounds3 (M := M) (O := O) hM2 hOM2 hn200; clear HC HH HRUN H200 HNN HB1 HA0 HA1 hsa0 hoa ho hr hsame hup hs2 hsl1 ho1 hos hne hie hR hlen hn200 hlt0 hM hM1 hcho hO HQ0 c0 c1 c2 c3 d0 d1 d2 d3 h65 hy4
      clear hE hA hi1 hal hM2 hOM hOM2 HHA hMl
      go_wp2_with (go_at_call 81; refine (HU.out _ BL.out).mono ?_; rintro r w3 ⟨rfl, hb3⟩; have B3 := hid (bel_tr BL.out hb3); obtain ⟨⟨m0, m1, m2, m3⟩, n0, n1, n2, n3⟩ := (TW.out.below hb3).cells; clear hb3; have a1 := fun o => cell_alloc o m1)
      have XH := hid (OwnF.new (W := w) w3 w3.heap.size _ (headI y) w3.heap.size (headI_at w y) rfl (Nat.le_refl _))
      have BH := hid (bel_al B3.out (.cells #[.int .u8 2, .int .i64 y.A, .int .i64 0, .slice none 0 0] 97))
      refine wp_region_tail (S := (fun w' => Below w.heap.size w w')) 14 (by kernel_rfl) (by kernel_rfl) ?_ (fun hHeld => ?_)
      ·have := BH.out; (repeat (first | exact Below.refl _ _ | assumption | refine bel_al ?_ _ | refine Below.drew ?_ | refine bel_dn ?_ _ | refine bel_set ?_ (Nat.le_refl _) _))
      refine tk 0 ?_ rfl ?_ ?_
      rotate_left
      ·intro wy hSw; (try dsimp only at hSw); obtain ⟨k0, k1, k2, k3⟩ := HCM.out wy hSw; (go_simp <;> with_reducible rfl)
      (try simp only [List.getElem_toArray, List.getElem_cons_zero, Act.put, List.setIfInBounds_toArray, List.set_cons_zero, List.set_cons_succ])
      refine tk 1 ?_ rfl ?_ ?_
      rotate_left
      ·intro wy hSw; (try dsimp only at hSw); obtain ⟨k0, k1, k2, k3⟩ := HCM.out wy hSw; (go_simp <;> with_reducible rfl)
      (try simp only [List.getElem_toArray, List.getElem_cons_zero, List.getElem_cons_succ, Act.put, List.setIfInBounds_toArray, List.set_cons_zero, List.set_cons_succ])
      refine tk 2 ?_ rfl ?_ ?_
      rotate_left
      ·intro wy hSw; (try dsimp only at hSw); obtain ⟨k0, k1, k2, k3⟩ := HCM.out wy hSw; (go_simp <;> with_reducible rfl)
      (try simp only [List.getElem_toArray, List.getElem_cons_zero, List.getElem_cons_succ, Act.put, List.setIfInBounds_toArray, List.set_cons_zero, List.set_cons_succ])
      refine tk 3 ?_ rfl ?_ ?_
      rotate_left
      ·intro wy hSw; (try dsimp only at hSw); obtain ⟨k0, k1, k2, k3⟩ := HCM.out wy hSw; (go_simp <;> with_reducible rfl)
      (try simp only [List.getElem_toArray, List.getElem_cons_zero, List.getElem_cons_succ, Act.put, List.setIfInBounds_toArray, List.set_cons_zero, List.set_cons_succ])
      refine tk 5 ?_ rfl ?_ ?_
      rotate_left
      ·intro wy hSw; (try dsimp only at hSw); obtain ⟨k0, k1, k2, k3⟩ := HCM.out wy hSw; (go_simp <;> with_reducible rfl)
      (try simp only [List.getElem_toArray, List.getElem_cons_zero, List.getElem_cons_succ, Act.put, List.setIfInBounds_toArray, List.set_cons_zero, List.set_cons_succ])
      refine tk 6 ?_ rfl ?_ ?_
      rotate_left
      ·intro wy hSw; (try dsimp only at hSw); obtain ⟨k0, k1, k2, k3⟩ := HCM.out wy hSw; (go_simp <;> with_reducible rfl)
      (try simp only [List.getElem_toArray, List.getElem_cons_zero, List.getElem_cons_succ, Act.put, List.setIfInBounds_toArray, List.set_cons_zero, List.set_cons_succ])
      refine tk 7 ?_ rfl ?_ ?_
      rotate_left
      ·intro wy hSw; (try dsimp only at hSw); obtain ⟨k0, k1, k2, k3⟩ := HCM.out wy hSw; (go_simp <;> with_reducible rfl)
      (try simp only [List.getElem_toArray, List.getElem_cons_zero, List.getElem_cons_succ, Act.put, List.setIfInBounds_toArray, List.set_cons_zero, List.set_cons_succ])
      refine tk 8 ?_ rfl ?_ ?_
      rotate_left
      ·intro wy hSw; (try dsimp only at hSw); obtain ⟨k0, k1, k2, k3⟩ := HCM.out wy hSw; (go_simp <;> with_reducible rfl)
      (try simp only [List.getElem_toArray, List.getElem_cons_zero, List.getElem_cons_succ, Act.put, List.setIfInBounds_toArray, List.set_cons_zero, List.set_cons_succ])
      refine tk 11 ?_ rfl ?_ ?_
      rotate_left
      ·intro wy hSw; (try dsimp only at hSw); obtain ⟨k0, k1, k2, k3⟩ := HCM.out wy hSw; (go_simp <;> with_reducible rfl)
      (try simp only [List.getElem_toArray, List.getElem_cons_zero, List.getElem_cons_succ, Act.put, List.setIfInBounds_toArray, List.set_cons_zero, List.set_cons_succ])
      refine tk 12 ?_ rfl ?_ ?_
      rotate_left
      ·intro wy hSw; (try dsimp only at hSw); obtain ⟨k0, k1, k2, k3⟩ := HCM.out wy hSw; (go_simp <;> with_reducible rfl)
      (try simp only [List.getElem_toArray, List.getElem_cons_zero, List.getElem_cons_succ, Act.put, List.setIfInBounds_toArray, List.set_cons_zero, List.set_cons_succ])
      refine wpT_two (j := 4) (k := 9) rfl rfl (by kernel_rfl) (fun K hK => ?_) (fun K hK => ?_)
      ·refine step_bodT (W := w) (base := w3.heap.size) (l := [headI y]) (m := ps) rfl _ _ rfl rfl rfl (XH.out.below (by (repeat (first | exact Below.refl _ _ | assumption | refine bel_al ?_ _ | refine Below.drew ?_ | refine bel_dn ?_ _ | refine bel_set ?_ (Nat.le_refl _) _)))) HP.out (by have := BH.out; (repeat (first | exact Below.refl _ _ | assumption | refine bel_al ?_ _ | refine Below.drew ?_ | refine bel_dn ?_ _ | refine bel_set ?_ (Nat.le_refl _) _))) (by have := hlP.out; simp only [List.length_cons, List.length_nil]; omega) (by first | (simp; done) | (simp; omega)) ?_
       intro v5 w5 ho5 hb5 ht5
       have HO5 := hid ho5
       have B5 := hid (bel_tr2 (by have := BH.out; (repeat (first | exact Below.refl _ _ | assumption | refine bel_al ?_ _ | refine Below.drew ?_ | refine bel_dn ?_ _ | refine bel_set ?_ (Nat.le_refl _) _))) hb5 B3.out.size)
       have hz5 : w3.heap.size ≤ w5.heap.size := Nat.le_trans (by simp) hb5.size
       refine hK.out _ _ ?_ (fun hHeld => ?_)
       ·exact B5.out
       clear hK K
       (try simp only [Act.put, List.setIfInBounds_toArray])
       refine wpT_one (k := 9) rfl (by kernel_rfl) (fun K hK => ?_)
       go_simp
       refine hK.out _ _ ?_ (fun hHeld => ?_)
       ·have := B5.out; (repeat (first | exact Below.refl _ _ | assumption | refine bel_al ?_ _ | refine Below.drew ?_ | refine bel_dn ?_ _ | refine bel_set ?_ (Nat.le_refl _) _))
       clear hK K
       (try simp only [Act.put, List.setIfInBounds_toArray, List.set_cons_zero, List.set_cons_succ])
       refine wpT_one (k := 10) rfl (by kernel_rfl) (fun K hK => ?_)
       refine step_itT (W := w) (base := w3.heap.size) (l := [headI y] ++ ps) (z := zm) rfl _ _ rfl rfl rfl (HO5.out.below (by (repeat (first | exact Below.refl _ _ | assumption | refine bel_al ?_ _ | refine Below.drew ?_ | refine bel_dn ?_ _ | refine bel_set ?_ (Nat.le_refl _) _)))) HIM.out ((Blk.new w5 #[.int .u8 zm.op, .int .i64 zm.A, .int .i64 zm.B, um] 97 _ rfl).below (by (repeat (first | exact Below.refl _ _ | assumption | refine bel_al ?_ _ | refine Below.drew ?_ | refine bel_dn ?_ _ | refine bel_set ?_ (Nat.le_refl _) _)))) (by have := hlP.out; simp only [List.length_append, List.length_cons, List.length_nil]; omega) (Nat.le_trans hz5 (by simp)) ?_
       intro v6 w6 ho6 hb6
       have HO6 := hid ho6
       have B6 := hid (bel_tr2 (by have := B5.out; (repeat (first | exact Below.refl _ _ | assumption | refine bel_al ?_ _ | refine Below.drew ?_ | refine bel_dn ?_ _ | refine bel_set ?_ (Nat.le_refl _) _))) hb6 B3.out.size)
       refine hK.out _ _ ?_ (fun hHeld => ?_)
       ·exact B6.out
       clear hK K
       (try simp only [Act.put, List.setIfInBounds_toArray])
       refine tk 13 ?_ rfl ?_ ?_
       rotate_left
       ·intro wy hSw; (try dsimp only at hSw); (go_simp <;> with_reducible rfl)
       (try simp only [List.getElem_toArray, List.getElem_cons_zero, List.getElem_cons_succ, Act.put, List.setIfInBounds_toArray, List.set_cons_zero, List.set_cons_succ])
       refine wpT_done (by kernel_rfl) ?_
       simp only [List.drop_succ_cons, List.drop_zero]
       go_wp2_with fail
       refine bodyPost_ret (v := .tuple #[v6, .int .i64 ((M : Int) + 2)]) (by simp [results, Tryz.results82, go_sem]) rfl ?_
       obtain ⟨ao6, cp6, rfl⟩ := HO6.out.sl
       have F2 := HO6.out.bod B6.out
       exact ⟨_, _, _, _, rfl, B6.out, by rw [HQ.out]; exact ⟨by simp, by simpa only [List.cons_append, List.nil_append] using F2⟩⟩
      ·go_simp
       refine hK.out _ _ ?_ (fun hHeld => ?_)
       ·have := BH.out; (repeat (first | exact Below.refl _ _ | assumption | refine bel_al ?_ _ | refine Below.drew ?_ | refine bel_dn ?_ _ | refine bel_set ?_ (Nat.le_refl _) _))
       clear hK K
       (try simp only [Act.put, List.setIfInBounds_toArray, List.set_cons_zero, List.set_cons_succ])
       refine wpT_one (k := 4) rfl (by kernel_rfl) (fun K hK => ?_)
       refine step_bodT (W := w) (base := w3.heap.size) (l := [headI y]) (m := ps) rfl _ _ rfl rfl rfl (XH.out.below (by (repeat (first | exact Below.refl _ _ | assumption | refine bel_al ?_ _ | refine Below.drew ?_ | refine bel_dn ?_ _ | refine bel_set ?_ (Nat.le_refl _) _)))) HP.out (by have := BH.out; (repeat (first | exact Below.refl _ _ | assumption | refine bel_al ?_ _ | refine Below.drew ?_ | refine bel_dn ?_ _ | refine bel_set ?_ (Nat.le_refl _) _))) (by have := hlP.out; simp only [List.length_cons, List.length_nil]; omega) (by first | (simp; done) | (simp; omega)) ?_
       intro v5 w5 ho5 hb5 ht5
       have HO5 := hid ho5
       have B5 := hid (bel_tr2 (by have := BH.out; (repeat (first | exact Below.refl _ _ | assumption | refine bel_al ?_ _ | refine Below.drew ?_ | refine bel_dn ?_ _ | refine bel_set ?_ (Nat.le_refl _) _))) hb5 B3.out.size)
       have hz5 : w3.heap.size ≤ w5.heap.size := Nat.le_trans (by simp; omega) hb5.size
       have XZ := hid (Blk.touch ((Blk.new (w3.alloc (.cells #[.int .u8 2, .int .i64 y.A, .int .i64 0, .slice none 0 0] 97)) #[.int .u8 zm.op, .int .i64 zm.A, .int .i64 zm.B, um] 97 (w3.heap.size + 1) (by simp)).below (by (repeat (first | exact Below.refl _ _ | assumption | refine bel_al ?_ _ | refine Below.drew ?_ | refine bel_dn ?_ _ | refine bel_set ?_ (Nat.le_refl _) _)))) ht5 (by intro h; have h2 : w3.heap.size = w3.heap.size + 1 := Option.some.inj h; omega))
       refine hK.out _ _ ?_ (fun hHeld => ?_)
       ·exact B5.out
       clear hK K
       (try simp only [Act.put, List.setIfInBounds_toArray])
       refine wpT_one (k := 10) rfl (by kernel_rfl) (fun K hK => ?_)
       refine step_itT (W := w) (base := w3.heap.size) (l := [headI y] ++ ps) (z := zm) rfl _ _ rfl rfl rfl (HO5.out.below (by (repeat (first | exact Below.refl _ _ | assumption | refine bel_al ?_ _ | refine Below.drew ?_ | refine bel_dn ?_ _ | refine bel_set ?_ (Nat.le_refl _) _)))) HIM.out (XZ.out.below (by (repeat (first | exact Below.refl _ _ | assumption | refine bel_al ?_ _ | refine Below.drew ?_ | refine bel_dn ?_ _ | refine bel_set ?_ (Nat.le_refl _) _)))) (by have := hlP.out; simp only [List.length_append, List.length_cons, List.length_nil]; omega) (Nat.le_trans hz5 (by simp)) ?_
       intro v6 w6 ho6 hb6
       have HO6 := hid ho6
       have B6 := hid (bel_tr2 (by have := B5.out; (repeat (first | exact Below.refl _ _ | assumption | refine bel_al ?_ _ | refine Below.drew ?_ | refine bel_dn ?_ _ | refine bel_set ?_ (Nat.le_refl _) _))) hb6 B3.out.size)
       refine hK.out _ _ ?_ (fun hHeld => ?_)
       ·exact B6.out
       clear hK K
       (try simp only [Act.put])
       refine tk 13 ?_ rfl ?_ ?_
       rotate_left
       ·intro wy hSw; (try dsimp only at hSw); (go_simp <;> with_reducible rfl)
       (try simp only [List.getElem_toArray, List.getElem_cons_zero, List.getElem_cons_succ, Act.put, List.setIfInBounds_toArray, List.set_cons_zero, List.set_cons_succ])
       refine wpT_done (by kernel_rfl) ?_
       simp only [List.drop_succ_cons, List.drop_zero]
       go_wp2_with fail
       refine bodyPost_ret (v := .tuple #[v6, .int .i64 ((M : Int) + 2)]) (by simp [results, Tryz.results82, go_sem]) rfl ?_
       obtain ⟨ao6, cp6, rfl⟩ := HO6.out.sl
       have F2 := HO6.out.bod B6.out
       exact ⟨_, _, _, _, rfl, B6.out, by rw [HQ.out]; exact ⟨by simp, by simpa only [List.cons_append, List.nil_append] using F2⟩⟩
    ·have hE2 := hE
     clear hE2
     rw [if_neg hE] at HU0
     have HU := hid HU0
     clear HU0
     rw [if_neg hE] at HQ0
     have hO0 : ¬ (0 : Int) ≤ -1 := by decide
     by_cases hA : x.A = 0
     ·have eA : (x.A != 0) = false := by simp [hA]
      rw [if_neg (fun h => h.1 hA), if_neg (fun h => h hA), if_neg hO0] at HQ0
      have HQ := hid HQ0; obtain ⟨hwM, hwM2, hwO⟩ := cho_bounds3 (M := M) (O := O) hM2 hOM2 hn200; clear HC HH HRUN H200 HNN HB1 HA0 HA1 hsa0 hoa ho hr hsame hup hs2 hsl1 ho1 hos hne hie hR hlen hn200 hlt0 hM hM1 hcho hO HQ0 c0 c1 c2 c3 d0 d1 d2 d3 h65 hy4
      clear hE hA hal hM2 hOM hOM2 HHA
      go_wp2_with (go_at_call 81; refine (HU.out _ BL.out).mono ?_; rintro r w3 ⟨rfl, hb3⟩; have B3 := hid (bel_tr BL.out hb3); obtain ⟨⟨m0, m1, m2, m3⟩, n0, n1, n2, n3⟩ := (TW.out.below hb3).cells; clear hb3; have a1 := fun o => cell_alloc o m1)
      refine bodyPost_ret (v := .tuple #[.slice none 0 0, .int .i64 ((M : Int) + 2)]) (by simp [results, Tryz.results82, go_sem]) rfl ?_
      exact ⟨_, _, _, _, rfl, by have := B3.out; (repeat (first | exact Below.refl _ _ | assumption | refine bel_al ?_ _ | refine Below.drew ?_ | refine bel_dn ?_ _ | refine bel_set ?_ (Nat.le_refl _) _)), by rw [HQ.out]; exact ⟨by simp, BodS.nil _⟩⟩
     ·have eA : (x.A != 0) = true := by simp [hA]
      rw [if_neg (fun h => hO0 h.2), if_pos hA] at HQ0
      obtain ⟨op, hop, hsp⟩ := run_lo elem_insv b oa M1 (cap - 1) (1) .i64 (1) (by simp) (by omega)
      have HP := hid (HHA.out.drop (1) (by omega) hop)
      have hlP := hid (show (al.drop (1)).length ≤ 200 by rw [List.length_drop, hal]; have := HN2.out; omega)
      clear hop
      generalize al.drop 1 = ps at *
      have HQ := hid HQ0; obtain ⟨hwM, hwM2, hwO⟩ := cho_bounds3 (M := M) (O := O) hM2 hOM2 hn200; clear HC HH HRUN H200 HNN HB1 HA0 HA1 hsa0 hoa ho hr hsame hup hs2 hsl1 ho1 hos hne hie hR hlen hn200 hlt0 hM hM1 hcho hO HQ0 c0 c1 c2 c3 d0 d1 d2 d3 h65 hy4
      clear hE hA hal hM2 hOM hOM2 HHA
      go_wp2_with (first | (go_at_call 81; refine (HU.out _ BL.out).mono ?_; rintro r w3 ⟨rfl, hb3⟩; have B3 := hid (bel_tr BL.out hb3); obtain ⟨⟨m0, m1, m2, m3⟩, n0, n1, n2, n3⟩ := (TW.out.below hb3).cells; clear hb3; have a1 := fun o => cell_alloc o m1) | (at_builtin; go_must (refine app_bod (W := w) (base := w3.heap.size) (l := [headI y]) (m := ps) rfl _ _ rfl rfl rfl (OwnF.new _ _ _ _ _ (headI_at w y) (by simp) (by simp)) HP.out (by have := B3.out; (repeat (first | exact Below.refl _ _ | assumption | refine bel_al ?_ _ | refine Below.drew ?_ | refine bel_dn ?_ _ | refine bel_set ?_ (Nat.le_refl _) _))) (by have := hlP.out; simp only [List.length_cons, List.length_nil]; omega) (by simp) ?_); intro v5 w5 ho5 hb5 hl5; have B5 := hid (bel_tr2 (by have := B3.out; (repeat (first | exact Below.refl _ _ | assumption | refine bel_al ?_ _ | refine Below.drew ?_ | refine bel_dn ?_ _ | refine bel_set ?_ (Nat.le_refl _) _))) hb5 B3.out.size); have HO5 := hid ho5; clear hb5 ho5))
      refine bodyPost_ret (v := .tuple #[v5, .int .i64 ((M : Int) + 2)]) (by simp [results, Tryz.results82, go_sem]) rfl ?_
      obtain ⟨ao5, cp5, rfl⟩ := HO5.out.sl
      exact ⟨_, _, _, _, rfl, B5.out, by rw [HQ.out]; exact ⟨by simp, HO5.out.bod B5.out⟩⟩
   ·have y4 : ((y.op : Int) == 4) = false := opF (show ¬ y.op = 4 by omega)
    clear c0 c1 c2 c3 d0 d1 d2 d3 HC HH HRUN H200 HNN
    by_cases hA : x.A = 0
    ·have eA : (x.A != 0) = false := by simp [hA]
     have HG := hid (show ruleL x y t = none from by unfold ruleL; rw [if_neg (fun h => hy4 h.2), if_neg (by omega), if_neg (by omega), if_neg (fun h => h.2.1 hA)])
     clear h65 hy4 hA
     go_wp2_with fail
     refine bodyPost_ret (v := .tuple #[.slice none 0 0, .int .i64 0]) (by simp [results, Tryz.results82, go_sem]) rfl ?_
     exact ⟨_, _, _, _, rfl, by have := BL.out; (repeat (first | exact Below.refl _ _ | assumption | refine bel_al ?_ _ | refine Below.drew ?_ | refine bel_dn ?_ _ | refine bel_set ?_ (Nat.le_refl _) _)), by rw [HG.out]⟩
    ·have eA : (x.A != 0) = true := by simp [hA]
     by_cases hy : y.op = 27
     ·have y27 : ((y.op : Int) == 27) = true := opT (show y.op = 27 by omega)
      have HG := hid (show ruleL x y t = some (2, [⟨26, 0, 0, []⟩]) from by unfold ruleL; rw [if_neg (fun h => hy4 h.2), if_neg (by omega), if_neg (by omega), if_pos ⟨h65, hA, hy⟩])
      clear h65 hy4 hA hy
      go_wp2_with fail
      refine bodyPost_ret (v := .tuple #[.slice (some ⟨wc.heap.size, 0, none⟩) 1 1, .int .i64 2]) (by simp [results, Tryz.results82, go_sem]) rfl ?_
      exact ⟨_, _, _, _, rfl, by have := BL.out; (repeat (first | exact Below.refl _ _ | assumption | refine bel_al ?_ _ | refine Below.drew ?_ | refine bel_dn ?_ _ | refine bel_set ?_ (Nat.le_refl _) _)), by rw [HG.out]; exact ⟨rfl, BodS.made _ _ _ _ (by simp)⟩⟩
     ·have y27 : ((y.op : Int) == 27) = false := opF (show ¬ y.op = 27 by omega)
      have HG := hid (show ruleL x y t = none from by unfold ruleL; rw [if_neg (fun h => hy4 h.2), if_neg (by omega), if_neg (by omega), if_neg (fun h => hy h.2.2)])
      clear h65 hy4 hA hy
      go_wp2_with fail
      refine bodyPost_ret (v := .tuple #[.slice none 0 0, .int .i64 0]) (by simp [results, Tryz.results82, go_sem]) rfl ?_
      exact ⟨_, _, _, _, rfl, by have := BL.out; (repeat (first | exact Below.refl _ _ | assumption | refine bel_al ?_ _ | refine Below.drew ?_ | refine bel_dn ?_ _ | refine bel_set ?_ (Nat.le_refl _) _)), by rw [HG.out]⟩
  ·have e65 : ((x.op : Int) == 65) = false := opF (show ¬ x.op = 65 by omega)
   clear c0 c1 c2 c3 d0 d1 d2 d3 HC HH HRUN H200 HNN
   by_cases h2 : x.op = 2
   ·have e2 : ((x.op : Int) == 2) = true := opT (show x.op = 2 by omega)
    have e34 : ((x.op : Int) == 34) = false := opF (show ¬ x.op = 34 by omega)
    by_cases hA : x.A = 64
    ·have eA : (x.A == 64) = true := by simp [hA]
     by_cases hy : y.op = 11
     ·have y11 : ((y.op : Int) == 11) = true := opT (show y.op = 11 by omega)
      have HG := hid (show ruleL x y t = some (2, []) from by unfold ruleL; rw [if_neg (fun h => h65 h.1), if_pos ⟨by omega, hA, hy⟩])
      clear h65 hA hy h2
      go_wp2_with fail
      refine bodyPost_ret (v := .tuple #[.slice none 0 0, .int .i64 2]) (by simp [results, Tryz.results82, go_sem]) rfl ?_
      exact ⟨_, _, _, _, rfl, by have := BL.out; (repeat (first | exact Below.refl _ _ | assumption | refine bel_al ?_ _ | refine Below.drew ?_ | refine bel_dn ?_ _ | refine bel_set ?_ (Nat.le_refl _) _)), by rw [HG.out]; exact ⟨rfl, BodS.nil _⟩⟩
     ·have y11 : ((y.op : Int) == 11) = false := opF (show ¬ y.op = 11 by omega)
      have HG := hid (show ruleL x y t = none from by unfold ruleL; rw [if_neg (fun h => h65 h.1), if_neg (fun h => hy h.2.2), if_neg (by omega), if_neg (fun h => h65 h.1)])
      clear h65 hA hy h2
      go_wp2_with fail
      refine bodyPost_ret (v := .tuple #[.slice none 0 0, .int .i64 0]) (by simp [results, Tryz.results82, go_sem]) rfl ?_
      exact ⟨_, _, _, _, rfl, by have := BL.out; (repeat (first | exact Below.refl _ _ | assumption | refine bel_al ?_ _ | refine Below.drew ?_ | refine bel_dn ?_ _ | refine bel_set ?_ (Nat.le_refl _) _)), by rw [HG.out]⟩
    ·have eA : (x.A == 64) = false := by simp [hA]
     have HG := hid (show ruleL x y t = none from by unfold ruleL; rw [if_neg (fun h => h65 h.1), if_neg (fun h => hA h.2.1), if_neg (by omega), if_neg (fun h => h65 h.1)])
     clear h65 hA h2
     go_wp2_with fail
     refine bodyPost_ret (v := .tuple #[.slice none 0 0, .int .i64 0]) (by simp [results, Tryz.results82, go_sem]) rfl ?_
     exact ⟨_, _, _, _, rfl, by have := BL.out; (repeat (first | exact Below.refl _ _ | assumption | refine bel_al ?_ _ | refine Below.drew ?_ | refine bel_dn ?_ _ | refine bel_set ?_ (Nat.le_refl _) _)), by rw [HG.out]⟩
   ·have e2 : ((x.op : Int) == 2) = false := opF (show ¬ x.op = 2 by omega)
    by_cases h3 : x.op = 3
    ·have e3 : ((x.op : Int) == 3) = true := opT (show x.op = 3 by omega)
     have e34 : ((x.op : Int) == 34) = false := opF (show ¬ x.op = 34 by omega)
     by_cases hA : x.A = 64
     ·have eA : (x.A == 64) = true := by simp [hA]
      by_cases hy : y.op = 11
      ·have y11 : ((y.op : Int) == 11) = true := opT (show y.op = 11 by omega)
       have HG := hid (show ruleL x y t = some (2, []) from by unfold ruleL; rw [if_neg (fun h => h65 h.1), if_pos ⟨by omega, hA, hy⟩])
       clear h65 hA hy h2 h3
       go_wp2_with fail
       refine bodyPost_ret (v := .tuple #[.slice none 0 0, .int .i64 2]) (by simp [results, Tryz.results82, go_sem]) rfl ?_
       exact ⟨_, _, _, _, rfl, by have := BL.out; (repeat (first | exact Below.refl _ _ | assumption | refine bel_al ?_ _ | refine Below.drew ?_ | refine bel_dn ?_ _ | refine bel_set ?_ (Nat.le_refl _) _)), by rw [HG.out]; exact ⟨rfl, BodS.nil _⟩⟩
      ·have y11 : ((y.op : Int) == 11) = false := opF (show ¬ y.op = 11 by omega)
       have HG := hid (show ruleL x y t = none from by unfold ruleL; rw [if_neg (fun h => h65 h.1), if_neg (fun h => hy h.2.2), if_neg (by omega), if_neg (fun h => h65 h.1)])
       clear h65 hA hy h2 h3
       go_wp2_with fail
       refine bodyPost_ret (v := .tuple #[.slice none 0 0, .int .i64 0]) (by simp [results, Tryz.results82, go_sem]) rfl ?_
       exact ⟨_, _, _, _, rfl, by have := BL.out; (repeat (first | exact Below.refl _ _ | assumption | refine bel_al ?_ _ | refine Below.drew ?_ | refine bel_dn ?_ _ | refine bel_set ?_ (Nat.le_refl _) _)), by rw [HG.out]⟩
     ·have eA : (x.A == 64) = false := by simp [hA]
      have HG := hid (show ruleL x y t = none from by unfold ruleL; rw [if_neg (fun h => h65 h.1), if_neg (fun h => hA h.2.1), if_neg (by omega), if_neg (fun h => h65 h.1)])
      clear h65 hA h2 h3
      go_wp2_with fail
      refine bodyPost_ret (v := .tuple #[.slice none 0 0, .int .i64 0]) (by simp [results, Tryz.results82, go_sem]) rfl ?_
      exact ⟨_, _, _, _, rfl, by have := BL.out; (repeat (first | exact Below.refl _ _ | assumption | refine bel_al ?_ _ | refine Below.drew ?_ | refine bel_dn ?_ _ | refine bel_set ?_ (Nat.le_refl _) _)), by rw [HG.out]⟩
    ·have e3 : ((x.op : Int) == 3) = false := opF (show ¬ x.op = 3 by omega)
     by_cases h34 : x.op = 34
     ·have e34 : ((x.op : Int) == 34) = true := opT (show x.op = 34 by omega)
      by_cases hy : y.op = 26
      ·have y26 : ((y.op : Int) == 26) = true := opT (show y.op = 26 by omega)
       have HG := hid (show ruleL x y t = some (2, [⟨33, x.A, 0, []⟩]) from by unfold ruleL; rw [if_neg (fun h => h65 h.1), if_neg (by omega), if_pos ⟨h34, hy⟩])
       clear h65 h2 h3 h34 hy
       go_wp2_with fail
       refine bodyPost_ret (v := .tuple #[.slice (some ⟨wc.heap.size, 0, none⟩) 1 1, .int .i64 2]) (by simp [results, Tryz.results82, go_sem]) rfl ?_
       exact ⟨_, _, _, _, rfl, by have := BL.out; (repeat (first | exact Below.refl _ _ | assumption | refine bel_al ?_ _ | refine Below.drew ?_ | refine bel_dn ?_ _ | refine bel_set ?_ (Nat.le_refl _) _)), by rw [HG.out]; exact ⟨rfl, BodS.made _ _ _ _ (by simp)⟩⟩
      ·have y26 : ((y.op : Int) == 26) = false := opF (show ¬ y.op = 26 by omega)
       have HG := hid (show ruleL x y t = none from by unfold ruleL; rw [if_neg (fun h => h65 h.1), if_neg (by omega), if_neg (fun h => hy h.2), if_neg (fun h => h65 h.1)])
       clear h65 h2 h3 h34 hy
       go_wp2_with fail
       refine bodyPost_ret (v := .tuple #[.slice none 0 0, .int .i64 0]) (by simp [results, Tryz.results82, go_sem]) rfl ?_
       exact ⟨_, _, _, _, rfl, by have := BL.out; (repeat (first | exact Below.refl _ _ | assumption | refine bel_al ?_ _ | refine Below.drew ?_ | refine bel_dn ?_ _ | refine bel_set ?_ (Nat.le_refl _) _)), by rw [HG.out]⟩
     ·have e34 : ((x.op : Int) == 34) = false := opF (show ¬ x.op = 34 by omega)
      have HG := hid (show ruleL x y t = none from by unfold ruleL; rw [if_neg (fun h => h65 h.1), if_neg (by omega), if_neg (fun h => h34 h.1), if_neg (fun h => h65 h.1)])
      clear h65 h2 h3 h34
      go_wp2_with fail
      refine bodyPost_ret (v := .tuple #[.slice none 0 0, .int .i64 0]) (by simp [results, Tryz.results82, go_sem]) rfl ?_
      exact ⟨_, _, _, _, rfl, by have := BL.out; (repeat (first | exact Below.refl _ _ | assumption | refine bel_al ?_ _ | refine Below.drew ?_ | refine bel_dn ?_ _ | refine bel_set ?_ (Nat.le_refl _) _)), by rw [HG.out]⟩
end Go.Proofs.YtakfineljffoaaaGreatDoor
namespace Go.Proofs.YtakfineljffoaaaGreatDoor
open Go.RowKit Go.Lib

theorem rm0 {x : It} {t : List It} (h : x.op = 1) : ruleM oM pM (x :: t) = some (1, []) := by rw [ruleM, if_pos h]
theorem rmE {x : It} (h : ¬ x.op = 1) : ruleM oM pM [x] = none := by rw [ruleM, if_neg h]; rfl
theorem r0_no {x : It} {t : List It} (h : ¬ x.op = 1) : r0 (x :: t) = none := by rw [r0, if_neg h]
theorem rm1 {x y : It} {r : List It} {q : Nat × List It} (h : ¬ x.op = 1) (h1 : r1 (x :: y :: r) = some q) : ruleM oM pM (x :: y :: r) = some q := by
  rw [← first_is]
  unfold rulesL
  rw [firstR, r0_no h]
  simp only
  rw [firstR, h1]
theorem rm2 {x y : It} {r : List It} {q : Nat × List It} (h : ¬ x.op = 1) (h1 : r1 (x :: y :: r) = none) (h2 : r2 (x :: y :: r) = some q) : ruleM oM pM (x :: y :: r) = some q := by
  rw [← first_is]
  unfold rulesL
  rw [firstR, r0_no h]
  simp only
  rw [firstR, h1]
  simp only
  rw [firstR, h2]
theorem rm3 {x y : It} {r : List It} (h : ¬ x.op = 1) (h1 : r1 (x :: y :: r) = none) (h2 : r2 (x :: y :: r) = none) : ruleM oM pM (x :: y :: r) = ruleC x y r := by
  rw [← first_is]
  unfold rulesL
  rw [firstR, r0_no h]
  simp only
  rw [firstR, h1]
  simp only
  rw [firstR, h2]
  exact first_c x y r
theorem r2_nil (x y : It) : r2 [x, y] = none := rfl
theorem rc_later {x y : It} {t : List It} (h1 : ¬ ((x.op = 65 ∨ x.op = 66 ∨ x.op = 32 ∨ x.op = 35) ∧ y.op = 26)) (h2 : ¬ (x.op = 65 ∧ y.op = 13)) (h3 : ¬ ((x.op = 0 ∨ x.op = 12 ∨ x.op = 14 ∨ x.op = 15) ∧ y.op ≠ 5 ∧ y.op ≠ 11)) (h4 : ¬ (x.op = 33 ∧ y.op = 32 ∧ x.A = y.A)) : ruleC x y t = ruleL x y t := by
  unfold ruleC ruleL
  rw [if_neg h1, if_neg h2, if_neg h3, if_neg h4]
theorem rc_unused {x y : It} {t : List It} (h1 : (x.op = 65 ∨ x.op = 66 ∨ x.op = 32 ∨ x.op = 35) ∧ y.op = 26) : ruleC x y t = some (2, []) := by unfold ruleC; rw [if_pos h1]
theorem rc_sure {x y : It} {t : List It} (h : x.op = 65 ∧ y.op = 13) : ruleC x y t = if x.A = 0 then some (2, []) else some (2, [⟨12, y.A, 0, []⟩]) := by unfold ruleC; rw [if_neg (by omega), if_pos h]
theorem rc_dead {x y : It} {t : List It} (h : (x.op = 0 ∨ x.op = 12 ∨ x.op = 14 ∨ x.op = 15) ∧ y.op ≠ 5 ∧ y.op ≠ 11) : ruleC x y t = some (1 + spanM (y :: t), [x]) := by unfold ruleC; rw [if_neg (by omega), if_neg (by omega), if_pos h]
theorem rc_kept {x y : It} {t : List It} (h : x.op = 33 ∧ y.op = 32 ∧ x.A = y.A) : ruleC x y t = some (2, [⟨34, x.A, 0, []⟩]) := by unfold ruleC; rw [if_neg (by omega), if_neg (by omega), if_neg (by omega), if_pos h]
theorem span_one {y : It} {t : List It} (h : ¬ (y.op = 2 ∨ y.op = 3 ∨ y.op = 4 ∨ y.op = 11)) : spanM (y :: t) = 1 := by
  have e : (if y.op = 2 ∨ y.op = 3 ∨ y.op = 4 then (0 : Int) + 1 else if y.op = 11 then 0 - 1 else 0) = 0 := by rw [if_neg (by omega), if_neg (by omega)]
  unfold spanM
  rw [spanA, e, if_pos rfl]
theorem BodS.tos {w : World} {b off n cap : Nat} {l : List It} (h : BodS w (.slice (some ⟨b, off, none⟩) n cap) l) (k : Nat) (hk : k < l.length) {u : Value} (hc : w.cell? ⟨b, off + k * 4 + 3, none⟩ = some u) : ItAt w [.int .u8 l[k].op, .int .i64 l[k].A, .int .i64 l[k].B, u] l[k] := by
  obtain ⟨u', hi, hq⟩ := h.at k hk
  have := (hq w (Below.refl _ _)).2.2.2
  rw [hc] at this
  simp only [Option.some.injEq] at this
  rw [this]
  exact hi
theorem ItAt.sl {w : World} {a b c u : Value} {x : It} (h : ItAt w [a, b, c, u] x) : ∃ ao cp, u = .slice ao x.tos.length cp := by
  obtain ⟨u', e, ⟨ao, cp, hv, _⟩⟩ := h
  simp only [List.cons.injEq, and_true] at e
  exact ⟨ao, cp, by rw [e.2.2.2, hv]⟩
def IPost (w : World) (v : Value) (x : It) (t : List It) : Prop := Calls Tryz.prog 43 #[v] w fun e w' => RIPost w (ruleM oM pM (x :: t)) e w'
structure IPre (w : World) (v : Value) (x : It) (t : List It) : Prop where
  ok : ∀ z ∈ x :: t, ItOk z
  fit : ∃ k st, run (x :: t) (k :: st) = some []
  bod : BodS w v (x :: t)
  le : (x :: t).length ≤ 200
end Go.Proofs.YtakfineljffoaaaGreatDoor
