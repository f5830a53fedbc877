/-
  TIMERS: the line's Push and Pop; container/heap's Push, Pop, Remove. Conditions: the object's own invariant; lengths.
-/
import Derived.Test.YtalookaaogiinaaTmB
import Derived.Test.YtalookaaogiinaaKt
namespace Go.Proofs.Ytalookaaogiinaa
open Go.RowKit Go.Lib
attribute [local go_sem ↓] Go.wp_at_zero Go.wp_at_succ

def tmV (x : Tm) : Value := .agg #[.int .i64 x.id, .int .i64 x.due, .int .i64 x.turn]
abbrev cellsT (now turn : Int) (v : Value) : List Value := [.int .i64 now, .int .i64 turn, v]
structure TB (w : World) (base B : Nat) (now turn : Int) (v : Value) (l : List Tm) : Prop where
  blk : Blk w B 103 (cellsT now turn v)
  own : w.ownsRow base 108 3 v l.length (l.flatMap encTm)
  ne : v.ownBlock ≠ some B
  le : base ≤ B
  base : base ≤ w.heap.size
def footT (B : Nat) (v : Value) (k : Nat) : Prop := k = B ∨ v.ownBlock = some k
def FreshT (w : World) (v v' : Value) : Prop := ∀ k, v'.ownBlock = some k → v.ownBlock = some k ∨ w.heap.size ≤ k
def TPost (w : World) (base B : Nat) (v : Value) (now turn : Int) (l : List Tm) (w' : World) : Prop := ∃ v', TB w' base B now turn v' l ∧ Touch (footT B v) w w' ∧ FreshT w v v'
theorem TB.part {w : World} {base B : Nat} {now turn : Int} {v : Value} {l : List Tm} (h : TB w base B now turn v l) : Part base (footT B v) (fun w => TB w base B now turn v l) w := by
  refine ⟨h, h.base, ?_, ?_⟩
  · rintro k (e | e)
    · subst e; exact ⟨h.le, h.blk.lt⟩
    · exact h.own.lt k e
  · intro w' hs hb
    exact ⟨h.blk.same (hb B (.inl rfl)), own_same h.own (fun k hk => hb k (.inr hk)), h.ne, h.le, Nat.le_trans h.base hs⟩
theorem TB.below {w w' : World} {base B : Nat} {now turn : Int} {v : Value} {l : List Tm} (h : TB w base B now turn v l) (hb : Below w.heap.size w w') : TB w' base B now turn v l := (h.part.below hb).holds
theorem TB.tl {w : World} {base B : Nat} {now turn : Int} {v : Value} {l : List Tm} (h : TB w base B now turn v l) (h0 : 0 < l.length) : ∃ g cap, v = .slice (some ⟨g, 0, none⟩) l.length cap ∧ TL w base B now turn g cap l := by
  obtain ⟨g, cap, rfl, _, _, _, _⟩ := own_head h.own h0
  exact ⟨g, cap, rfl, h.blk, h.own, fun e => h.ne (by rw [← e]; rfl)⟩
theorem TL.tb {w : World} {base B : Nat} {now turn : Int} {g cap : Nat} {l : List Tm} (h : TL w base B now turn g cap l) (hl : base ≤ B) (hb : base ≤ w.heap.size) : TB w base B now turn (.slice (some ⟨g, 0, none⟩) l.length cap) l :=
  ⟨h.blk, h.own, fun e => h.ne (by simpa [Value.ownBlock] using e), hl, hb⟩
theorem TPost.same {w w' : World} {base B : Nat} {now turn : Int} {v : Value} {l : List Tm} (h : TB w base B now turn v l) (hb : Below w.heap.size w w') : TPost w base B v now turn l w' := ⟨v, h.below hb, Touch.of_below hb, fun _ hk => .inl hk⟩
theorem TPost.trans {w w1 w2 : World} {base B : Nat} {now2 turn2 : Int} {v v1 : Value} {l : List Tm} (h2 : TPost w1 base B v1 now2 turn2 l w2) (ht : Touch (footT B v) w w1) (hf : FreshT w v v1) : TPost w base B v now2 turn2 l w2 := by
  obtain ⟨v2, g1, g2, g3⟩ := h2
  refine ⟨v2, g1, ht.trans' g2 ?_, ?_⟩
  · rintro i hi (e | e)
    · exact .inl e
    · rcases hf i e with g | g
      · exact .inr g
      · omega
  · intro k hk
    rcases g3 k hk with g | g
    · exact hf k g
    · exact .inr (Nat.le_trans ht.size g)
theorem touchT {w w' : World} {B g n cap : Nat} (h : Touch (· = g) w w') : Touch (footT B (.slice (some ⟨g, 0, none⟩) n cap)) w w' := h.mono (fun k _ e => .inr (by rw [e]; rfl))
theorem tb_push {w w5 : World} {base B : Nat} {now turn : Int} {v v' : Value} {l : List Tm} {x : Tm} (h : TB w base B now turn v l) (hg : Grew w v w5 v') (ho : w5.ownsRow base 108 3 v' (l.length + 1) ((l ++ [x]).flatMap encTm)) (hb : Blk w5 B 103 (cellsT now turn v)) : TB (w5.setCell ⟨B, 2, none⟩ v') base B now turn v' (l ++ [x]) := by
  have hne : v'.ownBlock ≠ some B := by
    rcases hg.2 with g | ⟨j, g, hj⟩
    · rw [g]; exact h.ne
    · rw [g]; intro e; injection e with e; have := h.blk.lt; omega
  refine ⟨hb.set 2 v', ?_, hne, h.le, by have := hg.1.size; have := h.base; simp; omega⟩
  have := ownsRow_setCell_other (a := ⟨B, 2, none⟩) ho hne v'
  simpa using this
set_option maxRecDepth 100000 in
set_option maxHeartbeats 2000000 in
theorem lpush_any (w : World) (base B : Nat) (now turn : Int) (v : Value) (l : List Tm) (x : Tm) (hn : l.length ≤ 1000) (h : TB w base B now turn v l) :
    Calls Try.prog 106 #[.pointer (some ⟨B, 2, none⟩), .iface 108 (.agg #[.int .i64 x.id, .int .i64 x.due, .int .i64 x.turn])] w fun e w' => e = .returned (.tuple #[]) ∧ TPost w base B v now turn (l ++ [x]) w' := by
  obtain ⟨ao, cap, rfl, -⟩ := own_sl h.own
  have hbl := Blk.new w #[.int .i64 x.id, .int .i64 x.due, .int .i64 x.turn] 108 _ rfl
  have PA := hid (h.below ((Below.refl _ _).alloc (Nat.le_refl _) (.cells #[.int .i64 x.id, .int .i64 x.due, .int .i64 x.turn] 108)))
  have XA := hid hbl
  have HBA := hid ((Below.refl w.heap.size w).alloc (Nat.le_refl _) (.cells #[.int .i64 x.id, .int .i64 x.due, .int .i64 x.turn] 108))
  have H := hid h
  clear hbl h
  have hta : (Instr.typeAssert (.iface 108 (.agg #[.int .i64 x.id, .int .i64 x.due, .int .i64 x.turn])) 20 108 true).run Try.prog w = .ok (.tuple #[.agg #[.int .i64 x.id, .int .i64 x.due, .int .i64 x.turn], .bool true]) w := by kernel_rfl
  go_enter Try.func106, Try.ntmps106
  go_upto_region 2 with fail
  generalize hwa : w.alloc (.cells #[.int .i64 x.id, .int .i64 x.due, .int .i64 x.turn] 108) = wa at *
  have HWA := hid hwa
  have HSZ := hid (show w.heap.size < wa.heap.size from by rw [← hwa]; simp)
  clear hwa
  have PD := hid (show TB wa.drew base B now turn _ l from PA.out.part.drew1.holds)
  have c2 := PA.out.blk.cell (i := 2) rfl
  have c2d : wa.drew.cell? ⟨B, 2, none⟩ = some (.slice ao l.length cap) := c2
  have x0 := XA.out.cell (i := 0) rfl
  have x1 := XA.out.cell (i := 1) rfl
  have x2 := XA.out.cell (i := 2) rfl
  have x0d : wa.drew.cell? ⟨w.heap.size, 0, none⟩ = some (.int .i64 x.id) := x0
  have x1d : wa.drew.cell? ⟨w.heap.size, 1, none⟩ = some (.int .i64 x.due) := x1
  have x2d : wa.drew.cell? ⟨w.heap.size, 2, none⟩ = some (.int .i64 x.turn) := x2
  have c2e := fun o => cell_alloc o c2
  go_region_law (first | (refine step_one1 elem_Tm (base := base) (cs := encTm x) (by rfl) _ _ (by rfl) (by rfl) (by rfl) (by rfl) PD.out.own (by rfl) (by intro c hc; simp [encTm] at hc; rcases hc with rfl | rfl | rfl <;> rfl) (by omega) (by omega) PD.out.base ?_; intro v' w5 ho hb hg; have kt : KT 108 wa.drew w5 := KT.grown hg.1 PD.out.own; have B5 := hid (kt.blk PD.out.blk rfl); have y2 := B5.out.cell (i := 2) rfl; have yf := B5.out.free; have HG := hid (And.intro ho hg); obtain ⟨a5, k5, rfl, -⟩ := own_sl ho; clear ho hb hg kt))
  all_goals
    go_wp2_with fail
    go_end0
    refine ⟨rfl, _, tb_push (x := x) PD.out HG.out.2 (by rw [List.flatMap_append]; simpa [encTm] using HG.out.1) B5.out, ?_, ?_⟩
    · exact ((Touch.of_below HBA.out).drew1.trans' (Touch.grown (F := fun j => (Value.slice ao l.length cap).ownBlock = some j) HG.out.2.1 (fun _ g => g)) (fun i _ hf => .inr hf)).put (a := ⟨B, 2, none⟩) (.inl rfl) _
    · intro k hk
      rcases HG.out.2.2 with g | ⟨j, g, hj⟩
      · exact .inl (g ▸ hk)
      · rw [hk] at g
        injection g with g
        have h1 := HSZ.out
        have h2 : wa.heap.size ≤ j := hj
        right; omega
set_option maxRecDepth 100000 in
set_option maxHeartbeats 2000000 in
theorem lpop_any (w : World) (base B : Nat) (now turn : Int) (g cap k : Nat) (l : List Tm) (hk : l.length = k + 1) (hn : l.length ≤ 1000) (h : TL w base B now turn g cap l) :
    Calls Try.prog 105 #[.pointer (some ⟨B, 2, none⟩)] w fun e w' => e = .returned (.iface 108 (tmV (at0 l k))) ∧ TL w' base B now turn g cap (l.take k) ∧ Touch (· = B) w w' := by
  obtain ⟨g', cap', hv, hc1, hc2, hc, -⟩ := tm_at h.own (by omega)
  simp only [Value.slice.injEq, Option.some.injEq, Addr.mk.injEq, and_true, true_and] at hv
  obtain ⟨rfl, rfl⟩ := hv
  obtain ⟨a0, a1, a2⟩ := hc k (by omega)
  have HAT := hid (show at0 l k = l[k] from at_eq (by omega))
  have hpre := own_prefix h.own k (by omega)
  have HPRE := hid (show w.ownsRow base 108 3 (.slice (some ⟨g, 0, none⟩) k cap) k ((l.take k).flatMap encTm) from by rw [flatMap_take encTm_len]; exact hpre)
  have HTL := hid (show (l.take k).length = k from by rw [List.length_take]; omega)
  have c2 := h.blk.cell (i := 2) rfl
  have cf := h.blk.free
  rw [hk] at c2 hc1
  have HBK := hid h.blk
  have HNE := hid h.ne
  have hk1 : (k : Int) + 1 ≤ 1000 := by omega
  have hcap : (k : Int) ≤ (cap : Int) := by omega
  have hw : IntKind.i64.wrap (((k + 1 : Nat) : Int) - 1) = (k : Int) := by rw [IntWalk.i64_in _ (by omega)]; omega
  have HLT := hid (show B < w.heap.size from h.blk.lt)
  clear hpre hc h
  generalize l[k] = x at *
  have c2a := fun o => cell_alloc o c2
  have a0a := fun o => cell_alloc o a0
  have a1a := fun o => cell_alloc o a1
  have a2a := fun o => cell_alloc o a2
  have cfa : ∀ o i, (w.alloc o).frozen? ⟨B, i, none⟩ = false := fun o i => HBK.out.frozenAlloc i o
  have hbn : ¬ (w.heap.size = B) := by have := HLT.out; omega
  have hbn2 : ¬ (B = w.heap.size) := by have := HLT.out; omega
  go_enter Try.func105, Try.ntmps105
  go_wp2_with fail
  go_ret
  refine ⟨by rw [HAT.out]; rfl, ⟨?_, ?_, HNE.out⟩, Touch.put (F := fun k => k = B) (Touch.of_below ((Below.refl _ _).alloc (Nat.le_refl _) _)) (a := ⟨B, 2, none⟩) rfl _⟩
  · rw [HTL.out]
    exact (HBK.out.alloc _).set 2 (.slice (some ⟨g, 0, none⟩) k cap)
  · rw [HTL.out]
    exact ownsRow_setCell_other (a := ⟨B, 2, none⟩) (HPRE.out.alloc _) (fun e => HNE.out (by simpa [Value.ownBlock] using e)) _
set_option maxRecDepth 100000 in
theorem llen_any (w : World) (a : Option Addr) (n cap : Nat) : Calls Try.prog 102 #[.slice a n cap] w fun e w' => e = .returned (.int .i64 n) ∧ w = w' := by
  go_enter Try.func102, Try.ntmps102
  go_wp2_with fail
  go_ret
  exact ⟨rfl, rfl⟩
set_option maxRecDepth 100000 in
set_option maxHeartbeats 2000000 in
theorem hpush_any (w : World) (base B : Nat) (now turn : Int) (v : Value) (l : List Tm) (x : Tm) (hn : l.length ≤ 1000) (h : TB w base B now turn v l) :
    Calls Try.prog 48 #[.iface 106 (.pointer (some ⟨B, 2, none⟩)), .iface 108 (.agg #[.int .i64 x.id, .int .i64 x.due, .int .i64 x.turn])] w fun e w' => e = .returned (.tuple #[]) ∧ TPost w base B v now turn (pushL l x) w' := by
  have HP := hid (lpush_any w base B now turn v l x hn h)
  have HN := hid hn
  have H := hid h
  clear h
  go_enter Try.func48, Try.ntmps48
  go_wp2_with fail
  refine HP.out.mono ?_
  rintro e w1 ⟨rfl, v1, h1, ht1, hf1⟩
  obtain ⟨g, cap, rfl, hl1⟩ := h1.tl (by simp)
  have T1 := hid h1
  have L1 := hid hl1
  have HT1 := hid ht1
  have HF1 := hid hf1
  have hc := hl1.blk.cell (i := 2) rfl
  have HLN := hid (show (l ++ [x]).length = l.length + 1 from by simp)
  rw [HLN.out] at hc
  have hmt := fun n => meth_line info_len n w1 B _ hc
  have HLE := hid (fun wx => llen_any wx (some ⟨g, 0, none⟩) (l.length + 1) cap)
  have HU := hid (up_any w1 base B now turn g cap (l ++ [x]) l.length (l.length + 1) (by simp) (by omega) hl1)
  have hw : IntKind.i64.wrap (((l.length + 1 : Nat) : Int) - 1) = (l.length : Int) := by rw [IntWalk.i64_in _ (by omega)]; omega
  clear h1 hl1 ht1 hf1
  go_wp2_with fail
  refine (HLE.out _).mono ?_
  rintro e w2 ⟨rfl, rfl⟩
  go_wp2_with fail
  refine HU.out.mono ?_
  rintro e w3 ⟨rfl, hl3, ht3⟩
  have L3 := hid hl3
  have HT3 := hid ht3
  clear hl3 ht3
  go_wp2_with fail
  go_end0
  have hlen : (pushL l x).length = (l ++ [x]).length := by unfold pushL; rw [upL_len]
  refine ⟨rfl, TPost.trans (v1 := .slice (some ⟨g, 0, none⟩) (l ++ [x]).length cap) ?_ HT1.out HF1.out⟩
  have hb := TL.tb (l := pushL l x) L3.out T1.out.le (Nat.le_trans T1.out.base HT3.out.size)
  rw [hlen] at hb
  exact ⟨_, hb, touchT HT3.out, fun k hk => .inl hk⟩
def footL2 (B g : Nat) (k : Nat) : Prop := k = B ∨ k = g
theorem touchB {w w' : World} {B g : Nat} (h : Touch (· = g) w w') : Touch (footL2 B g) w w' := h.mono (fun _ _ e => .inr e)
theorem touchA {w w' : World} {B g : Nat} (h : Touch (· = B) w w') : Touch (footL2 B g) w w' := h.mono (fun _ _ e => .inl e)
set_option maxRecDepth 100000 in
set_option maxHeartbeats 2000000 in
theorem hpop_any (w : World) (base B : Nat) (now turn : Int) (g cap k : Nat) (l : List Tm) (hk : l.length = k + 1) (hn : l.length ≤ 1000) (h : TL w base B now turn g cap l) :
    Calls Try.prog 51 #[.iface 106 (.pointer (some ⟨B, 2, none⟩))] w fun e w' => (∃ u, e = .returned u) ∧ TL w' base B now turn g cap (popL l) ∧ Touch (footL2 B g) w w' := by
  have hc := h.blk.cell (i := 2) rfl
  rw [hk] at hc
  have hmt := fun n => meth_line info_len n w B _ hc
  have hmt2 := fun n => meth_line info_swap n w B _ hc
  have HLE := hid (fun wx => llen_any wx (some ⟨g, 0, none⟩) (k + 1) cap)
  have hsw := swap_any w base g cap l 0 k (by omega) (by omega) h.own
  rw [hk] at hsw
  have HSW := hid hsw
  have hw : IntKind.i64.wrap (((k + 1 : Nat) : Int) - 1) = (k : Int) := by rw [IntWalk.i64_in _ (by omega)]; omega
  have hk1 : (k : Int) + 1 ≤ 1000 := by omega
  have H := hid h
  have HK := hid hk
  clear h hsw hk hn
  go_enter Try.func51, Try.ntmps51
  go_wp2_with fail
  refine (HLE.out _).mono ?_
  rintro e w1 ⟨rfl, rfl⟩
  go_wp2_with fail
  refine HSW.out.mono ?_
  rintro e w2 ⟨rfl, ho, ht⟩
  have T2 := hid (H.out.swapped (by rw [HK.out]; exact ho) ht (swapL_len _ _ _))
  have HT2 := hid ht
  have HD := hid (down_any w2 base B now turn g cap (swapL l 0 k) 0 k l.length (by rw [swapL_len, HK.out]; omega) (by rw [swapL_len, HK.out]; omega) (by rw [swapL_len, HK.out]; omega) (by rw [HK.out]; omega) T2.out)
  clear ho ht
  go_wp2_with fail
  refine HD.out.mono ?_
  rintro e w3 ⟨rfl, hl3, ht3⟩
  have T3 := hid hl3
  have HT3 := hid ht3
  have HP := hid (lpop_any w3 base B now turn g cap k _ (by rw [downL_len, swapL_len, HK.out]) (by rw [downL_len, swapL_len, HK.out]; omega) hl3)
  clear hl3 ht3
  go_wp2_with fail
  refine HP.out.mono ?_
  rintro e w4 ⟨rfl, hl4, ht4⟩
  have T4 := hid hl4
  have HT4 := hid ht4
  clear hl4 ht4
  go_wp2_with fail
  go_ret
  refine ⟨⟨_, rfl⟩, ?_, ((touchB HT2.out).trans (touchB HT3.out)).trans (touchA HT4.out)⟩
  have := T4.out
  unfold popL
  rw [HK.out]
  rw [HK.out] at this
  exact this
set_option maxRecDepth 100000 in
set_option maxHeartbeats 2000000 in
theorem hrem_any (w : World) (base B : Nat) (now turn : Int) (g cap k i : Nat) (l : List Tm) (hk : l.length = k + 1) (hn : l.length ≤ 1000) (hi : i < l.length) (h : TL w base B now turn g cap l) :
    Calls Try.prog 50 #[.iface 106 (.pointer (some ⟨B, 2, none⟩)), .int .i64 i] w fun e w' => (∃ u, e = .returned u) ∧ TL w' base B now turn g cap (remL l i) ∧ Touch (footL2 B g) w w' := by
  have hc := h.blk.cell (i := 2) rfl
  rw [hk] at hc
  have hmt := fun n => meth_line info_len n w B _ hc
  have hmt2 := fun n => meth_line info_swap n w B _ hc
  have HLE := hid (fun wx => llen_any wx (some ⟨g, 0, none⟩) (k + 1) cap)
  have hsw := swap_any w base g cap l i k hi (by omega) h.own
  rw [hk] at hsw
  have HSW := hid hsw
  have hw : IntKind.i64.wrap (((k + 1 : Nat) : Int) - 1) = (k : Int) := by rw [IntWalk.i64_in _ (by omega)]; omega
  have hk1 : (k : Int) + 1 ≤ 1000 := by omega
  have H := hid h
  have HK := hid hk
  have HI := hid hi
  have hi1 : (i : Int) ≤ 1000 := by omega
  have hpop := fun (w3 : World) (m : List Tm) (hm : m.length = k + 1) h3 => lpop_any w3 base B now turn g cap k m hm (by omega) h3
  have HPOP := hid hpop
  by_cases hik : i = k
  · have hne : ((k : Int) != (i : Int)) = false := by simp [hik]
    have HR := hid (show remL l i = l.take k from by unfold remL; rw [hk, if_pos (by omega)]; rfl)
    clear h hsw hk hn hi hpop
    subst hik
    go_enter Try.func50, Try.ntmps50
    go_wp2_with fail
    refine (HLE.out _).mono ?_
    rintro e w1 ⟨rfl, rfl⟩
    go_wp2_with fail
    refine (HPOP.out _ l HK.out H.out).mono ?_
    rintro e w4 ⟨rfl, hl4, ht4⟩
    have T4 := hid hl4
    have HT4 := hid ht4
    clear hl4 ht4
    go_wp2_with fail
    go_ret
    exact ⟨⟨_, rfl⟩, by rw [HR.out]; exact T4.out, touchA HT4.out⟩
  · have hne : ((k : Int) != (i : Int)) = true := by simp; omega
    have hlt : (i : Int) < (k : Int) := by omega
    have HR := hid (show remL l i = (if (downL l.length (swapL l i k) i k).2 > i then (downL l.length (swapL l i k) i k).1 else upL (l.length + 1) (downL l.length (swapL l i k) i k).1 i).take k from by
      unfold remL
      rw [hk, if_neg (by omega)]
      rfl)
    clear h hsw hk hn hi hpop
    go_enter Try.func50, Try.ntmps50
    go_wp2_with fail
    refine (HLE.out _).mono ?_
    rintro e w1 ⟨rfl, rfl⟩
    go_wp2_with fail
    refine HSW.out.mono ?_
    rintro e w2 ⟨rfl, ho, ht⟩
    have T2 := hid (H.out.swapped (by rw [HK.out]; exact ho) ht (swapL_len _ _ _))
    have HT2 := hid ht
    have HD := hid (down_any w2 base B now turn g cap (swapL l i k) i k l.length (by rw [swapL_len, HK.out]; omega) (by rw [swapL_len]; exact HI.out) (by rw [swapL_len, HK.out]; omega) (by rw [HK.out]; omega) T2.out)
    have HDL := hid (show (downL l.length (swapL l i k) i k).1.length = k + 1 from by rw [downL_len, swapL_len, HK.out])
    clear ho ht
    generalize downL l.length (swapL l i k) i k = d at *
    obtain ⟨m, q⟩ := d
    simp only at HD HDL HR
    go_wp2_with fail
    refine HD.out.mono ?_
    rintro e w3 ⟨rfl, hl3, ht3⟩
    have T3 := hid hl3
    have HT3 := hid ht3
    clear hl3 ht3
    by_cases hq : i < q
    · have HR2 := hid (show remL l i = m.take k from by rw [HR.out, if_pos hq])
      rw [decide_eq_true hq]
      clear hq
      go_wp2_with fail
      refine (HPOP.out _ m HDL.out T3.out).mono ?_
      rintro e w4 ⟨rfl, hl4, ht4⟩
      have T4 := hid hl4
      have HT4 := hid ht4
      clear hl4 ht4
      go_wp2_with fail
      go_ret
      exact ⟨⟨_, rfl⟩, by rw [HR2.out]; exact T4.out, ((touchB HT2.out).trans (touchB HT3.out)).trans (touchA HT4.out)⟩
    · have HR2 := hid (show remL l i = (upL (l.length + 1) m i).take k from by rw [HR.out, if_neg (fun g => hq g)])
      rw [decide_eq_false hq]
      have HU := hid (up_any w3 base B now turn g cap m i (l.length + 1) (by rw [HDL.out, ← HK.out]; exact HI.out) (by have := HI.out; omega) T3.out)
      clear hq
      go_wp2_with fail
      refine HU.out.mono ?_
      rintro e w4 ⟨rfl, hl4, ht4⟩
      have T4 := hid hl4
      have HT4 := hid ht4
      clear hl4 ht4
      go_wp2_with fail
      refine (HPOP.out _ _ (by rw [upL_len]; exact HDL.out) T4.out).mono ?_
      rintro e w5 ⟨rfl, hl5, ht5⟩
      have T5 := hid hl5
      have HT5 := hid ht5
      clear hl5 ht5
      go_wp2_with fail
      go_ret
      exact ⟨⟨_, rfl⟩, by rw [HR2.out]; exact T5.out, (((touchB HT2.out).trans (touchB HT3.out)).trans (touchB HT4.out)).trans (touchA HT5.out)⟩
end Go.Proofs.Ytalookaaogiinaa
