/-
  LINKS, the reference's end: Offer. Conditions: the object's own invariant; lengths.
-/
import Derived.Test.YtalookaaogiinaaLkT
import Derived.Deep.RegionLaw
namespace Go.Proofs.Ytalookaaogiinaa
open Go.RowKit Go.Lib Go.Maps
attribute [local go_sem ↓] Go.wp_at_zero Go.wp_at_succ

theorem info_strk : (Try.prog.info? 9).map (fun i => (i.zero, i.size, i.bytes)) = some (some (.string ByteArray.empty), 1, 16) := by kernel_rfl
theorem elem_strk : Elem Try.prog 40 9 (.string ByteArray.empty) 1 16 := ⟨Try.underlying40, info_strk, rfl, by decide⟩
theorem elem_intk : Elem Try.prog 45 3 (.int .i64 0) 1 8 := ⟨Try.underlying45, by kernel_rfl, rfl, by decide⟩
theorem at_blkk {w : World} {b : Nat} {ty : TypeId} {cs : List Value} (h : Blk w b ty cs) : At w b 0 cs := fun j hj => by
  rw [Nat.zero_add]
  exact h.cell (List.getElem?_eq_getElem hj)
/-- the object while its rows grow -/
structure RMid (w : World) (base B : Nat) (p : RV) (s : RE) (vo : Value) (xo : List ByteArray) (vs : Value) (xs : List Int) : Prop where
  blk : Blk w B 48 (cellsR s p)
  ro : w.ownsRow base 9 1 vo xo.length (xo.map Value.string)
  rs : w.ownsRow base 3 1 vs xs.length (xs.map (Value.int .i64))
  rc : w.ownsRow base 9 1 p.vc s.came.length (s.came.map Value.string)
  rm : KeptS w p.M s.kept s.cnt
  ap : ∀ k, vo.ownBlock = some k → p.vc.ownBlock ≠ some k
  le : base ≤ B
  lm : base ≤ p.M
  base : base ≤ w.heap.size
theorem REB.mid {w : World} {base B : Nat} {p : RV} {s : RE} (h : REB w base B p s) : RMid w base B p s p.vo s.offered p.vs s.sent := ⟨h.blk, h.ro, h.rs, h.rc, h.rm, h.ap, h.le, h.lm, h.base⟩
theorem RMid.below {w w' : World} {base B : Nat} {p : RV} {s : RE} {vo vs : Value} {xo : List ByteArray} {xs : List Int} (h : RMid w base B p s vo xo vs xs) (hb : Below w.heap.size w w') : RMid w' base B p s vo xo vs xs :=
  ⟨h.blk.below hb, own_below h.ro hb, own_below h.rs hb, own_below h.rc hb, h.rm.same (hb.block _ h.rm.lt), h.ap, h.le, h.lm, Nat.le_trans h.base hb.size⟩
theorem RMid.alloc {w : World} {base B : Nat} {p : RV} {s : RE} {vo vs : Value} {xo : List ByteArray} {xs : List Int} (h : RMid w base B p s vo xo vs xs) (o : Obj) : RMid (w.alloc o) base B p s vo xo vs xs := h.below ((Below.refl _ _).alloc (Nat.le_refl _) _)
theorem RMid.drew {w : World} {base B : Nat} {p : RV} {s : RE} {vo vs : Value} {xo : List ByteArray} {xs : List Int} (h : RMid w base B p s vo xo vs xs) : RMid w.drew base B p s vo xo vs xs := h.below (drew_bel' (n := 1) (Below.refl _ _))
theorem mid_map {w w' : World} {e : TypeId} {base size n M c : Nat} {v : Value} {cs : List Value} {f : Int → Option ByteArray} (h : KeptS w M f c) (ho : w.ownsRow base e size v n cs) (hg : w.grownBy w' v.ownBlock) : KeptS w' M f c := by
  refine h.same (hg.block M h.lt (fun e => ?_))
  obtain ⟨cur, fr, h2⟩ := own_tyL ho e.symm
  obtain ⟨D, ⟨es, c2, h1, _⟩, _⟩ := h
  rw [h1] at h2
  simp at h2
theorem mid_ap {w w' : World} {base : Nat} {e : TypeId} {v v' u : Value} {n : Nat} {cs : List Value} (hg : Grew w v w' v') (h : ∀ k, v.ownBlock = some k → u.ownBlock ≠ some k) (hu : w.ownsRow base e 1 u n cs) : ∀ k, v'.ownBlock = some k → u.ownBlock ≠ some k := by
  intro k hk
  rcases hg.2 with g | ⟨j, g, hj⟩
  · exact h k (g ▸ hk)
  · intro e2
    rw [hk] at g
    injection g with g
    have := (World.ownsRow.lt hu k e2).2
    omega
theorem RMid.growO {w w' : World} {base B : Nat} {p : RV} {s : RE} {vo vs v' : Value} {xo : List ByteArray} {xs : List Int} (h : RMid w base B p s vo xo vs xs) (t : ByteArray) (hg : Grew w vo w' v') (ho : w'.ownsRow base 9 1 v' (xo.length + 1) (xo.map Value.string ++ [.string t])) : RMid w' base B p s v' (xo ++ [t]) vs xs := by
  have kt : KT 9 w w' := KT.grown hg.1 h.ro
  refine ⟨kt.blk h.blk rfl, by simpa using ho, kt.own h.rs rfl, ?_, mid_map h.rm h.ro hg.1, mid_ap hg h.ap h.rc, h.le, h.lm, Nat.le_trans h.base kt.1⟩
  exact (hg.other h.rc (fun k h1 h2 => h.ap k h2 h1)).1
theorem RMid.growS {w w' : World} {base B : Nat} {p : RV} {s : RE} {vo vs v' : Value} {xo : List ByteArray} {xs : List Int} (h : RMid w base B p s vo xo vs xs) (t : Int) (hg : Grew w vs w' v') (ho : w'.ownsRow base 3 1 v' (xs.length + 1) (xs.map (Value.int .i64) ++ [.int .i64 t])) : RMid w' base B p s vo xo v' (xs ++ [t]) := by
  have kt : KT 3 w w' := KT.grown hg.1 h.rs
  exact ⟨kt.blk h.blk rfl, kt.own h.ro rfl, by simpa using ho, kt.own h.rc rfl, mid_map h.rm h.rs hg.1, h.ap, h.le, h.lm, Nat.le_trans h.base kt.1⟩
theorem RMid.notB {w : World} {base B : Nat} {p : RV} {s : RE} {vo vs : Value} {xo : List ByteArray} {xs : List Int} (h : RMid w base B p s vo xo vs xs) : vo.ownBlock ≠ some B ∧ vs.ownBlock ≠ some B ∧ p.vc.ownBlock ≠ some B ∧ p.M ≠ B := by
  have hb := h.blk
  unfold Blk at hb
  have key : ∀ {e : TypeId} {v : Value} {n : Nat} {cs : List Value}, w.ownsRow base e 1 v n cs → e ≠ 48 → v.ownBlock ≠ some B := by
    intro e v n cs ho hne hk
    obtain ⟨cur, fr, h2⟩ := own_tyL ho hk
    rw [hb] at h2
    simp only [Option.some.injEq, Obj.cells.injEq] at h2
    exact hne h2.2.1.symm
  refine ⟨key h.ro (by decide), key h.rs (by decide), key h.rc (by decide), fun e => ?_⟩
  obtain ⟨D, ⟨es, c, h1, _⟩, _⟩ := h.rm
  rw [e, hb] at h1
  simp at h1
/-- both rows are stored back -/
theorem RMid.store {w : World} {base B : Nat} {p : RV} {s s' : RE} {vo vs : Value} {xo : List ByteArray} {xs : List Int} (h : RMid w base B p s vo xo vs xs) (hs : s' = { s with offered := xo, sent := xs }) : REB ((w.setCell ⟨B, 3, none⟩ vo).setCell ⟨B, 4, none⟩ vs) base B ⟨vo, vs, p.vc, p.M⟩ s' := by
  subst hs
  obtain ⟨n1, n2, n3, n4⟩ := h.notB
  refine ⟨(h.blk.set 3 vo).set 4 vs, ?_, ?_, ?_, ?_, h.ap, h.le, h.lm, by have := h.base; simp; omega⟩
  · exact ownsRow_setCell_other (a := ⟨B, 4, none⟩) (ownsRow_setCell_other (a := ⟨B, 3, none⟩) h.ro n1 _) n1 _
  · exact ownsRow_setCell_other (a := ⟨B, 4, none⟩) (ownsRow_setCell_other (a := ⟨B, 3, none⟩) h.rs n2 _) n2 _
  · exact ownsRow_setCell_other (a := ⟨B, 4, none⟩) (ownsRow_setCell_other (a := ⟨B, 3, none⟩) h.rc n3 _) n3 _
  · exact (h.rm.same (Below.heap_setCell _ _ _ _ (fun e => n4 e))).same (Below.heap_setCell _ _ _ _ (fun e => n4 e))
/-- where a row that grew lies -/
theorem grew_in {F : Nat → Prop} {w0 w w' : World} {v v' : Value} (hg : Grew w v w' v') (h : ∀ k, v.ownBlock = some k → F k ∨ w0.heap.size ≤ k) (hs : w0.heap.size ≤ w.heap.size) : ∀ k, v'.ownBlock = some k → F k ∨ w0.heap.size ≤ k := by
  intro k hk
  rcases hg.2 with g | ⟨j, g, hj⟩
  · exact h k (g ▸ hk)
  · rw [hk] at g
    injection g with g
    right; omega
theorem grew_touch {F : Nat → Prop} {w0 w w' : World} {v v' : Value} (ht : Touch F w0 w) (hg : Grew w v w' v') (h : ∀ k, v.ownBlock = some k → F k ∨ w0.heap.size ≤ k) : Touch F w0 w' :=
  ht.trans' (Touch.grown (F := fun j => v.ownBlock = some j) hg.1 (fun _ g => g)) (fun i hi hf => (h i hf).elim id (fun g => absurd hi (by omega)))
theorem roffer_end {w0 w5 : World} {base B : Nat} {p : RV} {s : RE} {vo vs : Value} {xo : List ByteArray} {xs : List Int} (M5 : RMid w5 base B p s vo xo vs xs) (T5 : Touch (footR B p) w0 w5) (fo : ∀ k, vo.ownBlock = some k → footR B p k ∨ w0.heap.size ≤ k) (fs : ∀ k, vs.ownBlock = some k → footR B p k ∨ w0.heap.size ≤ k) :
    RePost w0 base B p { s with offered := xo, sent := xs } ((w5.setCell ⟨B, 3, none⟩ vo).setCell ⟨B, 4, none⟩ vs) := by
  refine ⟨⟨vo, vs, p.vc, p.M⟩, M5.store rfl, (T5.put (.inl rfl) _).put (.inl rfl) _, ?_⟩
  rintro k (e | e | e | e | e)
  · exact .inl (.inl e)
  · exact fo k e
  · exact fs k e
  · exact .inl (.inr (.inr (.inr (.inl e))))
  · exact .inl (.inr (.inr (.inr (.inr e))))
set_option maxRecDepth 100000 in
set_option maxHeartbeats 8000000 in
theorem roffer_any (w : World) (base B : Nat) (p : RV) (s : RE) (t : ByteArray) (hn : s.offered.length ≤ 2000000000000) (hm : s.sent.length ≤ 2000000000000) (h : REB w base B p s) :
    Calls Try.prog 11 #[.pointer (some ⟨B, 0, none⟩), .string t] w fun e w' => e = .returned (.int .i64 (offE t)) ∧ RePost w base B p (if offE t = 0 then { s with offered := s.offered ++ [t], sent := s.sent ++ [-1] } else s) w' := by
  obtain ⟨vo, vs, vc, M⟩ := p
  obtain ⟨sa, cs, hvs, -⟩ := own_sl h.rs
  obtain ⟨ao, co, hvo, -⟩ := own_sl h.ro
  simp only at hvs hvo
  subst hvs hvo
  have H := hid h
  unfold offE
  by_cases h0 : 64 < t.size
  · rw [if_pos h0]
    have h1 : (64 : Int) < (t.size : Int) := by omega
    clear h
    go_enter Try.func11, Try.ntmps11
    go_wp2_with fail
    go_ret
    exact ⟨rfl, re_same H.out (Below.refl _ _)⟩
  · rw [if_neg h0]
    simp only [if_true]
    have h1 : ¬ ((64 : Int) < (t.size : Int)) := by omega
    have h2 : offE t = 0 := by unfold offE; rw [if_neg h0]
    have HE := hid h2
    clear h0 h2
    generalize hno : s.offered.length = no at *
    generalize hns : s.sent.length = ns at *
    have HNO := hid hno
    have HNS := hid hns
    clear hno hns
    have MA := hid (show RMid (w.alloc (.cells #[.string t] 9)).drew base B _ s _ _ _ _ from (H.out.mid.alloc (.cells #[.string t] 9)).drew)
    have MB := hid (show RMid (w.alloc (.cells #[.int .i64 (-1)] 3)).drew base B _ s _ _ _ _ from (H.out.mid.alloc (.cells #[.int .i64 (-1)] 3)).drew)
    have MAB := hid (show RMid ((w.alloc (.cells #[.string t] 9)).alloc (.cells #[.int .i64 (-1)] 3)).drew base B _ s _ _ _ _ from ((H.out.mid.alloc (.cells #[.string t] 9)).alloc (.cells #[.int .i64 (-1)] 3)).drew)
    have MBA := hid (show RMid ((w.alloc (.cells #[.int .i64 (-1)] 3)).alloc (.cells #[.string t] 9)).drew base B _ s _ _ _ _ from ((H.out.mid.alloc (.cells #[.int .i64 (-1)] 3)).alloc (.cells #[.string t] 9)).drew)
    have TA := hid (show Touch (footR B ⟨.slice ao no co, .slice sa ns cs, vc, M⟩) w (w.alloc (.cells #[.string t] 9)).drew from (Touch.of_below ((Below.refl _ _).alloc (Nat.le_refl _) _)).drew1)
    have TB := hid (show Touch (footR B ⟨.slice ao no co, .slice sa ns cs, vc, M⟩) w (w.alloc (.cells #[.int .i64 (-1)] 3)).drew from (Touch.of_below ((Below.refl _ _).alloc (Nat.le_refl _) _)).drew1)
    have TAB := hid (show Touch (footR B ⟨.slice ao no co, .slice sa ns cs, vc, M⟩) w ((w.alloc (.cells #[.string t] 9)).alloc (.cells #[.int .i64 (-1)] 3)).drew from (Touch.of_below (((Below.refl _ _).alloc (Nat.le_refl _) _).alloc (by simp) _)).drew1)
    have TBA := hid (show Touch (footR B ⟨.slice ao no co, .slice sa ns cs, vc, M⟩) w ((w.alloc (.cells #[.int .i64 (-1)] 3)).alloc (.cells #[.string t] 9)).drew from (Touch.of_below (((Below.refl _ _).alloc (Nat.le_refl _) _).alloc (by simp) _)).drew1)
    have AA := hid (show Blk (w.alloc (.cells #[.string t] 9)).drew w.heap.size 9 [.string t] from Blk.new w _ _ _ rfl)
    have AAB := hid (show Blk ((w.alloc (.cells #[.string t] 9)).alloc (.cells #[.int .i64 (-1)] 3)).drew w.heap.size 9 [.string t] from (Blk.new w _ _ _ rfl).alloc _)
    have ABA := hid (show Blk ((w.alloc (.cells #[.int .i64 (-1)] 3)).alloc (.cells #[.string t] 9)).drew (w.heap.size + 1) 9 [.string t] from Blk.new (w.alloc (.cells #[.int .i64 (-1)] 3)) _ _ _ (by simp))
    have BB := hid (show Blk (w.alloc (.cells #[.int .i64 (-1)] 3)).drew w.heap.size 3 [.int .i64 (-1)] from Blk.new w _ _ _ rfl)
    have BBA := hid (show Blk ((w.alloc (.cells #[.int .i64 (-1)] 3)).alloc (.cells #[.string t] 9)).drew w.heap.size 3 [.int .i64 (-1)] from (Blk.new w _ _ _ rfl).alloc _)
    have BAB := hid (show Blk ((w.alloc (.cells #[.string t] 9)).alloc (.cells #[.int .i64 (-1)] 3)).drew (w.heap.size + 1) 3 [.int .i64 (-1)] from Blk.new (w.alloc (.cells #[.string t] 9)) _ _ _ (by simp))
    have LO := hid (fun j (hj : (Value.slice ao no co).ownBlock = some j) => (World.ownsRow.lt H.out.ro j hj).2)
    have LS := hid (fun j (hj : (Value.slice sa ns cs).ownBlock = some j) => (World.ownsRow.lt H.out.rs j hj).2)
    have FO0 := hid (show ∀ k, (Value.slice ao no co).ownBlock = some k → footR B ⟨.slice ao no co, .slice sa ns cs, vc, M⟩ k ∨ w.heap.size ≤ k from fun k hk => .inl (.inr (.inl hk)))
    have FS0 := hid (show ∀ k, (Value.slice sa ns cs).ownBlock = some k → footR B ⟨.slice ao no co, .slice sa ns cs, vc, M⟩ k ∨ w.heap.size ≤ k from fun k hk => .inl (.inr (.inr (.inl hk))))
    have x3 := h.blk.cell (i := 3) rfl
    have x4 := h.blk.cell (i := 4) rfl
    simp only at x3 x4
    have x3d : w.drew.cell? ⟨B, 3, none⟩ = some (.slice ao no co) := x3
    have x4d : w.drew.cell? ⟨B, 4, none⟩ = some (.slice sa ns cs) := x4
    have x3a := fun o => cell_alloc o x3
    have x4a := fun o => cell_alloc o x4
    have x3b := fun o oo => cell_alloc oo (x3a o)
    have x4b := fun o oo => cell_alloc oo (x4a o)
    have hbase := h.base
    clear h
    go_enter Try.func11, Try.ntmps11
    go_wp2_with fail
    go_region_law (first | (have hfst := FSTB; refine step_one elem_strk (base := base) (v := (Value.slice ao no co)) (n := no) (xs := s.offered.map Value.string) (cs := [.string t]) (by rfl) _ _ (by rfl) (by rfl) (by rfl) (by first | exact at_blkk AT4.out | exact at_blkk (Blk.new w4 _ _ _ rfl)) (by first | exact (HNO.out ▸ M4.out.ro) | exact (HNO.out ▸ (M4.out.alloc (.cells #[.string t] 9)).ro)) (by rfl) (by intro c hc; simp at hc; subst hc; rfl) (by omega) (by omega) (by first | exact M4.out.base | exact (M4.out.alloc (.cells #[.string t] 9)).base) ?_; intro v5 w5 ho hb hg; have M5 := hid (RMid.growO (by first | exact M4.out | exact M4.out.alloc (.cells #[.string t] 9)) t hg (by rw [HNO.out]; exact ho)); have T5 := hid (grew_touch (by first | exact T4.out | exact T4.out.trans (Touch.of_below ((Below.refl _ _).alloc (Nat.le_refl _) (.cells #[.string t] 9)))) hg FO0.out); have FO := hid (grew_in hg FO0.out (by first | exact T4.out.size | (have := T4.out.size; simp; omega))); obtain ⟨ao1, co1, rfl, _⟩ := own_sl ho; have y3 := M5.out.blk.cell (i := 3) rfl; have y4 := M5.out.blk.cell (i := 4) rfl; have yf := M5.out.blk.free; clear ho hb hg) | (have hfst := FSTA; refine step_one elem_intk (base := base) (v := (Value.slice sa ns cs)) (n := ns) (xs := s.sent.map (Value.int .i64)) (cs := [.int .i64 (-1)]) (by rfl) _ _ (by rfl) (by rfl) (by rfl) (by first | exact at_blkk AT4.out | exact at_blkk (Blk.new w4 _ _ _ rfl)) (by first | exact (HNS.out ▸ M4.out.rs) | exact (HNS.out ▸ (M4.out.alloc (.cells #[.int .i64 (-1)] 3)).rs)) (by rfl) (by intro c hc; simp at hc; subst hc; rfl) (by omega) (by omega) (by first | exact M4.out.base | exact (M4.out.alloc (.cells #[.int .i64 (-1)] 3)).base) ?_; intro v5 w5 ho hb hg; have M5 := hid (RMid.growS (by first | exact M4.out | exact M4.out.alloc (.cells #[.int .i64 (-1)] 3)) (-1) hg (by rw [HNS.out]; exact ho)); have T5 := hid (grew_touch (by first | exact T4.out | exact T4.out.trans (Touch.of_below ((Below.refl _ _).alloc (Nat.le_refl _) (.cells #[.int .i64 (-1)] 3)))) hg FS0.out); have FS := hid (grew_in hg FS0.out (by first | exact T4.out.size | (have := T4.out.size; simp; omega))); obtain ⟨sa1, cs1, rfl, _⟩ := own_sl ho; have y3 := M5.out.blk.cell (i := 3) rfl; have y4 := M5.out.blk.cell (i := 4) rfl; have yf := M5.out.blk.free; clear ho hb hg) | (refine step_one elem_strk (base := base) (v := (Value.slice ao no co)) (n := no) (xs := s.offered.map Value.string) (cs := [.string t]) (by rfl) _ _ (by rfl) (by rfl) (by rfl) (by first | exact at_blkk AA.out | exact at_blkk AAB.out | exact at_blkk ABA.out) (by first | exact (HNO.out ▸ MA.out.ro) | exact (HNO.out ▸ MAB.out.ro) | exact (HNO.out ▸ MBA.out.ro)) (by rfl) (by intro c hc; simp at hc; subst hc; rfl) (by omega) (by omega) (by first | exact MA.out.base | exact MAB.out.base | exact MBA.out.base) ?_; intro v4 w4 ho hb hg; have M4 := hid (RMid.growO (by first | exact MA.out | exact MAB.out | exact MBA.out) t hg (by rw [HNO.out]; exact ho)); have T4 := hid (grew_touch (by first | exact TA.out | exact TAB.out | exact TBA.out) hg FO0.out); have FO := hid (grew_in hg FO0.out (by first | exact TA.out.size | exact TAB.out.size | exact TBA.out.size)); (try have AT4 := hid (Blk.touch (by first | exact BAB.out | exact BBA.out) (Touch.grown (F := fun j => (Value.slice ao no co).ownBlock = some j) hg.1 (fun j e => e)) (fun h => by have := LO.out _ h; omega))); obtain ⟨ao1, co1, rfl, _⟩ := own_sl ho; have FSTA := hid True.intro; have z3 := M4.out.blk.cell (i := 3) rfl; have z4 := M4.out.blk.cell (i := 4) rfl; have zf := M4.out.blk.free; have z3a := fun o => cell_alloc o z3; have z4a := fun o => cell_alloc o z4; clear ho hb hg) | (refine step_one elem_intk (base := base) (v := (Value.slice sa ns cs)) (n := ns) (xs := s.sent.map (Value.int .i64)) (cs := [.int .i64 (-1)]) (by rfl) _ _ (by rfl) (by rfl) (by rfl) (by first | exact at_blkk BB.out | exact at_blkk BAB.out | exact at_blkk BBA.out) (by first | exact (HNS.out ▸ MB.out.rs) | exact (HNS.out ▸ MAB.out.rs) | exact (HNS.out ▸ MBA.out.rs)) (by rfl) (by intro c hc; simp at hc; subst hc; rfl) (by omega) (by omega) (by first | exact MB.out.base | exact MAB.out.base | exact MBA.out.base) ?_; intro v4 w4 ho hb hg; have M4 := hid (RMid.growS (by first | exact MB.out | exact MAB.out | exact MBA.out) (-1) hg (by rw [HNS.out]; exact ho)); have T4 := hid (grew_touch (by first | exact TB.out | exact TAB.out | exact TBA.out) hg FS0.out); have FS := hid (grew_in hg FS0.out (by first | exact TB.out.size | exact TAB.out.size | exact TBA.out.size)); (try have AT4 := hid (Blk.touch (by first | exact AAB.out | exact ABA.out) (Touch.grown (F := fun j => (Value.slice sa ns cs).ownBlock = some j) hg.1 (fun j e => e)) (fun h => by have := LS.out _ h; omega))); obtain ⟨sa1, cs1, rfl, _⟩ := own_sl ho; have FSTB := hid True.intro; have z3 := M4.out.blk.cell (i := 3) rfl; have z4 := M4.out.blk.cell (i := 4) rfl; have zf := M4.out.blk.free; have z3a := fun o => cell_alloc o z3; have z4a := fun o => cell_alloc o z4; clear ho hb hg))
    all_goals
      go_wp2_with fail
      go_ret
      exact ⟨rfl, roffer_end M5.out T5.out FO.out FS.out⟩
end Go.Proofs.Ytalookaaogiinaa
