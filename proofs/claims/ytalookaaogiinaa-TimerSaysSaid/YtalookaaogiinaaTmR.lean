/-
  TIMERS, the reference's clock: its memory; Set. Conditions: the object's own invariant; lengths.
-/
import Derived.Test.YtalookaaogiinaaTmT
import Derived.Test.YtalookaaogiinaaAl
import Derived.Lib.MinMax
namespace Go.Proofs.Ytalookaaogiinaa
open Go.RowKit Go.Lib
attribute [local go_sem ↓] Go.wp_at_zero Go.wp_at_succ

def alOf (p : Int × Int) : Al := ⟨p.1, p.2⟩
def encA2 (p : Int × Int) : List Value := [.int .i64 p.1, .int .i64 p.2]
theorem encA2_len (p : Int × Int) : (encA2 p).length = 2 := rfl
theorem encA2_one (xs : List (Int × Int)) : ∀ c ∈ xs.flatMap encA2, c.oneCell' = true := by
  intro c hc
  obtain ⟨x, _, hx⟩ := List.mem_flatMap.1 hc
  simp only [encA2, List.mem_cons, List.not_mem_nil, or_false] at hx
  rcases hx with rfl | rfl <;> rfl
theorem al_rows (l : List (Int × Int)) : (l.map alOf).flatMap encAl = l.flatMap encA2 := by
  induction l with
  | nil => rfl
  | cons x l ih => rw [List.map_cons, List.flatMap_cons, List.flatMap_cons, ih]; rfl
theorem copy_A2 (v : Value) (l : List (Int × Int)) (w : World) (hv : Sl w v l.length (l.flatMap encA2)) (hl : l.length ≤ 1000) :
    Calls Try.prog 49 #[v] w fun e w' => ∃ v', e = .returned v' ∧ w'.ownsRow w.heap.size 110 2 v' l.length (l.flatMap encA2) ∧ Below w.heap.size w w' := by
  refine (copy_Al v (l.map alOf) w (by show Sl w v (l.map alOf).length _; rw [List.length_map, al_rows]; exact hv) (by rw [List.length_map]; omega) (by rw [List.length_map]; omega)).mono ?_
  rintro e w' ⟨v', rfl, ho, hb⟩
  refine ⟨v', rfl, ?_, hb⟩
  have ho2 : w'.ownsRow w.heap.size 110 2 v' (l.map alOf).length ((l.map alOf).flatMap encAl) := ho
  rw [List.length_map, al_rows] at ho2
  exact ho2
structure RB (w : World) (base B : Nat) (v : Value) (r : RT) : Prop where
  blk : Blk w B 56 [.int .i64 r.now, v]
  own : w.ownsRow base 110 2 v r.L.length (r.L.flatMap encA2)
  ne : v.ownBlock ≠ some B
  le : base ≤ B
  base : base ≤ w.heap.size
def RPost (w : World) (base B : Nat) (v : Value) (r : RT) (w' : World) : Prop := ∃ v', RB w' base B v' r ∧ Touch (footT B v) w w' ∧ FreshT w v v'
theorem RB.part {w : World} {base B : Nat} {v : Value} {r : RT} (h : RB w base B v r) : Part base (footT B v) (fun w => RB w base B v r) w := by
  refine ⟨h, h.base, ?_, ?_⟩
  · rintro k (e | e)
    · subst e; exact ⟨h.le, h.blk.lt⟩
    · exact h.own.lt k e
  · intro w' hs hb
    exact ⟨h.blk.same (hb B (.inl rfl)), own_same h.own (fun k hk => hb k (.inr hk)), h.ne, h.le, Nat.le_trans h.base hs⟩
theorem RB.below {w w' : World} {base B : Nat} {v : Value} {r : RT} (h : RB w base B v r) (hb : Below w.heap.size w w') : RB w' base B v r := (h.part.below hb).holds
theorem RPost.same {w w' : World} {base B : Nat} {v : Value} {r : RT} (h : RB w base B v r) (hb : Below w.heap.size w w') : RPost w base B v r w' := ⟨v, h.below hb, Touch.of_below hb, fun _ hk => .inl hk⟩
/-- a new row is stored -/
theorem RB.row {w w5 : World} {base B b5 : Nat} {v v' : Value} {r : RT} {L : List (Int × Int)} (h : RB w base B v r) (hb : Below w.heap.size w w5) (hw : w.heap.size ≤ b5) (ho : w5.ownsRow b5 110 2 v' L.length (L.flatMap encA2)) : RPost w base B v { r with L := L } (w5.setCell ⟨B, 1, none⟩ v') := by
  have hlt := h.blk.lt
  have hn : v'.ownBlock ≠ some B := fun e => by have := (ho.lt B e).1; omega
  refine ⟨v', ⟨(h.blk.below hb).set 1 v', ownsRow_setCell_other (a := ⟨B, 1, none⟩) (own_mono' ho (Nat.le_trans h.base hw)) hn _, hn, h.le, by have := hb.size; have := h.base; simp; omega⟩, (Touch.of_below hb).put (a := ⟨B, 1, none⟩) (.inl rfl) _, fun k hk => .inr (Nat.le_trans hw (ho.lt k hk).1)⟩
/-- where one of its row lies -/
theorem al_at {w : World} {base : Nat} {v : Value} {l : List (Int × Int)} (h : w.ownsRow base 110 2 v l.length (l.flatMap encA2)) (h0 : 0 < l.length) :
    ∃ g cap, v = .slice (some ⟨g, 0, none⟩) l.length cap ∧ l.length ≤ cap ∧ cap ≤ 9223372036854775807 ∧ ∀ k (hk : k < l.length), w.cell? ⟨g, k * 2, none⟩ = some (.int .i64 l[k].1) ∧ w.cell? ⟨g, k * 2 + 1, none⟩ = some (.int .i64 l[k].2) := by
  have hl : Lk encA2 w v l := own_sl h
  obtain ⟨g, cap, rfl, hg, hlt, h1, h2⟩ := own_head h h0
  obtain ⟨_, _, _, hc⟩ := lk_cells hl encA2_len (by decide) h0
  refine ⟨g, cap, rfl, h1, h2, fun k hk => ?_⟩
  have c0 := hc k hk 0 (by decide)
  have c1 := hc k hk 1 (by decide)
  simp only [Nat.zero_add, Nat.add_zero] at c0 c1
  exact ⟨c0, c1⟩
theorem at_blkt {w : World} {b : Nat} {ty : TypeId} {cs : List Value} (h : Blk w b ty cs) : At w b 0 cs := fun j hj => by
  rw [Nat.zero_add]
  exact h.cell (List.getElem?_eq_getElem hj)
set_option maxRecDepth 100000 in
set_option maxHeartbeats 4000000 in
theorem rtset_any (w : World) (base B : Nat) (v : Value) (r : RT) (id wait : Int) (hn : r.L.length ≤ 32) (hnow : 0 ≤ r.now ∧ r.now ≤ 1099511627776) (h : RB w base B v r) :
    Calls Try.prog 25 #[.pointer (some ⟨B, 0, none⟩), .int .i64 id, .int .i64 wait] w fun e w' => e = .returned (.int .i64 (setE r.now wait (decide (0 ≤ findR r id)) r.L.length)) ∧ RPost w base B v (setR r id wait) w' := by
  obtain ⟨now, l⟩ := r
  simp only at hn hnow
  have HSP := hid (show setR ⟨now, l⟩ id wait = if setE now wait (decide (0 ≤ fstI (fun t : Int × Int => decide (t.1 = id)) l)) l.length = 0 then ⟨now, l ++ [(id, now + wait)]⟩ else ⟨now, l⟩ from rfl)
  rw [show findR ⟨now, l⟩ id = fstI (fun t : Int × Int => decide (t.1 = id)) l from rfl]
  obtain ⟨fi, hfi⟩ : ∃ fi, fstI (fun t : Int × Int => decide (t.1 = id)) l = fi := ⟨_, rfl⟩
  have hfb := fstI_bounds (fun t : Int × Int => decide (t.1 = id)) l
  rw [hfi] at HSP hfb ⊢
  have HFI := hid hfi
  generalize setR ⟨now, l⟩ id wait = sp at *
  have H := hid h
  obtain ⟨ao, cap, rfl, -⟩ := own_sl h.own
  have c1 := h.blk.cell (i := 1) rfl
  simp only at c1
  clear h hfi
  obtain ⟨hn0, hn1⟩ := hnow
  unfold setE at HSP ⊢
  by_cases h1 : wait < 1 ∨ 1099511627776 < wait
  · rw [if_pos h1] at HSP ⊢
    have HS2 := hid (show sp = ⟨now, l⟩ from by rw [HSP.out]; rfl)
    clear HSP
    rcases (show wait < 1 ∨ (¬ wait < 1 ∧ 1099511627776 < wait) from by omega) with g | ⟨g1, g2⟩
    all_goals
      clear h1
      go_enter Try.func25, Try.ntmps25
      go_wp2_with fail
      go_ret
      rw [HS2.out]
      exact ⟨rfl, RPost.same H.out (Below.refl _ _)⟩
  · rw [if_neg h1] at HSP ⊢
    have g1 : ¬ wait < 1 := by omega
    have g2 : ¬ 1099511627776 < wait := by omega
    clear h1
    have HANS := hid (show (if decide (0 ≤ fi) = true then (14 : Int) else if 32 ≤ l.length then 16 else if 1099511627776 - now < wait then 2 else 0) = (if decide (0 ≤ fi) = true then (14 : Int) else if 32 ≤ l.length then 16 else if 1099511627776 - now < wait then 2 else 0) from rfl)
    generalize hans : (if decide (0 ≤ fi) = true then (14 : Int) else if 32 ≤ l.length then 16 else if 1099511627776 - now < wait then 2 else 0) = ans at *
    have HA := hid hans
    clear hans HANS
    go_enter Try.func25, Try.ntmps25
    go_wp2_with fail
    go_loopw [8, 20] (fun _ i wr => ∃ k : Nat, k ≤ l.length ∧ i = .int .i64 k ∧ Hid (∀ j (hj : j < k) (hl : j < l.length), decide (l[j].1 = id) = false) ∧ Below w.heap.size w wr) (fun _ i _ => l.length - (intOf i).toNat)
    case atStart => exact ⟨0, Nat.zero_le _, rfl, fun j hj => by omega, Below.refl _ _⟩
    case round =>
      obtain ⟨k, hk, rfl, hall, hbel⟩ := hrel
      by_cases hlt : k < l.length
      · obtain ⟨g, cap', hv, hc1, hc2, hc⟩ := al_at (H.out.below hbel).own (by show 0 < l.length; omega)
        simp only [Value.slice.injEq] at hv
        obtain ⟨rfl, -, rfl⟩ := hv
        obtain ⟨a0, a1⟩ := hc k hlt
        simp only at a0 a1
        have hsz := hbel.size
        have HF := hid (fun (e : decide (l[k].1 = id) = true) => (show fi = k from by rw [← HFI.out]; exact fstI_at hlt e (fun j hj => hall j hj (by omega))))
        have HN := hid (fun (e : decide (l[k].1 = id) = false) => (show ∀ j (hj : j < k + 1) (hl : j < l.length), decide (l[j].1 = id) = false from fun j hj hl => by
          rcases Nat.lt_or_eq_of_le (Nat.le_of_lt_succ hj) with g | g
          · exact hall j g hl
          · subst g; exact e))
        have HB := hid hbel
        clear hc hall hbel
        generalize l[k] = x at *
        obtain ⟨xi, xd⟩ := x
        simp only at a0 a1 HF HN
        by_cases he : xi = id
        · have HF2 := hid (HF.out (decide_eq_true he))
          have he2 : (xi == id) = true := by simpa using he
          clear he HN
          go_wp2_with fail
          go_ret
          have hA : ans = 14 := by rw [← HA.out, HF2.out, if_pos (decide_eq_true (by omega))]
          rw [hA] at HSP ⊢
          have : sp = ⟨now, l⟩ := by rw [HSP.out]; rfl
          rw [this]
          exact ⟨rfl, RPost.same H.out (HB.out.alloc hsz _)⟩
        · have HN2 := hid (HN.out (decide_eq_false he))
          have he2 : (xi == id) = false := by simpa using he
          clear he HF
          go_wp2_with fail
          go_roundw
          case rel => exact ⟨k + 1, by omega, by go_num, HN2.out, HB.out.alloc hsz _⟩
          case measure => simp [RowKit.intOf]; omega
      · obtain rfl : k = l.length := by omega
        have HF := hid (show fi = -1 from by rw [← HFI.out]; exact fstI_no (fun j hj => hall j hj hj))
        have R1 := hid (H.out.below hbel)
        have HB := hid hbel
        clear hall hbel c1
        have c1 := R1.out.blk.cell (i := 1) rfl
        have c0 := R1.out.blk.cell (i := 0) rfl
        simp only at c0 c1
        have hA0 : ans = (if 32 ≤ l.length then 16 else if 1099511627776 - now < wait then 2 else 0) := by rw [← HA.out, HF.out]; rfl
        clear HA
        by_cases h3 : 32 ≤ l.length
        · have hA : ans = 16 := by rw [hA0, if_pos h3]
          have HAA := hid hA
          have he : (32 : Int) ≤ (l.length : Int) := by omega
          clear hA hA0
          go_wp2_with fail
          go_ret
          rw [HAA.out] at HSP ⊢
          have : sp = ⟨now, l⟩ := by rw [HSP.out]; rfl
          rw [this]
          exact ⟨rfl, RPost.same H.out HB.out⟩
        · have he : ¬ ((32 : Int) ≤ (l.length : Int)) := by omega
          by_cases h4 : 1099511627776 - now < wait
          · have hA : ans = 2 := by rw [hA0, if_neg h3, if_pos h4]
            have HAA := hid hA
            have h5 : 1099511627776 < now + wait := by omega
            clear hA hA0
            go_wp2_with fail
            go_ret
            rw [HAA.out] at HSP ⊢
            have : sp = ⟨now, l⟩ := by rw [HSP.out]; rfl
            rw [this]
            exact ⟨rfl, RPost.same H.out HB.out⟩
          · have hA : ans = 0 := by rw [hA0, if_neg h3, if_neg h4]
            have HS2 := hid (show sp = ⟨now, l ++ [(id, now + wait)]⟩ from by rw [HSP.out, hA]; rfl)
            have HAA := hid hA
            have h5 : ¬ (1099511627776 < now + wait) := by omega
            clear hA hA0 HSP
            go_upto_region 13 with fail
            have hw1 : IntKind.i64.wrap (now + wait) = now + wait := IntWalk.i64_in _ (by omega)
            have RD0 := hid (show RB wr.drew base B (.slice ao l.length cap) ⟨now, l⟩ from R1.out.below (drew_bel' (n := 1) (Below.refl _ _)))
            have RD1 := hid (show RB (wr.alloc (.cells #[.int .i64 id, .int .i64 (now + wait)] 110)).drew base B (.slice ao l.length cap) ⟨now, l⟩ from (R1.out.below ((Below.refl _ _).alloc (Nat.le_refl _) (.cells #[.int .i64 id, .int .i64 (now + wait)] 110))).below (drew_bel' (n := 1) (Below.refl _ _)))
            have BD0 := hid (show Below wr.heap.size wr wr.drew from drew_bel' (n := 1) (Below.refl _ _))
            have BD1 := hid (show Below wr.heap.size wr (wr.alloc (.cells #[.int .i64 id, .int .i64 (now + wait)] 110)).drew from drew_bel' (n := 1) ((Below.refl _ _).alloc (Nat.le_refl _) (.cells #[.int .i64 id, .int .i64 (now + wait)] 110)))
            have BX1 := hid (show Blk (wr.alloc (.cells #[.int .i64 id, .int .i64 (now + wait)] 110)).drew wr.heap.size 110 [.int .i64 id, .int .i64 (now + wait)] from Blk.new wr _ _ _ rfl)
            have c0d : wr.drew.cell? ⟨B, 0, none⟩ = some (.int .i64 now) := c0
            have c1d : wr.drew.cell? ⟨B, 1, none⟩ = some (.slice ao l.length cap) := c1
            have c0a := fun o => cell_alloc o c0
            have c1a := fun o => cell_alloc o c1
            have hn32 : l.length ≤ 32 := by omega
            go_region_law (first | (go_simp; go_at_call 49; refine (copy_A2 _ l _ (by first | exact own_sl RD0.out.own | exact own_sl RD1.out.own) (by omega)).mono ?_; rintro e w2 ⟨v2, rfl, ho2, hb2⟩; have R2 := hid (show RB w2 base B (.slice ao l.length cap) ⟨now, l⟩ from by first | exact RD0.out.below hb2 | exact RD1.out.below hb2); have B2 := hid (show Below wr.heap.size wr w2 from by first | exact BD0.out.trans (hb2.mono BD0.out.size) | exact BD1.out.trans (hb2.mono BD1.out.size)); have O2 := hid (show w2.ownsRow wr.heap.size 110 2 v2 l.length (l.flatMap encA2) from by first | exact own_mono' ho2 BD0.out.size | exact own_mono' ho2 BD1.out.size); (try have AX := hid (BX1.out.below hb2)); have z0 := R2.out.blk.cell (i := 0) rfl; have z1 := R2.out.blk.cell (i := 1) rfl; have z0a := fun o => cell_alloc o z0; have z1a := fun o => cell_alloc o z1; clear ho2 hb2) | (refine step_one elem_Al (base := wr.heap.size) (n := l.length) (xs := l.flatMap encA2) (cs := [.int .i64 id, .int .i64 (now + wait)]) (by rfl) _ _ (by rfl) (by rfl) (by rfl) (by first | exact at_blkt AX.out | exact at_blkt (Blk.new w2 _ _ _ rfl)) (by first | exact O2.out | exact O2.out.alloc (.cells #[.int .i64 id, .int .i64 (now + wait)] 110)) (by rfl) (by intro c hc; simp at hc; rcases hc with rfl | rfl <;> rfl) (by omega) (by omega) (by first | exact B2.out.size | exact (B2.out.alloc B2.out.size (.cells #[.int .i64 id, .int .i64 (now + wait)] 110)).size) ?_; intro v' w5 ho hb hg; have B5 := hid (show Below wr.heap.size wr w5 from by first | exact B2.out.trans hb | exact (B2.out.alloc B2.out.size (.cells #[.int .i64 id, .int .i64 (now + wait)] 110)).trans hb); have R5 := hid (R1.out.below B5.out); have O5 := hid ho; have y1 := R5.out.blk.cell (i := 1) rfl; have yf := R5.out.blk.free; obtain ⟨a5, k5, rfl, -⟩ := own_sl ho; clear ho hb hg))
            all_goals
              go_wp2_with fail
              go_ret
              rw [HAA.out, HS2.out]
              exact ⟨rfl, RB.row (L := l ++ [(id, now + wait)]) (h := H.out) (HB.out.trans (B5.out.mono HB.out.size)) HB.out.size (by have := O5.out; rw [List.length_append, List.flatMap_append]; simpa [encA2] using this)⟩
end Go.Proofs.Ytalookaaogiinaa
