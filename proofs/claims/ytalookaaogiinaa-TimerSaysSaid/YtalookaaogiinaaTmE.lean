/-
  TIMERS, the program's clock: Drop, Next, New, Now, Tick. Conditions: the object's own invariant; lengths.
-/
import Derived.Test.YtalookaaogiinaaTmD
namespace Go.Proofs.Ytalookaaogiinaa
open Go.RowKit Go.Lib
attribute [local go_sem ↓] Go.wp_at_zero Go.wp_at_succ

theorem touch2 {w w' : World} {B g n cap : Nat} (h : Touch (footL2 B g) w w') : Touch (footT B (.slice (some ⟨g, 0, none⟩) n cap)) w w' := h.mono (fun k _ e => e.elim .inl (fun e => .inr (by rw [e]; rfl)))
set_option maxRecDepth 100000 in
set_option maxHeartbeats 2000000 in
theorem tdrop_any (w : World) (base B : Nat) (v : Value) (s : PT) (id : Int) (hn : s.set.length ≤ 32) (h : TBs w base B v s) :
    Calls Try.prog 26 #[.pointer (some ⟨B, 0, none⟩), .int .i64 id] w fun e w' => e = .returned (.bool (decide (0 ≤ findP s id))) ∧ TPs w base B v (dropP s id) w' := by
  obtain ⟨now, turn, l⟩ := s
  simp only at hn
  have HF := hid (fun wx hx => tfind_any wx base B now turn v l id (by omega) hx)
  have HSP := hid (show dropP ⟨now, turn, l⟩ id = if 0 ≤ fstI (fun t : Tm => decide (t.id = id)) l then ⟨now, turn, remL l (fstI (fun t : Tm => decide (t.id = id)) l).toNat⟩ else ⟨now, turn, l⟩ from rfl)
  rw [show findP ⟨now, turn, l⟩ id = fstI (fun t : Tm => decide (t.id = id)) l from rfl]
  have hfb := fstI_bounds (fun t : Tm => decide (t.id = id)) l
  generalize fstI (fun t : Tm => decide (t.id = id)) l = fi at *
  generalize dropP ⟨now, turn, l⟩ id = sp at *
  have H := hid (show TB w base B now turn v l from h)
  clear h
  by_cases h2 : 0 ≤ fi
  · obtain ⟨i, rfl⟩ := Int.eq_ofNat_of_zero_le h2
    have HS2 := hid (show sp = ⟨now, turn, remL l i⟩ from by rw [HSP.out, if_pos h2]; rfl)
    rw [decide_eq_true h2]
    clear HSP
    obtain ⟨g, cap, rfl, -⟩ := H.out.tl (by omega)
    obtain ⟨k, hk⟩ : ∃ k, l.length = k + 1 := ⟨l.length - 1, by omega⟩
    have hii : i < l.length := by omega
    have HRM := hid (fun wx hx => hrem_any wx base B now turn g cap k i l hk (by omega) hii hx)
    have HI := hid hii
    have HK := hid hk
    clear hii hk
    go_enter Try.func26, Try.ntmps26
    go_wp2_with (go_at_call 47; refine (HF.out _ H.out).mono ?_; rintro e w1 ⟨rfl, hb⟩)
    have T1 := hid (H.out.below hb)
    have HB := hid hb
    clear hb
    obtain ⟨g2, cap2, hv2, L1⟩ := T1.out.tl (by have := HI.out; omega)
    simp only [Value.slice.injEq, Option.some.injEq, Addr.mk.injEq, and_true, true_and] at hv2
    obtain ⟨rfl, rfl⟩ := hv2
    have HL1 := hid L1
    clear L1
    go_wp2_with fail
    refine (HRM.out _ HL1.out).mono ?_
    rintro e w2 ⟨⟨u, rfl⟩, hl2, ht2⟩
    have L2 := hid hl2
    have HT2 := hid ht2
    clear hl2 ht2
    go_wp2_with fail
    go_ret
    rw [HS2.out]
    have hs := (Touch.of_below (F := footL2 B g) HB.out).trans HT2.out
    exact ⟨rfl, _, L2.out.tb T1.out.le (Nat.le_trans H.out.base hs.size), touch2 hs, fun k hk => .inl hk⟩
  · have HS2 := hid (show sp = ⟨now, turn, l⟩ from by rw [HSP.out, if_neg h2])
    rw [decide_eq_false h2]
    clear HSP
    go_enter Try.func26, Try.ntmps26
    go_wp2_with (go_at_call 47; refine (HF.out _ H.out).mono ?_; rintro e w1 ⟨rfl, hb⟩)
    go_wp2_with fail
    go_ret
    rw [HS2.out]
    exact ⟨rfl, TPost.same H.out hb⟩
def nextP (s : PT) : Int × Bool := if s.set.length = 0 then (0, false) else ((at0 s.set 0).due - s.now, true)
set_option maxRecDepth 100000 in
set_option maxHeartbeats 2000000 in
theorem tnext_any (w : World) (base B : Nat) (v : Value) (s : PT) (hnow : 0 ≤ s.now ∧ s.now ≤ 1099511627776) (hdue : ∀ t ∈ s.set, 0 ≤ t.due ∧ t.due ≤ 1099511627776) (h : TBs w base B v s) :
    Calls Try.prog 31 #[.pointer (some ⟨B, 0, none⟩)] w fun e w' => e = .returned (.tuple #[.int .i64 (nextP s).1, .bool (nextP s).2]) ∧ Below w.heap.size w w' := by
  obtain ⟨now, turn, l⟩ := s
  simp only at hnow hdue
  by_cases h0 : l.length = 0
  · have HN := hid (show nextP ⟨now, turn, l⟩ = (0, false) from if_pos h0)
    have hl : l = [] := List.length_eq_zero_iff.1 h0
    obtain ⟨ao, cap, rfl, -⟩ := own_sl h.own
    have c2 := h.blk.cell (i := 2) rfl
    rw [HN.out]
    simp only [h0] at c2
    clear h hnow hdue
    go_enter Try.func31, Try.ntmps31
    go_wp2_with fail
    go_ret2
    exact ⟨rfl, Below.refl _ _⟩
  · have HN := hid (show nextP ⟨now, turn, l⟩ = ((at0 l 0).due - now, true) from if_neg h0)
    obtain ⟨g, cap, rfl, hL⟩ := h.tl (Nat.pos_of_ne_zero h0)
    obtain ⟨g', cap', hv, hc1, hc2, hc, -⟩ := tm_at hL.own (Nat.pos_of_ne_zero h0)
    simp only [Value.slice.injEq, Option.some.injEq, Addr.mk.injEq, and_true, true_and] at hv
    obtain ⟨rfl, rfl⟩ := hv
    obtain ⟨a0, a1, a2⟩ := hc 0 (Nat.pos_of_ne_zero h0)
    have hd := hdue l[0] (List.getElem_mem _)
    rw [HN.out, at_eq (Nat.pos_of_ne_zero h0)]
    generalize l[0] = x at *
    have c2 := h.blk.cell (i := 2) rfl
    have c0 := h.blk.cell (i := 0) rfl
    have c2d : w.drew.cell? ⟨B, 2, none⟩ = some (.slice (some ⟨g, 0, none⟩) l.length cap) := c2
    have c0d : w.drew.cell? ⟨B, 0, none⟩ = some (.int .i64 now) := c0
    simp only [Nat.zero_mul, Nat.zero_add] at a0 a1 a2
    have a1d : w.drew.cell? ⟨g, 1, none⟩ = some (.int .i64 x.due) := a1
    have hpos : (0 : Int) < (l.length : Int) := by omega
    have hne : ((l.length : Int) == 0) = false := beq_eq_false_iff_ne.2 (by omega)
    have hw : IntKind.i64.wrap (x.due - now) = x.due - now := IntWalk.i64_in _ (by omega)
    clear h hc hL hdue h0
    go_enter Try.func31, Try.ntmps31
    go_wp2_with fail
    go_quiet (fail)
    go_wp2_with fail
    go_ret2
    exact ⟨rfl, drew_bel' (Below.refl _ _)⟩
set_option maxRecDepth 100000 in
theorem tnow_any (w : World) (base B : Nat) (v : Value) (s : PT) (h : TBs w base B v s) :
    Calls Try.prog 33 #[.pointer (some ⟨B, 0, none⟩)] w fun e w' => e = .returned (.int .i64 s.now) ∧ w = w' := by
  have c0 := h.blk.cell (i := 0) rfl
  clear h
  go_enter Try.func33, Try.ntmps33
  go_wp2_with fail
  go_ret
  exact ⟨rfl, rfl⟩
set_option maxRecDepth 100000 in
theorem tnew_any (w : World) : Calls Try.prog 23 #[] w fun e w' => e = .returned (.pointer (some ⟨w.heap.size, 0, none⟩)) ∧ TBs w' w.heap.size w.heap.size (.slice none 0 0) ⟨0, 0, []⟩ ∧ Below w.heap.size w w' := by
  go_enter Try.func23, Try.ntmps23
  go_wp2_with fail
  go_ret
  exact ⟨rfl, ⟨Blk.new w _ _ _ rfl, World.ownsRow_nil _ _ _ _, by simp [Value.ownBlock], Nat.le_refl _, by simp⟩, (Below.refl _ _).alloc (Nat.le_refl _) _⟩
end Go.Proofs.Ytalookaaogiinaa
