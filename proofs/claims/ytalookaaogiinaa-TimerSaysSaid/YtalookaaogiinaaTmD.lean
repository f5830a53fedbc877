/-
  TIMERS, the program's clock: find, Set, Drop, Next, New, Now. Conditions: the object's own invariant; lengths.
-/
import Derived.Test.YtalookaaogiinaaTmC
namespace Go.Proofs.Ytalookaaogiinaa
open Go.RowKit Go.Lib
attribute [local go_sem ↓] Go.wp_at_zero Go.wp_at_succ

theorem fstI_at {α : Type} {q : α → Bool} {l : List α} {k : Nat} (hk : k < l.length) (h : q l[k] = true) (hb : ∀ j (hj : j < k), q (l[j]'(by omega)) = false) : fstI q l = k := by
  unfold fstI
  have : l.findIdx? q = some k := List.findIdx?_eq_some_iff_getElem.2 ⟨hk, h, fun j hj => by simp [hb j hj]⟩
  rw [this]
theorem fstI_no {α : Type} {q : α → Bool} {l : List α} (h : ∀ j (hj : j < l.length), q l[j] = false) : fstI q l = -1 := by
  unfold fstI
  have : l.findIdx? q = none := by
    rw [List.findIdx?_eq_none_iff]
    intro x hx
    obtain ⟨j, hj, rfl⟩ := List.getElem_of_mem hx
    exact h j hj
  rw [this]
set_option maxRecDepth 100000 in
set_option maxHeartbeats 2000000 in
theorem tfind_any (w : World) (base B : Nat) (now turn : Int) (v : Value) (l : List Tm) (id : Int) (hn : l.length ≤ 1000) (h : TB w base B now turn v l) :
    Calls Try.prog 47 #[.pointer (some ⟨B, 0, none⟩), .int .i64 id] w fun e w' => e = .returned (.int .i64 (fstI (fun t => decide (t.id = id)) l)) ∧ Below w.heap.size w w' := by
  obtain ⟨ao, cap, rfl, -⟩ := own_sl h.own
  have c2 := h.blk.cell (i := 2) rfl
  have H := hid h
  clear h
  go_enter Try.func47, Try.ntmps47
  go_wp2_with fail
  go_loopw [5, 6, 12] (fun _ _ i wr => ∃ k : Nat, k ≤ l.length ∧ i = .int .i64 k ∧ Hid (∀ j (hj : j < k) (hl : j < l.length), decide (l[j].id = id) = false) ∧ Below w.heap.size w wr) (fun _ _ i _ => l.length - (intOf i).toNat)
  case atStart => exact ⟨0, Nat.zero_le _, rfl, fun j hj => by omega, Below.refl _ _⟩
  case round =>
    obtain ⟨k, hk, rfl, hall, hbel⟩ := hrel
    by_cases hlt : k < l.length
    · obtain ⟨g, cap', hv, hc1, hc2, hc, -⟩ := tm_at (H.out.below hbel).own (by omega)
      simp only [Value.slice.injEq] at hv
      obtain ⟨rfl, -, rfl⟩ := hv
      obtain ⟨a0, a1, a2⟩ := hc k hlt
      have hsz := hbel.size
      have HF := hid (fun (e : decide (l[k].id = id) = true) => (show fstI (fun t : Tm => decide (t.id = id)) l = k from fstI_at hlt e (fun j hj => hall j hj (by omega))))
      have HN := hid (fun (e : decide (l[k].id = id) = false) => (show ∀ j (hj : j < k + 1) (hl : j < l.length), decide (l[j].id = id) = false from fun j hj hl => by
        rcases Nat.lt_or_eq_of_le (Nat.le_of_lt_succ hj) with g | g
        · exact hall j g hl
        · subst g; exact e))
      have HB := hid hbel
      clear hc hall hbel
      generalize l[k] = x at *
      by_cases he : x.id = id
      · have HF2 := hid (HF.out (decide_eq_true he))
        have he2 : (x.id == id) = true := by simpa using he
        clear he HN
        go_wp2_with fail
        go_ret
        rw [HF2.out]
        exact ⟨rfl, HB.out.alloc hsz _⟩
      · have HN2 := hid (HN.out (decide_eq_false he))
        have he2 : (x.id == id) = false := by simpa using he
        clear he HF
        go_wp2_with fail
        go_roundw
        case rel => exact ⟨k + 1, by omega, by go_num, HN2.out, HB.out.alloc hsz _⟩
        case measure => simp [RowKit.intOf]; omega
    · obtain rfl : k = l.length := by omega
      have HF := hid (show fstI (fun t : Tm => decide (t.id = id)) l = -1 from fstI_no (fun j hj => hall j hj hj))
      have HB := hid hbel
      clear hall hbel
      go_wp2_with fail
      go_ret
      rw [HF.out]
      exact ⟨rfl, HB.out⟩
abbrev TBs (w : World) (base B : Nat) (v : Value) (s : PT) : Prop := TB w base B s.now s.turn v s.set
abbrev TPs (w : World) (base B : Nat) (v : Value) (s : PT) (w' : World) : Prop := TPost w base B v s.now s.turn s.set w'
theorem TB.put0 {w : World} {base B : Nat} {now turn : Int} {v : Value} {l : List Tm} (h : TB w base B now turn v l) (x : Int) : TB (w.setCell ⟨B, 0, none⟩ (.int .i64 x)) base B x turn v l := ⟨h.blk.set 0 _, ownsRow_setCell_other (a := ⟨B, 0, none⟩) h.own h.ne _, h.ne, h.le, by have := h.base; simp; omega⟩
theorem TB.put1 {w : World} {base B : Nat} {now turn : Int} {v : Value} {l : List Tm} (h : TB w base B now turn v l) (x : Int) : TB (w.setCell ⟨B, 1, none⟩ (.int .i64 x)) base B now x v l := ⟨h.blk.set 1 _, ownsRow_setCell_other (a := ⟨B, 1, none⟩) h.own h.ne _, h.ne, h.le, by have := h.base; simp; omega⟩
theorem tp_blk {w w' : World} {base B : Nat} {now turn : Int} {v : Value} {l : List Tm} (h : TPost w base B v now turn l w') : w'.cell? ⟨B, 0, none⟩ = some (.int .i64 now) ∧ w'.cell? ⟨B, 1, none⟩ = some (.int .i64 turn) := by
  obtain ⟨v', h1, _⟩ := h
  exact ⟨h1.blk.cell (i := 0) rfl, h1.blk.cell (i := 1) rfl⟩
set_option maxRecDepth 100000 in
set_option maxHeartbeats 4000000 in
theorem tset_any (w : World) (base B : Nat) (v : Value) (s : PT) (id wait : Int) (hn : s.set.length ≤ 32) (hnow : 0 ≤ s.now ∧ s.now ≤ 1099511627776) (htr : 0 ≤ s.turn ∧ s.turn ≤ 1000000000000000) (h : TBs w base B v s) :
    Calls Try.prog 24 #[.pointer (some ⟨B, 0, none⟩), .int .i64 id, .int .i64 wait] w fun e w' => e = .returned (.int .i64 (setE s.now wait (decide (0 ≤ findP s id)) s.set.length)) ∧ TPs w base B v (setP s id wait) w' := by
  obtain ⟨now, turn, l⟩ := s
  simp only at hn hnow htr
  have HF := hid (fun wx hx => tfind_any wx base B now turn v l id (by omega) hx)
  have HSP := hid (show setP ⟨now, turn, l⟩ id wait = if setE now wait (decide (0 ≤ fstI (fun t : Tm => decide (t.id = id)) l)) l.length = 0 then ⟨now, turn + 1, pushL l ⟨id, now + wait, turn + 1⟩⟩ else ⟨now, turn, l⟩ from rfl)
  have HFP := hid (show findP ⟨now, turn, l⟩ id = fstI (fun t : Tm => decide (t.id = id)) l from rfl)
  rw [HFP.out]
  have hfb := fstI_bounds (fun t : Tm => decide (t.id = id)) l
  generalize fstI (fun t : Tm => decide (t.id = id)) l = fi at *
  generalize setP ⟨now, turn, l⟩ id wait = sp at *
  have H := hid (show TB w base B now turn v l from h)
  clear h HFP
  obtain ⟨hn0, hn1⟩ := hnow
  obtain ⟨ht0, ht1⟩ := htr
  unfold setE at HSP ⊢
  by_cases h1 : wait < 1 ∨ 1099511627776 < wait
  · rw [if_pos h1] at HSP ⊢
    have HS2 := hid (show sp = ⟨now, turn, l⟩ from by rw [HSP.out]; rfl)
    clear HSP
    rcases (show wait < 1 ∨ (¬ wait < 1 ∧ 1099511627776 < wait) from by omega) with g | ⟨g1, g2⟩
    all_goals
      clear h1
      go_enter Try.func24, Try.ntmps24
      go_wp2_with fail
      go_ret
      rw [HS2.out]
      exact ⟨rfl, TPost.same H.out (Below.refl _ _)⟩
  · rw [if_neg h1] at HSP ⊢
    have g1 : ¬ wait < 1 := by omega
    have g2 : ¬ 1099511627776 < wait := by omega
    clear h1
    by_cases h2 : 0 ≤ fi
    · rw [if_pos (decide_eq_true h2)] at HSP ⊢
      have HS2 := hid (show sp = ⟨now, turn, l⟩ from by rw [HSP.out]; rfl)
      clear HSP
      go_enter Try.func24, Try.ntmps24
      go_wp2_with (go_at_call 47; refine (HF.out _ H.out).mono ?_; rintro e w1 ⟨rfl, hb⟩)
      go_wp2_with fail
      go_ret
      rw [HS2.out]
      exact ⟨rfl, TPost.same H.out hb⟩
    · have e9 : ¬ (decide (0 ≤ fi) = true) := by simpa using h2
      rw [if_neg e9] at HSP ⊢
      clear e9
      by_cases h3 : 32 ≤ l.length
      · rw [if_pos h3] at HSP ⊢
        have HS2 := hid (show sp = ⟨now, turn, l⟩ from by rw [HSP.out]; rfl)
        have he : ((l.length : Int) == 32) = true := by rw [beq_iff_eq]; omega
        obtain ⟨ao, cap, hvv, -⟩ := own_sl H.out.own
        subst hvv
        clear HSP
        go_enter Try.func24, Try.ntmps24
        go_wp2_with (go_at_call 47; refine (HF.out _ H.out).mono ?_; rintro e w1 ⟨rfl, hb⟩; have c2 := (H.out.below hb).blk.cell (i := 2) rfl)
        go_ret
        rw [HS2.out]
        exact ⟨rfl, TPost.same H.out hb⟩
      · rw [if_neg h3] at HSP ⊢
        have he : ((l.length : Int) == 32) = false := beq_eq_false_iff_ne.2 (by omega)
        obtain ⟨ao, cap, hvv, -⟩ := own_sl H.out.own
        subst hvv
        by_cases h4 : 1099511627776 - now < wait
        · rw [if_pos h4] at HSP ⊢
          have HS2 := hid (show sp = ⟨now, turn, l⟩ from by rw [HSP.out]; rfl)
          clear HSP
          go_enter Try.func24, Try.ntmps24
          go_wp2_with (go_at_call 47; refine (HF.out _ H.out).mono ?_; rintro e w1 ⟨rfl, hb⟩; have c2 := (H.out.below hb).blk.cell (i := 2) rfl; have c0 := (H.out.below hb).blk.cell (i := 0) rfl)
          go_ret
          rw [HS2.out]
          exact ⟨rfl, TPost.same H.out hb⟩
        · rw [if_neg h4] at HSP ⊢
          have HS2 := hid (show sp = ⟨now, turn + 1, pushL l ⟨id, now + wait, turn + 1⟩⟩ from by rw [HSP.out]; rfl)
          have h5 : now + wait ≤ 1099511627776 := by omega
          clear HSP
          go_enter Try.func24, Try.ntmps24
          go_upto_region 10 with (go_at_call 47; refine (HF.out _ H.out).mono ?_; rintro e w1 ⟨rfl, hb⟩; have c2 := (H.out.below hb).blk.cell (i := 2) rfl; have c0 := (H.out.below hb).blk.cell (i := 0) rfl; have c1 := (H.out.below hb).blk.cell (i := 1) rfl; have cf := (H.out.below hb).blk.free)
          have T1 := hid ((H.out.below hb).put1 (turn + 1))
          have HT1 := hid (show Touch (footT B (.slice ao l.length cap)) w (w1.setCell ⟨B, 1, none⟩ (.int .i64 (turn + 1))) from (Touch.of_below hb).put (a := ⟨B, 1, none⟩) (.inl rfl) _)
          clear hb c0 c1 c2 cf
          generalize w1.setCell ⟨B, 1, none⟩ (.int .i64 (turn + 1)) = wa at *
          have TD := hid (show TB wa.drew base B now (turn + 1) (.slice ao l.length cap) l from T1.out.part.drew1.holds)
          have d0 : wa.drew.cell? ⟨B, 0, none⟩ = some (.int .i64 now) := TD.out.blk.cell (i := 0) rfl
          have d1 : wa.drew.cell? ⟨B, 1, none⟩ = some (.int .i64 (turn + 1)) := TD.out.blk.cell (i := 1) rfl
          have HPU := hid (hpush_any wa.drew base B now (turn + 1) (.slice ao l.length cap) l ⟨id, now + wait, turn + 1⟩ (by omega) TD.out)
          have hw1 : IntKind.i64.wrap (now + wait) = now + wait := IntWalk.i64_in _ (by omega)
          go_wp2_with fail
          go_region_held3 (fun w' => w'.cell? ⟨B, 0, none⟩ = some (.int .i64 now) ∧ w'.cell? ⟨B, 1, none⟩ = some (.int .i64 (turn + 1))) (first | exact ⟨d0, d1⟩ | exact ⟨z0, z1⟩) (first | (go_at_call 48; refine HPU.out.mono ?_; rintro e w2 ⟨rfl, hp⟩; have z0 := (tp_blk hp).1; have z1 := (tp_blk hp).2; have HPP := hid hp; clear hp))
          all_goals
            go_wp2_with fail
            go_ret
            rw [HS2.out]
            exact ⟨rfl, TPost.trans HPP.out HT1.out.drew1 (fun k hk => .inl hk)⟩
end Go.Proofs.Ytalookaaogiinaa
