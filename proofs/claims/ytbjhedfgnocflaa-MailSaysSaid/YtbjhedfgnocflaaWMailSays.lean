/-
  THE LAW MailSays: a mailbox answers as the reference does, for every sequence of calls. No condition.
-/
import Derived.Test.YtbjhedfgnocflaaMailE
import Derived.Test.YtbjhedfgnocflaaLawK
import Derived.Test.YtbjhedfgnocflaaDecA
import Derived.Deep.CutBlock
namespace Go.Proofs.Ytbjhedfgnocflaa
open Go.RowKit Go.Lib
attribute [local go_sem ↓] Go.wp_at_zero Go.wp_at_succ

def bxL (y : D_trouperef_BoxStep) : Letter := ⟨y.2.2.1.1.1, y.2.2.1.1.2.1, y.2.2.1.2.1, y.2.2.1.2.2.1⟩
def encBx (y : D_trouperef_BoxStep) : List Value := [.int .i64 y.1, .int .u64 y.2.1, .int .i64 (bxL y).node, .int .i64 (bxL y).num, .int .i64 (bxL y).tag, .string (bxL y).body]
theorem encBx_len (y : D_trouperef_BoxStep) : (encBx y).length = 6 := rfl
theorem bx_open {W : World} (cs : List Value) (y : D_trouperef_BoxStep) (h : R_trouperef_BoxStep W cs y) : cs = encBx y ∧ (-9223372036854775808 ≤ y.1 ∧ y.1 ≤ 9223372036854775807 ∧ 0 ≤ y.2.1 ∧ y.2.1 ≤ 18446744073709551615) := by
  obtain ⟨_, _, rfl, ⟨rfl, w1⟩, _, _, rfl, ⟨rfl, w2⟩, _, _, rfl, ⟨_, _, rfl, ⟨_, _, rfl, ⟨rfl, _⟩, _, _, rfl, ⟨rfl, _⟩, rfl⟩, _, _, rfl, ⟨rfl, _⟩, _, _, rfl, ⟨rfl, _⟩, rfl⟩, rfl⟩ := h
  have := wf_i64 w1
  have := wf_u64 w2
  exact ⟨rfl, by omega, by omega, by omega, by omega⟩

set_option maxRecDepth 100000 in
theorem newM_no (room : Int) (w : World) (h : room < 1 ∨ (1 ≤ room ∧ 16 < room)) : Calls Try.prog 36 #[.int .i64 room] w fun e w' => e = .returned (.tuple #[.pointer none, .int .i64 1]) ∧ w = w' := by
  rcases h with h | ⟨h1, h2⟩
  all_goals
    go_enter Try.func36, Try.ntmps36
    go_wp2_with fail
    go_ret2
    exact ⟨rfl, rfl⟩
set_option maxRecDepth 100000 in
theorem newM_yes (room : Int) (w : World) (h1 : 1 ≤ room) (h2 : room ≤ 16) : Calls Try.prog 36 #[.int .i64 room] w fun e w' => e = .returned (.tuple #[.pointer (some ⟨w.heap.size, 0, none⟩), .int .i64 0]) ∧ w' = w.alloc (.cells #[.int .i64 room, .int .i64 0, .slice none 0 0] 144) := by
  go_enter Try.func36, Try.ntmps36
  go_wp2_with fail
  go_ret2
  exact ⟨rfl, rfl⟩

/-- the two boxes hold the same, apart from each other -/
structure Two (w : World) (base B1 B2 : Nat) (room lost : Int) (v1 v2 : Value) (xs : List Letter) : Prop where
  p : MBox 144 w base B1 room lost v1 xs
  r : MBox 64 w base B2 room lost v2 xs
  ne : B1 ≠ B2
  a : v1.ownBlock ≠ some B2
  b : v2.ownBlock ≠ some B1
  sep : ∀ k, v1.ownBlock = some k → v2.ownBlock ≠ some k
  tags : okTags xs
  len : (xs.length : Int) ≤ room
theorem Two.below {w w' : World} {base B1 B2 : Nat} {room lost : Int} {v1 v2 : Value} {xs : List Letter} (h : Two w base B1 B2 room lost v1 v2 xs) (hb : Below w.heap.size w w') : Two w' base B1 B2 room lost v1 v2 xs :=
  ⟨h.p.below hb, h.r.below hb, h.ne, h.a, h.b, h.sep, h.tags, h.len⟩
theorem MBox.touch {ty : TypeId} {w w' : World} {base B : Nat} {room lost : Int} {v : Value} {xs : List Letter} {F : Nat → Prop} (h : MBox ty w base B room lost v xs) (ht : Touch F w w') (h1 : ¬ F B) (h2 : ∀ k, v.ownBlock = some k → ¬ F k) : MBox ty w' base B room lost v xs :=
  ⟨h.blk.touch ht h1, own_touch h.own ht h2, h.ne, h.le, Nat.le_trans h.base ht.size⟩
/-- the first box has turned -/
theorem Two.left {w w1 : World} {base B1 B2 : Nat} {room lost lost' : Int} {v1 v2 v1' : Value} {xs xs' : List Letter} (h : Two w base B1 B2 room lost v1 v2 xs) (hm : MBox 144 w1 base B1 room lost' v1' xs') (ht : Touch (footM B1 v1) w w1) (hf : FreshM w v1 v1') :
    MBox 64 w1 base B2 room lost v2 xs ∧ v1'.ownBlock ≠ some B2 ∧ (∀ k, v1'.ownBlock = some k → v2.ownBlock ≠ some k) := by
  have hB2 := h.r.blk.lt
  refine ⟨h.r.touch ht ?_ ?_, ?_, ?_⟩
  · rintro (e | e)
    · exact h.ne e.symm
    · exact h.a e
  · intro k hk
    rintro (e | e)
    · exact h.b (e ▸ hk)
    · exact h.sep k e hk
  · intro e
    rcases hf B2 e with e2 | e2
    · exact h.a e2
    · omega
  · intro k hk e
    rcases hf k hk with e2 | e2
    · exact h.sep k e2 e
    · have := (h.r.own.lt k e).2; omega
/-- both have turned alike -/
theorem Two.both {w w1 w2 : World} {base B1 B2 : Nat} {room lost lost' : Int} {v1 v2 v1' v2' : Value} {xs xs' : List Letter} (h : Two w base B1 B2 room lost v1 v2 xs) (hm : MBox 144 w1 base B1 room lost' v1' xs') (ht : Touch (footM B1 v1) w w1) (hf : FreshM w v1 v1')
    (hm2 : MBox 64 w2 base B2 room lost' v2' xs') (ht2 : Touch (footM B2 v2) w1 w2) (hf2 : FreshM w1 v2 v2') (htg : okTags xs') (hlen : (xs'.length : Int) ≤ room) : Two w2 base B1 B2 room lost' v1' v2' xs' := by
  obtain ⟨h1, h2, h3⟩ := h.left hm ht hf
  have hB1 := hm.blk.lt
  refine ⟨hm.touch ht2 ?_ ?_, hm2, h.ne, h2, ?_, ?_, htg, hlen⟩
  · rintro (e | e)
    · exact h.ne e
    · exact h.b e
  · intro k hk
    rintro (e | e)
    · exact h2 (e ▸ hk)
    · exact h3 k hk e
  · intro e
    rcases hf2 B1 e with e2 | e2
    · exact h.b e2
    · omega
  · intro k hk e
    rcases hf2 k e with e2 | e2
    · exact h3 k hk e2
    · have := (hm.own.lt k hk).2; omega

theorem two_start (W : World) (room : Int) (h : 1 ≤ room) : Two ((W.alloc (.cells #[.int .i64 room, .int .i64 0, .slice none 0 0] 144)).alloc (.cells #[.int .i64 room, .int .i64 0, .slice none 0 0] 64)) W.heap.size W.heap.size (W.heap.size + 1) room 0 (.slice none 0 0) (.slice none 0 0) [] := by
  refine ⟨⟨(Blk.new W _ _ _ rfl).alloc _, World.ownsRow_nil _ _ _ _, by simp [Value.ownBlock], Nat.le_refl _, by simp; omega⟩, ⟨Blk.new _ _ _ _ (by simp), World.ownsRow_nil _ _ _ _, by simp [Value.ownBlock], by omega, by simp; omega⟩, by omega, by simp [Value.ownBlock], by simp [Value.ownBlock], by simp [Value.ownBlock], (fun x hx => by cases hx), by simp; omega⟩

theorem foot_ge {ty : TypeId} {w : World} {base B : Nat} {room lost : Int} {v : Value} {xs : List Letter} (h : MBox ty w base B room lost v xs) : ∀ k, footM B v k → base ≤ k := by
  rintro k (e | e)
  · rw [e]; exact h.le
  · exact (h.own.lt k e).1

theorem put_tags {room : Int} {xs : List Letter} {x : Letter} (h : okTags xs) : okTags (if putOk room xs x then xs ++ [x] else xs) := by
  cases hp : putOk room xs x with
  | false => exact h
  | true =>
    unfold putOk at hp
    have := of_decide_eq_true hp
    intro y hy
    rcases List.mem_append.1 hy with hy | hy
    · exact h y hy
    · simp at hy; subst hy; omega
theorem put_len {room : Int} {xs : List Letter} {x : Letter} (h : (xs.length : Int) ≤ room) : ((if putOk room xs x then xs ++ [x] else xs).length : Int) ≤ room := by
  cases hp : putOk room xs x with
  | false => exact h
  | true =>
    unfold putOk at hp
    have := of_decide_eq_true hp
    simp
    omega
theorem take_tags {m : Nat} {xs : List Letter} (h : okTags xs) : okTags (takeF m xs).2.2 := by
  unfold takeF
  split
  · exact h
  · intro y hy; exact h y (List.mem_of_mem_eraseIdx hy)
theorem take_len {m : Nat} {room : Int} {xs : List Letter} (h : (xs.length : Int) ≤ room) : (((takeF m xs).2.2).length : Int) ≤ room := by
  unfold takeF
  split
  · exact h
  · have := List.length_eraseIdx_le xs ‹_›
    simp only
    omega

set_option maxRecDepth 100000 in
set_option maxHeartbeats 8000000 in
theorem law_MailSays (v0 v1 : Value) (x0 : Int) (x1 : D_s_trouperef_BoxStep) (W : World) (i0 : IsInt .i64 W v0 x0) (i1 : R_s_trouperef_BoxStep W [v1] x1) :
    Calls Try.prog 11 #[v0, v1] W fun e w' => e = .returned (.bool true) ∧ Below W.heap.size W w' := by
  obtain ⟨rfl, _⟩ := i0
  obtain ⟨hl, hq, hb⟩ := slice_flat encBx _ bx_open i1
  by_cases hbad : x0 < 1 ∨ (1 ≤ x0 ∧ 16 < x0)
  · have hn := newM_no x0 W hbad
    have HN := hid hn
    clear hn i1 hl hq hb
    rcases hbad with h | ⟨h1, h2⟩
    all_goals
      go_enter Try.func11, Try.ntmps11
      go_wp2_with fail
      refine HN.out.mono ?_
      rintro e w1 ⟨rfl, rfl⟩
      go_wp2_with fail
      go_ret
      exact ⟨rfl, Below.refl _ _⟩
  · have h1 : 1 ≤ x0 := by omega
    have h2 : x0 ≤ 16 := by omega
    have hn := newM_yes x0 W h1 h2
    have HN := hid hn
    have HL := hid hl
    have HQ := hid hq
    clear hn i1 hl hq hbad
    obtain ⟨ao, cap, hvv, _⟩ := id HL.out
    go_enter Try.func11, Try.ntmps11
    go_wp2_with fail
    refine HN.out.mono ?_
    rintro e w1 ⟨rfl, rfl⟩
    subst hvv
    go_wp2_with fail
    go_loopw [52] (fun i wr => ∃ (k : Nat) (lost : Int) (xs : List Letter) (u1 u2 : Value), k ≤ x1.length ∧ i = .int .i64 k ∧ Hid (Two wr W.heap.size W.heap.size (W.heap.size + 1) x0 lost u1 u2 xs) ∧ Below W.heap.size W wr) (fun i _ => x1.length - (intOf i).toNat)
    case atStart => exact ⟨0, 0, [], _, _, Nat.zero_le _, rfl, two_start W x0 h1, ((Below.refl _ _).alloc (Nat.le_refl _) _).alloc (by simp) _⟩
    case round =>
      obtain ⟨k, lost, xs, u1, u2, hk, rfl, hT, hbel⟩ := hrel
      by_cases hlt : k < x1.length
      · have hlk := Lk.below HL.out hbel
        rcases hlk.open encBx_len (by decide) with ⟨_, _, _, e, _⟩ | ⟨lb, lo, cap', hv, _, hcap, hcap2, hc⟩
        · rw [e] at hlt; simp at hlt
        simp only [Value.slice.injEq, true_and] at hv
        obtain ⟨rfl, rfl⟩ := hv
        have y0 := hc k hlt 0 (by decide); have y1 := hc k hlt 1 (by decide); have y2 := hc k hlt 2 (by decide); have y3 := hc k hlt 3 (by decide); have y4 := hc k hlt 4 (by decide); have y5 := hc k hlt 5 (by decide)
        have hyq := HQ.out x1[k] (List.getElem_mem hlt)
        clear hc hlk
        generalize x1[k] = y at *
        rw [show (encBx y)[0]? = some (.int .i64 y.1) from rfl, Nat.add_zero] at y0; rw [show (encBx y)[1]? = some (.int .u64 y.2.1) from rfl] at y1; rw [show (encBx y)[2]? = some (.int .i64 (bxL y).node) from rfl] at y2; rw [show (encBx y)[3]? = some (.int .i64 (bxL y).num) from rfl] at y3; rw [show (encBx y)[4]? = some (.int .i64 (bxL y).tag) from rfl] at y4; rw [show (encBx y)[5]? = some (.string (bxL y).body) from rfl] at y5
        obtain ⟨m, hm⟩ := Int.eq_ofNat_of_zero_le hyq.2.2.1
        rw [hm] at y1 hyq
        have hm' : m < 18446744073709551616 := by omega
        have hstep := fun wx => step_no y.1 3 wx hyq.1 hyq.2.1 (by omega) (by omega)
        have hmod : y.1 % 3 = 0 ∨ y.1 % 3 = 1 ∨ y.1 % 3 = 2 := by omega
        generalize bxL y = x at *
        generalize y.1 = kind at *
        generalize kind % 3 = q at *
        have HST := hid hstep
        clear hstep hm hyq
        have hsz := hbel.size
        go_upto_block 2 with (go_at_call 37; refine (HST.out _).mono ?_; rintro e w' ⟨rfl, rfl⟩)
        go_cut [10] (fun gd wx => gd = .bool true ∧ ∃ (lost' : Int) (xs' : List Letter) (u1' u2' : Value), Hid (Two wx W.heap.size W.heap.size (W.heap.size + 1) x0 lost' u1' u2' xs') ∧ Below W.heap.size W wx)
        case first =>
          have hT0 : Two (wr.alloc (.cells #[.int .i64 kind, .int .u64 m, .int .i64 x.node, .int .i64 x.num, .int .i64 x.tag, .string x.body] 68)) W.heap.size W.heap.size (W.heap.size + 1) x0 lost u1 u2 xs := hT.out.below ((Below.refl _ _).alloc (Nat.le_refl _) _)
          have hxb := Blk.new wr #[.int .i64 kind, .int .u64 m, .int .i64 x.node, .int .i64 x.num, .int .i64 x.tag, .string x.body] 68 _ rfl
          have HT0 := hid hT0
          have HXB := hid hxb
          have hbel0 : Below W.heap.size W (wr.alloc (.cells #[.int .i64 kind, .int .u64 m, .int .i64 x.node, .int .i64 x.num, .int .i64 x.tag, .string x.body] 68)) := hbel.alloc hsz _
          have HB0 := hid hbel0
          clear hT0 hxb hbel0
          rcases hmod with rfl | rfl | rfl
          · go_wp2_with fail
            have hxlt := HXB.out.lt
            have c2 : (wr.alloc (.cells #[.int .i64 kind, .int .u64 m, .int .i64 x.node, .int .i64 x.num, .int .i64 x.tag, .string x.body] 68)).drew.cell? ⟨wr.heap.size, 2, none⟩ = some (.int .i64 x.node) := HXB.out.cell rfl
            have c3 : (wr.alloc (.cells #[.int .i64 kind, .int .u64 m, .int .i64 x.node, .int .i64 x.num, .int .i64 x.tag, .string x.body] 68)).drew.cell? ⟨wr.heap.size, 3, none⟩ = some (.int .i64 x.num) := HXB.out.cell rfl
            have c4 : (wr.alloc (.cells #[.int .i64 kind, .int .u64 m, .int .i64 x.node, .int .i64 x.num, .int .i64 x.tag, .string x.body] 68)).drew.cell? ⟨wr.heap.size, 4, none⟩ = some (.int .i64 x.tag) := HXB.out.cell rfl
            have c5 : (wr.alloc (.cells #[.int .i64 kind, .int .u64 m, .int .i64 x.node, .int .i64 x.num, .int .i64 x.tag, .string x.body] 68)).drew.cell? ⟨wr.heap.size, 5, none⟩ = some (.string x.body) := HXB.out.cell rfl
            have hTd : Two (wr.alloc (.cells #[.int .i64 kind, .int .u64 m, .int .i64 x.node, .int .i64 x.num, .int .i64 x.tag, .string x.body] 68)).drew W.heap.size W.heap.size (W.heap.size + 1) x0 lost u1 u2 xs := HT0.out.below (drew_bel' (n := 1) (Below.refl _ _))
            have hnf1 : ¬ footM W.heap.size u1 wr.heap.size := by
              rintro (e | e)
              · have := hT.out.p.blk.lt; omega
              · have := (hT.out.p.own.lt _ e).2; omega
            have hnf2 : ¬ footM (W.heap.size + 1) u2 wr.heap.size := by
              rintro (e | e)
              · have := hT.out.r.blk.lt; omega
              · have := (hT.out.r.own.lt _ e).2; omega
            have HTd := hid hTd
            clear hTd
            go_region_held3 (fun w' => w'.cell? ⟨wr.heap.size, 2, none⟩ = some (.int .i64 x.node) ∧ w'.cell? ⟨wr.heap.size, 3, none⟩ = some (.int .i64 x.num) ∧ w'.cell? ⟨wr.heap.size, 4, none⟩ = some (.int .i64 x.tag) ∧ w'.cell? ⟨wr.heap.size, 5, none⟩ = some (.string x.body)) (first | exact ⟨c2, c3, c4, c5⟩ | exact XC2.out | exact XC1.out)
              (first | (go_at_call 38; refine (put_any _ W.heap.size W.heap.size x0 lost u1 xs x HTd.out.p HTd.out.len h2).mono ?_; rintro e w1 ⟨u1', rfl, m1, t1, f1⟩; have XB1 := hid (Blk.touch (w := (wr.alloc (.cells #[.int .i64 kind, .int .u64 m, .int .i64 x.node, .int .i64 x.num, .int .i64 x.tag, .string x.body] 68)).drew) HXB.out t1 hnf1); have XC1 := hid (And.intro (XB1.out.cell (i := 2) rfl) (And.intro (XB1.out.cell (i := 3) rfl) (And.intro (XB1.out.cell (i := 4) rfl) (XB1.out.cell (i := 5) rfl)))); have M1 := hid (And.intro m1 (And.intro t1 f1)); clear m1 t1 f1) | (go_at_call 39; refine (rput_any _ W.heap.size (W.heap.size + 1) x0 lost u2 xs x (HTd.out.left M1.out.1 M1.out.2.1 M1.out.2.2).1 HTd.out.len h2).mono ?_; rintro e w2 ⟨u2', rfl, m2, t2, f2⟩; have XB2 := hid (Blk.touch XB1.out t2 hnf2); have XC2 := hid (And.intro (XB2.out.cell (i := 2) rfl) (And.intro (XB2.out.cell (i := 3) rfl) (And.intro (XB2.out.cell (i := 4) rfl) (XB2.out.cell (i := 5) rfl)))); have M2 := hid (And.intro m2 (And.intro t2 f2)); clear m2 t2 f2))
            all_goals
              go_wp2_with fail
              go_meet
              have bd : Below W.heap.size W (wr.alloc (.cells #[.int .i64 kind, .int .u64 m, .int .i64 x.node, .int .i64 x.num, .int .i64 x.tag, .string x.body] 68)).drew := HB0.out.trans (drew_bel' (n := 1) (Below.refl _ _))
              have b1 : Below W.heap.size W w1 := bd.trans (M1.out.2.1.below bd.size (foot_ge HTd.out.p))
              have b2 : Below W.heap.size W w2 := b1.trans (M2.out.2.1.below b1.size (foot_ge HTd.out.r))
              exact ⟨rfl, _, _, _, _, HTd.out.both M1.out.1 M1.out.2.1 M1.out.2.2 M2.out.1 M2.out.2.1 M2.out.2.2 (put_tags HTd.out.tags) (put_len HTd.out.len), b2⟩
          · have c1 : (wr.alloc (.cells #[.int .i64 kind, .int .u64 m, .int .i64 x.node, .int .i64 x.num, .int .i64 x.tag, .string x.body] 68)).cell? ⟨wr.heap.size, 1, none⟩ = some (.int .u64 m) := HXB.out.cell rfl
            have htt := take_tags (m := m) HT0.out.tags
            have htl := take_len (m := m) HT0.out.len
            have hnf1 : ¬ footM W.heap.size u1 wr.heap.size := by
              rintro (e | e)
              · have := hT.out.p.blk.lt; omega
              · have := (hT.out.p.own.lt _ e).2; omega
            have p1 := take_any _ W.heap.size W.heap.size x0 lost u1 xs m hm' HT0.out.p HT0.out.tags
            have p2 := fun w' hM => rtake_any w' W.heap.size (W.heap.size + 1) x0 lost u2 xs m hm' hM HT0.out.tags (by have := HT0.out.len; omega)
            unfold TakePost letV at p1 p2
            generalize takeF m xs = tr at *
            obtain ⟨tl, tb, tys⟩ := tr
            simp only at p1 p2 htt htl
            have hcmp := fun wx => eql_Letter tl tl wx
            rw [decide_eq_true (rfl : tl = tl)] at hcmp
            have HC := hid hcmp
            have P1 := hid p1
            have P2 := hid p2
            clear hcmp p1 p2
            go_wp2_with fail
            refine P1.out.mono ?_
            rintro e w1 ⟨u1', rfl, m1, t1, f1⟩
            have XB1 := hid (Blk.touch HXB.out t1 hnf1)
            have d1 := fun o => cell_alloc o (XB1.out.cell (i := 1) rfl)
            have hlf := HT0.out.left m1 t1 f1
            have M1 := hid (And.intro m1 (And.intro t1 (And.intro f1 hlf)))
            clear m1 t1 f1 hlf c1
            go_wp2_with fail
            refine (P2.out _ (M1.out.2.2.2.1.below ((Below.refl _ _).alloc (Nat.le_refl _) _))).mono ?_
            rintro e w2 ⟨u2', rfl, m2, t2, f2⟩
            have hl1 : W.heap.size + 1 < w1.heap.size := by have := M1.out.2.2.2.1.blk.lt; omega
            have L1 : Blk w2 w1.heap.size 66 _ := (Blk.new w1 #[.int .i64 tl.node, .int .i64 tl.num, .int .i64 tl.tag, .string tl.body] _ _ rfl).touch t2 (by omega)
            have q0 := fun o => cell_alloc o (L1.cell (i := 0) rfl)
            have q1 := fun o => cell_alloc o (L1.cell (i := 1) rfl)
            have q2 := fun o => cell_alloc o (L1.cell (i := 2) rfl)
            have q3 := fun o => cell_alloc o (L1.cell (i := 3) rfl)
            have hl2 := L1.lt
            have T2 : Touch (footM (W.heap.size + 1) u2) w1 w2 := (Touch.of_below ((Below.refl _ _).alloc (Nat.le_refl _) _)).trans (t2.mono (fun k _ e => .inl e))
            have F2 : FreshM w1 u2 u2' := fun k hk => by
              rcases f2 k hk with e | e
              · exact .inl e
              · exact .inr (by simp at e; omega)
            have M2 := hid (And.intro m2 (And.intro T2 F2))
            clear m2 t2 f2 T2 F2 L1 d1
            have hcmp := HC.out
            go_wp2_with fail
            go_meet
            have b1 : Below W.heap.size W w1 := HB0.out.trans (M1.out.2.1.below HB0.out.size (foot_ge HT0.out.p))
            have b2 : Below W.heap.size W w2 := b1.trans (M2.out.2.1.below b1.size (foot_ge HT0.out.r))
            exact ⟨rfl, _, _, _, _, (HT0.out.both M1.out.1 M1.out.2.1 M1.out.2.2.1 M2.out.1 M2.out.2.1 M2.out.2.2 htt htl).below ((Below.refl _ _).alloc (Nat.le_refl _) _), b2.alloc b2.size _⟩
          · obtain ⟨ao2, cap2, hu2, _⟩ := own_sl HT0.out.r.own
            subst hu2
            have c1 := fun o => cell_alloc o (HXB.out.cell (i := 1) rfl)
            have e0 := HT0.out.r.blk.cell (i := 0) rfl
            have e1 := HT0.out.r.blk.cell (i := 1) rfl
            have e2 := HT0.out.r.blk.cell (i := 2) rfl
            have p2 := fun w' hM => rtake_any w' W.heap.size (wr.heap.size + 1) x0 lost (.slice ao2 xs.length cap2) xs m hm' hM HT0.out.tags (by have := HT0.out.len; omega)
            have p3 := fun w' hM => has_any w' W.heap.size W.heap.size x0 lost u1 xs m hm' hM HT0.out.tags
            unfold TakePost letV at p2
            generalize takeF m xs = tr at *
            obtain ⟨tl, tb, tys⟩ := tr
            simp only at p2 p3
            have P2 := hid p2
            have P3 := hid p3
            clear p2 p3
            go_wp2_with fail
            refine (P2.out _ ?_).mono ?_
            · have hlt2 := fun k hk => (HT0.out.r.own.lt k hk).2
              have hsz2 : (wr.alloc (.cells #[.int .i64 kind, .int .u64 m, .int .i64 x.node, .int .i64 x.num, .int .i64 x.tag, .string x.body] 68)).heap.size = wr.heap.size + 1 := by simp
              refine ⟨Blk.new (wr.alloc (.cells #[.int .i64 kind, .int .u64 m, .int .i64 x.node, .int .i64 x.num, .int .i64 x.tag, .string x.body] 68)) _ _ _ hsz2.symm, World.ownsRow.alloc HT0.out.r.own _, (fun e => by have := hlt2 _ e; omega), by omega, ?_⟩
              have := HT0.out.r.base
              simp
              omega
            rintro e w2 ⟨u2', rfl, m2, t2, f2⟩
            have hbD : Below (wr.heap.size + 1) (wr.alloc (.cells #[.int .i64 kind, .int .u64 m, .int .i64 x.node, .int .i64 x.num, .int .i64 x.tag, .string x.body] 68)) w2 := ((Below.refl _ _).alloc (by simp) _).trans (t2.below (by simp) (fun k e => by omega))
            have HbD := hid hbD
            have XB2 : Blk w2 wr.heap.size 68 _ := Blk.below HXB.out (by simpa using hbD)
            have d1 := fun o => cell_alloc o (XB2.cell (i := 1) rfl)
            have T2 : Two w2 _ _ _ _ _ _ _ _ := HT0.out.below (by simpa using hbD)
            have HT2 := hid T2
            clear m2 t2 f2 hbD XB2 T2 c1 e0 e1 e2
            go_wp2_with fail
            refine (P3.out _ (HT2.out.p.below ((Below.refl _ _).alloc (Nat.le_refl _) _))).mono ?_
            rintro e w3 ⟨rfl, b3⟩
            go_wp2_with fail
            go_meet
            have b2 : Below W.heap.size W w2 := HB0.out.trans (HbD.out.mono (by omega))
            have b4 : Below w2.heap.size w2 w3 := ((Below.refl _ _).alloc (Nat.le_refl _) _).trans (b3.mono (by simp))
            exact ⟨rfl, _, _, _, _, HT2.out.below b4, b2.trans (b4.mono b2.size)⟩
        case rest =>
          obtain ⟨rfl, lost', xs', u1', u2', hT', hbel'⟩ := hcut
          clear hT hbel HST
          have e2 : wc.drew.cell? ⟨W.heap.size + 1, 2, none⟩ = some u2' := hT'.out.r.blk.cell rfl
          have e1 : wc.drew.cell? ⟨W.heap.size + 1, 1, none⟩ = some (.int .i64 lost') := hT'.out.r.blk.cell rfl
          have hTd : Two wc.drew W.heap.size W.heap.size (W.heap.size + 1) x0 lost' u1' u2' xs' := hT'.out.below (drew_bel' (n := 1) (Below.refl _ _))
          have HTd := hid hTd
          have hl16 : xs'.length ≤ 16 := by have := hTd.len; omega
          have hbd : Below W.heap.size W wc.drew := hbel'.trans (drew_bel' (n := 1) (Below.refl _ _))
          have HBD := hid hbd
          clear hTd hbd hT' hbel'
          go_wp2_with fail
          go_region_held3 (fun w' => w'.cell? ⟨W.heap.size + 1, 2, none⟩ = some u2' ∧ w'.cell? ⟨W.heap.size + 1, 1, none⟩ = some (.int .i64 lost')) (first | exact ⟨e2, e1⟩ | exact ⟨T2.out.r.blk.cell rfl, T2.out.r.blk.cell rfl⟩ | exact ⟨T1.out.r.blk.cell rfl, T1.out.r.blk.cell rfl⟩)
            (first | (go_at_call 44; refine (all_any _ W.heap.size W.heap.size x0 lost' u1' xs' HTd.out.p hl16).mono ?_; rintro e w1 ⟨va, rfl, la, b1⟩; have T1 := hid (Two.below HTd.out b1); have B1 := hid b1; have LA := hid la; clear b1 la) | (go_at_call 43; refine (eq_Letter _ _ xs' xs' _ LA.out T1.out.r.own.lk).mono ?_; rintro e w2 ⟨rfl, b2⟩; have T2 := hid (Two.below T1.out b2); have B2 := hid b2; clear b2) | (go_at_call 45; refine (lost_any _ W.heap.size W.heap.size x0 lost' u1' xs' T2.out.p).mono ?_; rintro e w' ⟨rfl, rfl⟩))
          all_goals
            go_wp2_with fail
            go_roundw
            case rel =>
              have b1 : Below W.heap.size W w1 := HBD.out.trans (B1.out.mono HBD.out.size)
              exact ⟨k + 1, lost', xs', u1', u2', by omega, by go_num, T2.out, b1.trans (B2.out.mono b1.size)⟩
            case measure => simp [intOf]; omega
      · obtain rfl : k = x1.length := by omega
        obtain ⟨ao2, cap2, hu2, _⟩ := own_sl hT.out.r.own
        subst hu2
        have e2 : wr.drew.cell? ⟨W.heap.size + 1, 2, none⟩ = some (.slice ao2 xs.length cap2) := hT.out.r.blk.cell rfl
        have hTd : Two wr.drew W.heap.size W.heap.size (W.heap.size + 1) x0 lost u1 _ xs := hT.out.below (drew_bel' (n := 1) (Below.refl _ _))
        have HTd := hid hTd
        have hl16 : xs.length ≤ 16 := by have := hTd.len; omega
        have hbd : Below W.heap.size W wr.drew := hbel.trans (drew_bel' (n := 1) (Below.refl _ _))
        have HBD := hid hbd
        clear hTd hbd hT hbel
        go_wp2_with fail
        go_region_held3 (fun w' => w'.cell? ⟨W.heap.size + 1, 2, none⟩ = some (.slice ao2 xs.length cap2)) (first | exact e2 | exact T1.out.r.blk.cell rfl)
          (first | (go_at_call 44; refine (all_any _ W.heap.size W.heap.size x0 lost u1 xs HTd.out.p hl16).mono ?_; rintro e w1 ⟨va, rfl, la, b1⟩; obtain ⟨aoa, capa, rfl, _⟩ := id la; have T1 := hid (Two.below HTd.out b1); have B1 := hid b1; clear b1 la))
        all_goals
          go_wp2_with fail
          go_ret
          exact ⟨rfl, HBD.out.trans (B1.out.mono HBD.out.size)⟩
end Go.Proofs.Ytbjhedfgnocflaa
