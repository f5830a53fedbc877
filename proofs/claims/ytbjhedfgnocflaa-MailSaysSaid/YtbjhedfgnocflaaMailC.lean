/-
  MAILBOXES: the reference's object and its Put. Conditions: the box's own invariant.
-/
import Derived.Test.YtbjhedfgnocflaaMailB
namespace Go.Proofs.Ytbjhedfgnocflaa
open Go.RowKit Go.Lib
attribute [local go_sem ↓] Go.wp_at_zero Go.wp_at_succ

theorem put_yesR {ty : TypeId} {w W2 w1 : World} {base B bas : Nat} {room lost : Int} {v v2 v' : Value} {xs : List Letter} {x : Letter} (h : MBox ty w base B room lost v xs) (hp : putOk room xs x = true) (hb : Below w.heap.size w W2)
    (hbas : w.heap.size ≤ bas) (ho : w1.ownsRow bas 66 4 v' (xs.length + 1) (xs.flatMap encLetter ++ encLetter x)) (hg : Grew W2 v2 w1 v') (hv2 : ∀ k, v2.ownBlock = some k → w.heap.size ≤ k) : PutPost ty w base B room lost v xs x (.returned (.bool true)) (w1.setCell ⟨B, 2, none⟩ v') := by
  have hlt := h.blk.lt
  have hs0 := hb.size
  have hs1 := hg.1.size
  have hlt1 : ∀ k, v'.ownBlock = some k → w.heap.size ≤ k := fun k hk => Nat.le_trans hbas (ho.lt k hk).1
  have hne : v'.ownBlock ≠ some B := fun e => by have := hlt1 B e; omega
  have hbel : Below w.heap.size w w1 := hb.grown hg.1 hs0 hv2
  have hb1 : Blk w1 B ty [.int .i64 room, .int .i64 lost, v] := h.blk.below hbel
  refine ⟨v', by rw [hp], ?_, ?_, ?_⟩
  · rw [hp]
    refine ⟨hb1.set 2 v', ?_, hne, h.le, by have := h.base; simp; omega⟩
    have hown : w1.ownsRow base 66 4 v' (xs ++ [x]).length ((xs ++ [x]).flatMap encLetter) := by
      rw [List.flatMap_append, List.length_append]
      have := own_mono ho (Nat.le_trans h.base hbas)
      simpa using this
    exact ownsRow_setCell_other (a := ⟨B, 2, none⟩) hown hne _
  · exact (Touch.of_below hbel).trans (Touch.setCell (.inl rfl) _)
  · intro k hk
    exact .inr (hlt1 k hk)

set_option maxRecDepth 100000 in
set_option maxHeartbeats 4000000 in
theorem rput_any (w : World) (base B : Nat) (room lost : Int) (v : Value) (xs : List Letter) (x : Letter) (h : MBox 64 w base B room lost v xs) (hr : (xs.length : Int) ≤ room) (hroom : room ≤ 16) :
    Calls Try.prog 39 #[.pointer (some ⟨B, 0, none⟩), .agg #[.int .i64 x.node, .int .i64 x.num, .int .i64 x.tag, .string x.body]] w (PutPost 64 w base B room lost v xs x) := by
  obtain ⟨ao, cap, hvv, hc1, hc2, _⟩ := own_sl h.own
  have q0 := h.blk.cell (i := 0) rfl
  have q1 := h.blk.cell (i := 1) rfl
  have q2 := h.blk.cell (i := 2) rfl
  have a0 := fun o => cell_alloc o q0
  have a1 := fun o => cell_alloc o q1
  have a2 := fun o => cell_alloc o q2
  have f1 := h.blk.frozenAlloc 1
  have f2 := h.blk.frozenAlloc 2
  have H := hid h
  have hbel := fun (o : Obj) => (Below.refl w.heap.size w).alloc (Nat.le_refl _) o
  clear h q0 q1 q2
  have hcases : (room ≤ (xs.length : Int) ∧ decide (room ≤ (xs.length : Int)) = true ∧ putOk room xs x = false) ∨ ((xs.length : Int) < room ∧ decide (room ≤ (xs.length : Int)) = false ∧ x.tag < 0 ∧ decide (x.tag < 0) = true ∧ putOk room xs x = false) ∨ ((xs.length : Int) < room ∧ decide (room ≤ (xs.length : Int)) = false ∧ 0 ≤ x.tag ∧ decide (x.tag < 0) = false ∧ 63 < x.tag ∧ decide (63 < x.tag) = true ∧ putOk room xs x = false)
      ∨ ((xs.length : Int) < room ∧ decide (room ≤ (xs.length : Int)) = false ∧ 0 ≤ x.tag ∧ decide (x.tag < 0) = false ∧ x.tag ≤ 63 ∧ decide (63 < x.tag) = false ∧ (32 : Int) < (x.body.size : Int) ∧ decide ((32 : Int) < (x.body.size : Int)) = true ∧ putOk room xs x = false)
      ∨ ((xs.length : Int) < room ∧ decide (room ≤ (xs.length : Int)) = false ∧ 0 ≤ x.tag ∧ decide (x.tag < 0) = false ∧ x.tag ≤ 63 ∧ decide (63 < x.tag) = false ∧ (x.body.size : Int) ≤ 32 ∧ decide ((32 : Int) < (x.body.size : Int)) = false ∧ putOk room xs x = true) := by
    unfold putOk
    simp only [decide_eq_true_eq, decide_eq_false_iff_not]
    omega
  rcases hcases with ⟨e0, e0', hp⟩ | ⟨e0, e0', e1, e1', hp⟩ | ⟨e0, e0', e1, e1', e2, e2', hp⟩ | ⟨e0, e0', e1, e1', e2, e2', e3, e3', hp⟩ | ⟨e0, e0', e1, e1', e2, e2', e3, e3', hp⟩
  case inr.inr.inr.inr =>
    have hlen : (xs.length : Int) < 16 := by omega
    have HP := hid hp
    have hlt := H.out.blk.lt
    have hbase := H.out.base
    have hlk : Lk encLetter w v xs := H.out.own.lk
    have HL := hid hlk
    clear hp hlk
    subst hvv
    go_enter Try.func39, Try.ntmps39
    go_wp2_with fail
    go_quiet (fail)
    go_wp2_with fail
    have hB0 : Below w.heap.size w ((w.alloc (.cells #[.int .i64 x.node, .int .i64 x.num, .int .i64 x.tag, .string x.body] 66)).drewN nq).drew := (drew_bel' (n := nq) (hbel (.cells #[.int .i64 x.node, .int .i64 x.num, .int .i64 x.tag, .string x.body] 66))).trans (drew_bel' (n := 1) (Below.refl _ _))
    have hD : ∀ w', Below ((w.alloc (.cells #[.int .i64 x.node, .int .i64 x.num, .int .i64 x.tag, .string x.body] 66)).drewN nq).drew.heap.size ((w.alloc (.cells #[.int .i64 x.node, .int .i64 x.num, .int .i64 x.tag, .string x.body] 66)).drewN nq).drew w' → w'.cell? ⟨B, 2, none⟩ = some (.slice ao xs.length cap) ∧ w'.frozen? ⟨B, 2, none⟩ = false ∧ w'.cell? ⟨w.heap.size, 0, none⟩ = some (.int .i64 x.node) ∧ w'.cell? ⟨w.heap.size, 1, none⟩ = some (.int .i64 x.num) ∧ w'.cell? ⟨w.heap.size, 2, none⟩ = some (.int .i64 x.tag) ∧ w'.cell? ⟨w.heap.size, 3, none⟩ = some (.string x.body) := by
      intro w' hb
      have k1 : Blk w' B 64 _ := Blk.below (w := ((w.alloc (.cells #[.int .i64 x.node, .int .i64 x.num, .int .i64 x.tag, .string x.body] 66)).drewN nq).drew) (H.out.blk.alloc (.cells #[.int .i64 x.node, .int .i64 x.num, .int .i64 x.tag, .string x.body] 66)) hb
      have k2 : Blk w' w.heap.size 66 _ := Blk.below (w := ((w.alloc (.cells #[.int .i64 x.node, .int .i64 x.num, .int .i64 x.tag, .string x.body] 66)).drewN nq).drew) (Blk.new w #[.int .i64 x.node, .int .i64 x.num, .int .i64 x.tag, .string x.body] _ _ rfl) hb
      exact ⟨k1.cell rfl, k1.free 2, k2.cell rfl, k2.cell rfl, k2.cell rfl, k2.cell rfl⟩
    have HD := hid hD
    obtain ⟨c2, c2f, d0, d1, d2, d3⟩ := hD _ (Below.refl _ _)
    have n2 := fun o => cell_alloc o c2
    have m0 := fun o => cell_alloc o d0
    have m1 := fun o => cell_alloc o d1
    have m2 := fun o => cell_alloc o d2
    have m3 := fun o => cell_alloc o d3
    clear hD
    go_region_law (first | (refine step_one1 elem_Letter (cs := encLetter x) (by rfl) _ _ (by rfl) (by rfl) (by rfl) (by rfl) ho2 (by rfl) (by intro c hc; simp [encLetter] at hc; rcases hc with rfl | rfl | rfl | rfl <;> rfl) (by omega) (by omega) hb2.size ?_; intro v' w1 ho hb hg; obtain ⟨ao2, cap2, rfl, _⟩ := own_sl ho; have hx2 := Grew.cell hg x2 (fun e => by have := hv2 B e; omega); have hf2 := Grew.free hg x2 (fun e => by have := hv2 B e; omega) x2f; have HG := hid (And.intro ho hg); clear ho hb hg) | (refine step_one elem_Letter (cs := encLetter x) (by rfl) _ _ (by rfl) (by rfl) (by rfl) ?_ ho2 (by rfl) (by intro c hc; simp [encLetter] at hc; rcases hc with rfl | rfl | rfl | rfl <;> rfl) (by omega) (by omega) hb2.size ?_; (refine At.below (Sl_at_new' _ _ _ _ ?_) hb2; show _ = (w.alloc _).heap.size; simp); intro v' w1 ho hb hg; obtain ⟨ao2, cap2, rfl, _⟩ := own_sl ho; have hx2 := Grew.cell hg x2 (fun e => by have := hv2 B e; omega); have hf2 := Grew.free hg x2 (fun e => by have := hv2 B e; omega) x2f; have HG := hid (And.intro ho hg); clear ho hb hg) | (go_simp; go_at_call 84; refine (copy_Letter _ xs _ ?_ (by omega) (by omega)).mono ?_; (exact Lk.below HL.out (by first | exact hB0 | exact hB0.alloc hB0.size _)); rintro e w2 ⟨v2, rfl, ho2, hb2⟩; have hb3 : Below ((w.alloc (.cells #[.int .i64 x.node, .int .i64 x.num, .int .i64 x.tag, .string x.body] 66)).drewN nq).drew.heap.size ((w.alloc (.cells #[.int .i64 x.node, .int .i64 x.num, .int .i64 x.tag, .string x.body] 66)).drewN nq).drew w2 := (by first | exact hb2 | exact ((Below.refl _ _).alloc (Nat.le_refl _) _).trans (hb2.mono (by simp))); obtain ⟨x2, x2f, y0, y1, y2, y3⟩ := HD.out _ hb3; have hwb : Below w.heap.size w w2 := hB0.trans (hb3.mono hB0.size); have hv2 : ∀ k, v2.ownBlock = some k → w.heap.size ≤ k := (fun k hk => Nat.le_trans (by first | exact hB0.size | exact (hB0.alloc hB0.size _).size) (World.ownsRow.lt ho2 k hk).1)))
    all_goals
      go_wp2_with fail
      go_ret
      exact put_yesR H.out HP.out hwb (by first | exact hB0.size | exact (hB0.alloc hB0.size _).size) HG.out.1 HG.out.2 hv2
  all_goals
    have HP := hid (fun l w' hl hb => put_no (l := l) (w' := w') H.out hp hl hb)
    clear hp
    subst hvv
    go_enter Try.func39, Try.ntmps39
    go_wp2_with fail
    go_quiet (fail)
    go_wp2_with fail
    go_ret
    exact HP.out _ _ rfl (drew_bel' (hbel _))
end Go.Proofs.Ytbjhedfgnocflaa
