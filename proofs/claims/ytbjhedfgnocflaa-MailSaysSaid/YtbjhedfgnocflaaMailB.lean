/-
  MAILBOXES: the program's object and its Put. Conditions: the box's own invariant.
-/
import Derived.Test.YtbjhedfgnocflaaMailA
import Derived.Test.YtbjhedfgnocflaaStep
import Derived.Deep.RegionLaw
namespace Go.Proofs.Ytbjhedfgnocflaa
open Go.RowKit Go.Lib
attribute [local go_sem ↓] Go.wp_at_zero Go.wp_at_succ

/-- a mailbox in memory: three cells, the third a row that the call owns -/
structure MBox (ty : TypeId) (w : World) (base B : Nat) (room lost : Int) (v : Value) (xs : List Letter) : Prop where
  blk : Blk w B ty [.int .i64 room, .int .i64 lost, v]
  own : Ok encLetter 4 w base 66 v xs
  ne : v.ownBlock ≠ some B
  le : base ≤ B
  base : base ≤ w.heap.size
def footM (B : Nat) (v : Value) (k : Nat) : Prop := k = B ∨ v.ownBlock = some k

/-- the value behind a call: at the old head, or at a new one, or nil -/
def FreshM (w : World) (v v' : Value) : Prop := ∀ k, v'.ownBlock = some k → v.ownBlock = some k ∨ w.heap.size ≤ k
theorem FreshM.same {w : World} {v v' : Value} (h : v'.ownBlock = v.ownBlock) : FreshM w v v' := fun k hk => .inl (h ▸ hk)
theorem FreshM.of {w : World} {v v' : Value} (h : Fresh w v v') : FreshM w v v' := by
  intro k hk
  rcases h with e | ⟨j, e, hj⟩
  · exact .inl (e ▸ hk)
  · rw [e] at hk; injection hk with hk; exact .inr (by omega)
/-- what Put answers -/
def putOk (room : Int) (xs : List Letter) (x : Letter) : Bool := decide ((xs.length : Int) < room ∧ 0 ≤ x.tag ∧ x.tag ≤ 63 ∧ x.body.size ≤ 32)
/-- what a call of a mailbox leaves -/
def PutPost (ty : TypeId) (w : World) (base B : Nat) (room lost : Int) (v : Value) (xs : List Letter) (x : Letter) (e : Ending) (w' : World) : Prop :=
  ∃ v', e = .returned (.bool (putOk room xs x)) ∧ MBox ty w' base B room (if putOk room xs x then lost else wrap64 (lost + 1)) v' (if putOk room xs x then xs ++ [x] else xs) ∧ Touch (footM B v) w w' ∧ FreshM w v v'

theorem put_no {ty : TypeId} {w w' : World} {base B : Nat} {room lost : Int} {v : Value} {xs : List Letter} {x : Letter} {l : Int} (h : MBox ty w base B room lost v xs) (hp : putOk room xs x = false) (hl : l = wrap64 (lost + 1)) (hb : Below w.heap.size w w') :
    PutPost ty w base B room lost v xs x (.returned (.bool false)) (w'.setCell ⟨B, 1, none⟩ (.int .i64 l)) := by
  subst hl
  refine ⟨v, by rw [hp], ?_, (Touch.of_below hb).trans (Touch.setCell (.inl rfl) _), FreshM.same rfl⟩
  rw [hp]
  have hlt := h.blk.lt
  have hown : w'.ownsRow base 66 4 v xs.length (xs.flatMap encLetter) := own_below h.own hb
  exact ⟨(h.blk.below hb).set 1 _, ownsRow_setCell_other (a := ⟨B, 1, none⟩) hown h.ne _, h.ne, h.le, by have := hb.size; have := h.base; simp; omega⟩

theorem put_yes {ty : TypeId} {w W0 w1 : World} {base B : Nat} {room lost : Int} {v v' : Value} {xs : List Letter} {x : Letter} (h : MBox ty w base B room lost v xs) (hp : putOk room xs x = true) (hb : Below w.heap.size w W0)
    (ho : w1.ownsRow base 66 4 v' (xs.length + 1) (xs.flatMap encLetter ++ encLetter x)) (hg : Grew W0 v w1 v') : PutPost ty w base B room lost v xs x (.returned (.bool true)) (w1.setCell ⟨B, 2, none⟩ v') := by
  have hlt := h.blk.lt
  have hs0 := hb.size
  have hs1 := hg.1.size
  have hfr : Fresh w v v' := by
    rcases hg.2 with e | ⟨k, e, hk⟩
    · exact .inl e
    · exact .inr ⟨k, e, by omega⟩
  have hne : v'.ownBlock ≠ some B := by
    rcases hfr with e | ⟨k, e, hk⟩
    · rw [e]; exact h.ne
    · rw [e]; intro e2; injection e2 with e2; omega
  have hb1 : Blk w1 B ty [.int .i64 room, .int .i64 lost, v] := (h.blk.below hb).touch (Touch.grown (F := fun k => v.ownBlock = some k) hg.1 (fun k hk => hk)) h.ne
  refine ⟨v', by rw [hp], ?_, ?_, FreshM.of hfr⟩
  · rw [hp]
    refine ⟨hb1.set 2 v', ?_, hne, h.le, by have := h.base; simp; omega⟩
    have hown : w1.ownsRow base 66 4 v' (xs ++ [x]).length ((xs ++ [x]).flatMap encLetter) := by
      rw [List.flatMap_append, List.length_append]
      simpa using ho
    exact ownsRow_setCell_other (a := ⟨B, 2, none⟩) hown hne _
  · exact ((Touch.of_below hb).trans' (Touch.grown (F := footM B v) hg.1 (fun k hk => .inr hk)) (fun _ _ h => h)).trans (Touch.setCell (.inl rfl) _)

set_option maxRecDepth 100000 in
set_option maxHeartbeats 2000000 in
theorem put_any (w : World) (base B : Nat) (room lost : Int) (v : Value) (xs : List Letter) (x : Letter) (h : MBox 144 w base B room lost v xs) (hr : (xs.length : Int) ≤ room) (hroom : room ≤ 16) :
    Calls Try.prog 38 #[.pointer (some ⟨B, 0, none⟩), .agg #[.int .i64 x.node, .int .i64 x.num, .int .i64 x.tag, .string x.body]] w (PutPost 144 w base B room lost v xs x) := by
  obtain ⟨ao, cap, hvv, hc1, hc2, _⟩ := own_sl h.own
  have q0 := h.blk.cell (i := 0) rfl
  have q1 := h.blk.cell (i := 1) rfl
  have q2 := h.blk.cell (i := 2) rfl
  have a0 := fun o => cell_alloc o q0
  have a1 := fun o => cell_alloc o q1
  have a2 := fun o => cell_alloc o q2
  have f1 := h.blk.frozenAlloc 1
  have f2 := h.blk.frozenAlloc 2
  have H := hid h
  have hbel := fun (o : Obj) => (Below.refl w.heap.size w).alloc (Nat.le_refl _) o
  clear h q0 q1 q2
  have hcases : (((xs.length : Int) == room) = true ∧ putOk room xs x = false) ∨ (((xs.length : Int) == room) = false ∧ x.tag < 0 ∧ decide (x.tag < 0) = true ∧ putOk room xs x = false) ∨ (((xs.length : Int) == room) = false ∧ 0 ≤ x.tag ∧ decide (x.tag < 0) = false ∧ 63 < x.tag ∧ decide (63 < x.tag) = true ∧ putOk room xs x = false)
      ∨ (((xs.length : Int) == room) = false ∧ 0 ≤ x.tag ∧ decide (x.tag < 0) = false ∧ x.tag ≤ 63 ∧ decide (63 < x.tag) = false ∧ (32 : Int) < (x.body.size : Int) ∧ decide ((32 : Int) < (x.body.size : Int)) = true ∧ putOk room xs x = false)
      ∨ (((xs.length : Int) == room) = false ∧ 0 ≤ x.tag ∧ decide (x.tag < 0) = false ∧ x.tag ≤ 63 ∧ decide (63 < x.tag) = false ∧ (x.body.size : Int) ≤ 32 ∧ decide ((32 : Int) < (x.body.size : Int)) = false ∧ putOk room xs x = true) := by
    unfold putOk
    simp only [decide_eq_true_eq, decide_eq_false_iff_not, beq_iff_eq, beq_eq_false_iff_ne, ne_eq]
    omega
  rcases hcases with ⟨e0, hp⟩ | ⟨e0, e1, e1', hp⟩ | ⟨e0, e1, e1', e2, e2', hp⟩ | ⟨e0, e1, e1', e2, e2', e3, e3', hp⟩ | ⟨e0, e1, e1', e2, e2', e3, e3', hp⟩
  case inr.inr.inr.inr =>
    have hlen : (xs.length : Int) < 16 := by
      have : (xs.length : Int) ≠ room := by simpa using e0
      omega
    have HP := hid hp
    have hne := H.out.ne
    have hown := H.out.own
    have hlt := H.out.blk.lt
    have hbase := H.out.base
    clear hp
    subst hvv
    go_enter Try.func38, Try.ntmps38
    go_wp2_with fail
    go_quiet (fail)
    go_wp2_with fail
    have c2 : ((w.alloc (.cells #[.int .i64 x.node, .int .i64 x.num, .int .i64 x.tag, .string x.body] 66)).drewN nq).cell? ⟨B, 2, none⟩ = some (.slice ao xs.length cap) := a2 _
    have n2 := fun o => cell_alloc o c2
    have d0 : ((w.alloc (.cells #[.int .i64 x.node, .int .i64 x.num, .int .i64 x.tag, .string x.body] 66)).drewN nq).cell? ⟨w.heap.size, 0, none⟩ = some (.int .i64 x.node) := (Blk.new w _ _ _ rfl).cell rfl
    have d1 : ((w.alloc (.cells #[.int .i64 x.node, .int .i64 x.num, .int .i64 x.tag, .string x.body] 66)).drewN nq).cell? ⟨w.heap.size, 1, none⟩ = some (.int .i64 x.num) := (Blk.new w _ _ _ rfl).cell rfl
    have d2 : ((w.alloc (.cells #[.int .i64 x.node, .int .i64 x.num, .int .i64 x.tag, .string x.body] 66)).drewN nq).cell? ⟨w.heap.size, 2, none⟩ = some (.int .i64 x.tag) := (Blk.new w _ _ _ rfl).cell rfl
    have d3 : ((w.alloc (.cells #[.int .i64 x.node, .int .i64 x.num, .int .i64 x.tag, .string x.body] 66)).drewN nq).cell? ⟨w.heap.size, 3, none⟩ = some (.string x.body) := (Blk.new w _ _ _ rfl).cell rfl
    have hownd : ((w.alloc (.cells #[.int .i64 x.node, .int .i64 x.num, .int .i64 x.tag, .string x.body] 66)).drewN nq).drew.ownsRow base 66 4 (.slice ao xs.length cap) xs.length (xs.flatMap encLetter) := World.ownsRow.alloc hown _
    have hmm1 : w.heap.size + 1 = ((w.alloc (.cells #[.int .i64 x.node, .int .i64 x.num, .int .i64 x.tag, .string x.body] 66)).drewN nq).drew.heap.size := by show _ = (w.alloc _).heap.size; simp
    have HMM := hid hmm1
    have HOWND := hid hownd
    clear hmm1 hownd
    have hnew := own_lt_ne hown (Nat.le_refl _)
    have hsz : base ≤ ((w.alloc (.cells #[.int .i64 x.node, .int .i64 x.num, .int .i64 x.tag, .string x.body] 66)).drewN nq).drew.heap.size := by show base ≤ (w.alloc _).heap.size; simp; omega
    go_region_law ((refine step_one1 elem_Letter (base := base) (cs := encLetter x) (by rfl) _ _ (by rfl) (by rfl) (by rfl) HMM.out HOWND.out (by rfl) (by intro c hc; simp [encLetter] at hc; rcases hc with rfl | rfl | rfl | rfl <;> rfl) (by omega) (by omega) hsz ?_; intro v' w1 ho hb hg; obtain ⟨ao2, cap2, rfl, _⟩ := own_sl ho; have hfz := Grew.free hg c2 hne (f2 _); have hc2 := Grew.cell hg c2 hne; have HG := hid (And.intro ho (And.intro hb hg)); clear ho hb hg))
    all_goals
      go_wp2_with fail
      go_ret
      exact put_yes H.out HP.out (drew_bel' (hbel _)) HG.out.1 HG.out.2.2
  all_goals
    have HP := hid (fun l w' hl hb => put_no (l := l) (w' := w') H.out hp hl hb)
    clear hp
    subst hvv
    go_enter Try.func38, Try.ntmps38
    go_wp2_with fail
    go_quiet (fail)
    go_wp2_with fail
    go_ret
    exact HP.out _ _ rfl (drew_bel' (hbel _))
end Go.Proofs.Ytbjhedfgnocflaa
