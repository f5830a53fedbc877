/-
  LINKS, the program's end: its memory; New, Offer, Waits, Now, Tick. Conditions: the object's own invariant.
-/
import Derived.Test.YtalookaaogiinaaPart
import Derived.Test.YtalookaaogiinaaStep
import Derived.Test.YtalookaaogiinaaFrm
namespace Go.Proofs.Ytalookaaogiinaa
open Go.RowKit Go.Lib
attribute [local go_sem ↓] Go.wp_at_zero Go.wp_at_succ

structure Ln where
  body : ByteArray
  sent : Bool
  time : Int
def encLn (x : Ln) : List Value := [.string x.body, .bool x.sent, .int .i64 x.time]
theorem encLn_len (x : Ln) : (encLn x).length = 3 := rfl
theorem encLn_one (xs : List Ln) : ∀ c ∈ xs.flatMap encLn, c.oneCell' = true := by
  intro c hc
  obtain ⟨x, _, hx⟩ := List.mem_flatMap.1 hc
  simp only [encLn, List.mem_cons, List.not_mem_nil, or_false] at hx
  rcases hx with rfl | rfl | rfl <;> rfl
theorem info_out : (Try.prog.info? 94).map (fun i => (i.zero, i.size, i.bytes)) = some (some (.agg #[.string ByteArray.empty, .bool false, .int .i64 0]), 3, 32) := by kernel_rfl
theorem elem_out : Elem Try.prog 85 94 (.agg #[.string ByteArray.empty, .bool false, .int .i64 0]) 3 32 := ⟨Try.underlying85, info_out, rfl, by decide⟩
/-- an end of the program's -/
structure PE where
  me : Int
  other : Int
  now : Int
  acked : Int
  high : Int
  waits : List Ln
  came : Int
  early : Nat → Bool × ByteArray
  owed : Bool
abbrev cellsP (s : PE) (v : Value) : List Value := [.int .i64 s.me, .int .i64 s.other, .int .i64 s.now, .int .i64 s.acked, .int .i64 s.high, v, .int .i64 s.came,
  .bool (s.early 0).1, .string (s.early 0).2, .bool (s.early 1).1, .string (s.early 1).2, .bool (s.early 2).1, .string (s.early 2).2, .bool (s.early 3).1, .string (s.early 3).2, .bool s.owed]
structure PEB (w : World) (base B : Nat) (v : Value) (s : PE) : Prop where
  blk : Blk w B 90 (cellsP s v)
  own : w.ownsRow base 94 3 v s.waits.length (s.waits.flatMap encLn)
  le : base ≤ B
  base : base ≤ w.heap.size
def footL (B : Nat) (v : Value) (k : Nat) : Prop := k = B ∨ v.ownBlock = some k
theorem PEB.ne {w : World} {base B : Nat} {v : Value} {s : PE} (h : PEB w base B v s) : v.ownBlock ≠ some B := by
  intro e
  rcases h.own.2 with ⟨e2, _⟩ | ⟨g, cap, cur, e2, _, hh, _⟩
  · rw [e2] at e; simp [Value.ownBlock] at e
  · rw [e2] at e
    simp only [Value.ownBlock, Option.some.injEq] at e
    subst e
    have := h.blk
    unfold Blk at this
    rw [this] at hh
    simp only [Option.some.injEq, Obj.cells.injEq] at hh
    exact absurd hh.2.1 (by decide)
theorem PEB.part {w : World} {base B : Nat} {v : Value} {s : PE} (h : PEB w base B v s) : Part base (footL B v) (fun w => PEB w base B v s) w := by
  refine ⟨h, h.base, ?_, ?_⟩
  · rintro k (e | e)
    · subst e; exact ⟨h.le, h.blk.lt⟩
    · exact h.own.lt k e
  · intro w' hs hb
    exact ⟨h.blk.same (hb B (.inl rfl)), own_same h.own (fun k hk => hb k (.inr hk)), h.le, Nat.le_trans h.base hs⟩
theorem PEB.below {w w' : World} {base B : Nat} {v : Value} {s : PE} (h : PEB w base B v s) (hb : Below w.heap.size w w') : PEB w' base B v s := (h.part.below hb).holds
def FreshL (w : World) (v v' : Value) : Prop := ∀ k, v'.ownBlock = some k → v.ownBlock = some k ∨ w.heap.size ≤ k
/-- what a call leaves -/
def LkPost (w : World) (base B : Nat) (v : Value) (s' : PE) (w' : World) : Prop := ∃ v', PEB w' base B v' s' ∧ Touch (footL B v) w w' ∧ FreshL w v v'
theorem lk_same {w : World} {base B : Nat} {v : Value} {s : PE} (h : PEB w base B v s) {w' : World} (hb : Below w.heap.size w w') : LkPost w base B v s w' := ⟨v, h.below hb, Touch.of_below hb, fun _ hk => .inl hk⟩
/-- one number of it turns -/
theorem PEB.put {w : World} {base B : Nat} {v : Value} {s s' : PE} (h : PEB w base B v s) (i : Nat) (x : Value) (hw : s'.waits = s.waits) (hc : (cellsP s v).set i x = cellsP s' v) : PEB (w.setCell ⟨B, i, none⟩ x) base B v s' := by
  refine ⟨by rw [← hc]; exact h.blk.set i x, ?_, h.le, by have := h.base; simp; omega⟩
  rw [hw]
  exact ownsRow_setCell_other (a := ⟨B, i, none⟩) h.own h.ne _
def tickE (now n : Int) : Int := if n < 0 ∨ 1099511627776 - now < n then 1 else 0
def offE (t : ByteArray) : Int := if 64 < t.size then 2 else 0
def badN (n : Int) : Bool := decide (n < 0) || decide (3 ≤ n)
def newE (a b : Int) : Int := if badN a = true ∨ badN b = true ∨ a = b then 1 else 0

set_option maxRecDepth 100000 in
set_option maxHeartbeats 1000000 in
theorem pwaits_any (w : World) (base B : Nat) (v : Value) (s : PE) (h : PEB w base B v s) : Calls Try.prog 20 #[.pointer (some ⟨B, 0, none⟩)] w fun e w' => e = .returned (.int .i64 s.waits.length) ∧ w = w' := by
  obtain ⟨ao, cap, rfl, -⟩ := own_sl h.own
  have x5 := h.blk.cell (i := 5) rfl
  clear h
  go_enter Try.func20, Try.ntmps20
  go_wp2_with fail
  go_ret
  exact ⟨rfl, rfl⟩
set_option maxRecDepth 100000 in
set_option maxHeartbeats 1000000 in
theorem pnow_any (w : World) (base B : Nat) (v : Value) (s : PE) (h : PEB w base B v s) : Calls Try.prog 22 #[.pointer (some ⟨B, 0, none⟩)] w fun e w' => e = .returned (.int .i64 s.now) ∧ w = w' := by
  have x5 := h.blk.cell (i := 2) rfl
  clear h
  go_enter Try.func22, Try.ntmps22
  go_wp2_with fail
  go_ret
  exact ⟨rfl, rfl⟩
set_option maxRecDepth 100000 in
set_option maxHeartbeats 1000000 in
theorem ptick_any (w : World) (base B : Nat) (v : Value) (s : PE) (n : Int) (hn : 0 ≤ s.now ∧ s.now ≤ 1099511627776) (h : PEB w base B v s) :
    Calls Try.prog 15 #[.pointer (some ⟨B, 0, none⟩), .int .i64 n] w fun e w' => e = .returned (.int .i64 (tickE s.now n)) ∧ LkPost w base B v (if tickE s.now n = 0 then { s with now := s.now + n } else s) w' := by
  have H := hid h
  have x2 := h.blk.cell (i := 2) rfl
  have xf := h.blk.free
  have HP := hid (h.put (s' := { s with now := s.now + n }) 2 (.int .i64 (s.now + n)) rfl rfl)
  clear h
  unfold tickE
  by_cases h0 : n < 0
  · rw [if_pos (.inl h0)]
    clear HP
    go_enter Try.func15, Try.ntmps15
    go_wp2_with fail
    go_ret
    exact ⟨rfl, lk_same H.out (Below.refl _ _)⟩
  by_cases h1 : 1099511627776 - s.now < n
  · rw [if_pos (.inr h1)]
    clear HP
    go_enter Try.func15, Try.ntmps15
    go_wp2_with fail
    go_ret
    exact ⟨rfl, lk_same H.out (Below.refl _ _)⟩
  · rw [if_neg (by omega)]
    simp only [if_true]
    generalize s.now = nw at *
    go_enter Try.func15, Try.ntmps15
    go_wp2_with fail
    go_ret
    exact ⟨rfl, v, HP.out, Touch.setCell (.inl rfl) _, fun _ hk => .inl hk⟩
end Go.Proofs.Ytalookaaogiinaa
