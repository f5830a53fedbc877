/-
  LINKS, the reference's end: its memory; Waits, Tick, New. Conditions: the object's own invariant.
-/
import Derived.Test.YtalookaaogiinaaLkB
import Derived.Test.YtalookaaogiinaaOut
import Derived.Maps.StringElems
namespace Go.Proofs.Ytalookaaogiinaa
open Go.RowKit Go.Lib Go.Maps
attribute [local go_sem ↓] Go.wp_at_zero Go.wp_at_succ

/-- an end of the reference's -/
structure RE where
  me : Int
  other : Int
  now : Int
  offered : List ByteArray
  sent : List Int
  acked : Int
  came : List ByteArray
  kept : Int → Option ByteArray
  cnt : Nat
  owed : Bool
/-- where its rows and its map lie -/
structure RV where
  vo : Value
  vs : Value
  vc : Value
  M : Nat
/-- block M is a map that holds f; at most c entries -/
def KeptS (w : World) (M : Nat) (f : Int → Option ByteArray) (c : Nat) : Prop := ∃ D : DataW Unit, w.ownsMap Try.prog 3 (plainElem Try.prog 9) M c D ∧ ∀ i : Int, (Lit.int .i64 i).wf = true → Maps.has D (.int .i64 i) = (f i).isSome ∧ ∀ b, f i = some b → ∀ z, D.atKey (.int .i64 i) z = .lit (.string b.data.toList)
abbrev cellsR (s : RE) (p : RV) : List Value := [.int .i64 s.me, .int .i64 s.other, .int .i64 s.now, p.vo, p.vs, .int .i64 s.acked, p.vc, .map (some p.M), .bool s.owed]
structure REB (w : World) (base B : Nat) (p : RV) (s : RE) : Prop where
  blk : Blk w B 48 (cellsR s p)
  ro : w.ownsRow base 9 1 p.vo s.offered.length (s.offered.map Value.string)
  rs : OwnI w base .i64 3 p.vs s.sent
  rc : w.ownsRow base 9 1 p.vc s.came.length (s.came.map Value.string)
  rm : KeptS w p.M s.kept s.cnt
  ap : ∀ k, p.vo.ownBlock = some k → p.vc.ownBlock ≠ some k
  le : base ≤ B
  lm : base ≤ p.M
  base : base ≤ w.heap.size
def footR (B : Nat) (p : RV) (k : Nat) : Prop := k = B ∨ p.vo.ownBlock = some k ∨ p.vs.ownBlock = some k ∨ p.vc.ownBlock = some k ∨ k = p.M
theorem KeptS.lt {w : World} {M : Nat} {f : Int → Option ByteArray} {c : Nat} (h : KeptS w M f c) : M < w.heap.size := by
  obtain ⟨D, h1, _⟩ := h
  exact h1.lt
theorem KeptS.same {w w' : World} {M : Nat} {f : Int → Option ByteArray} {c : Nat} (h : KeptS w M f c) (hb : w'.heap[M]? = w.heap[M]?) : KeptS w' M f c := by
  obtain ⟨D, ⟨es, clock, h1, h2⟩, h3⟩ := h
  exact ⟨D, ⟨es, clock, by rw [hb]; exact h1, h2⟩, h3⟩
theorem REB.part {w : World} {base B : Nat} {p : RV} {s : RE} (h : REB w base B p s) : Part base (footR B p) (fun w => REB w base B p s) w := by
  refine ⟨h, h.base, ?_, ?_⟩
  · rintro k (e | e | e | e | e)
    · subst e; exact ⟨h.le, h.blk.lt⟩
    · exact World.ownsRow.lt h.ro k e
    · exact World.ownsRow.lt h.rs k e
    · exact World.ownsRow.lt h.rc k e
    · subst e; exact ⟨h.lm, h.rm.lt⟩
  · intro w' hs hb
    exact ⟨h.blk.same (hb B (.inl rfl)), own_same h.ro (fun k hk => hb k (.inr (.inl hk))), own_same h.rs (fun k hk => hb k (.inr (.inr (.inl hk)))), own_same h.rc (fun k hk => hb k (.inr (.inr (.inr (.inl hk))))), h.rm.same (hb _ (.inr (.inr (.inr (.inr rfl))))), h.ap, h.le, h.lm, Nat.le_trans h.base hs⟩
theorem REB.below {w w' : World} {base B : Nat} {p : RV} {s : RE} (h : REB w base B p s) (hb : Below w.heap.size w w') : REB w' base B p s := (h.part.below hb).holds
/-- the object's own block is none of its rows, nor its map -/
theorem REB.ne {w : World} {base B : Nat} {p : RV} {s : RE} (h : REB w base B p s) : p.vo.ownBlock ≠ some B ∧ p.vs.ownBlock ≠ some B ∧ p.vc.ownBlock ≠ some B ∧ p.M ≠ B := by
  have hb := h.blk
  unfold Blk at hb
  have key : ∀ {e : TypeId} {v : Value} {n : Nat} {cs : List Value}, w.ownsRow base e 1 v n cs → e ≠ 48 → v.ownBlock ≠ some B := by
    intro e v n cs ho hne hk
    rcases ho.2 with ⟨e2, _⟩ | ⟨g, cap, cur, e2, _, hh, _⟩
    · rw [e2] at hk; simp [Value.ownBlock] at hk
    · rw [e2] at hk
      simp only [Value.ownBlock, Option.some.injEq] at hk
      subst hk
      rw [hb] at hh
      simp only [Option.some.injEq, Obj.cells.injEq] at hh
      exact hne hh.2.1.symm
  refine ⟨key h.ro (by decide), key h.rs (by decide), key h.rc (by decide), fun e => ?_⟩
  obtain ⟨D, ⟨es, c, h1, _⟩, _⟩ := h.rm
  rw [e, hb] at h1
  simp at h1
/-- what a call leaves -/
def RePost (w : World) (base B : Nat) (p : RV) (s' : RE) (w' : World) : Prop := ∃ p', REB w' base B p' s' ∧ Touch (footR B p) w w' ∧ ∀ k, footR B p' k → footR B p k ∨ w.heap.size ≤ k
theorem re_same {w : World} {base B : Nat} {p : RV} {s : RE} (h : REB w base B p s) {w' : World} (hb : Below w.heap.size w w') : RePost w base B p s w' := ⟨p, h.below hb, Touch.of_below hb, fun _ hk => .inl hk⟩
/-- one number of it turns -/
theorem REB.put {w : World} {base B : Nat} {p : RV} {s s' : RE} (h : REB w base B p s) (i : Nat) (x : Value) (h1 : s'.offered = s.offered) (h2 : s'.sent = s.sent) (h3 : s'.came = s.came) (h4 : s'.kept = s.kept) (h5 : s'.cnt = s.cnt) (hc : (cellsR s p).set i x = cellsR s' p) : REB (w.setCell ⟨B, i, none⟩ x) base B p s' := by
  have hn := h.ne
  refine ⟨by rw [← hc]; exact h.blk.set i x, ?_, ?_, ?_, ?_, h.ap, h.le, h.lm, by have := h.base; simp; omega⟩
  · rw [h1]; exact ownsRow_setCell_other (a := ⟨B, i, none⟩) h.ro hn.1 _
  · rw [h2]; exact ownsRow_setCell_other (a := ⟨B, i, none⟩) h.rs hn.2.1 _
  · rw [h3]; exact ownsRow_setCell_other (a := ⟨B, i, none⟩) h.rc hn.2.2.1 _
  · rw [h4, h5]; exact h.rm.same (Below.heap_setCell _ _ _ _ (fun e => hn.2.2.2 e))
set_option maxRecDepth 100000 in
set_option maxHeartbeats 1000000 in
theorem rwaits_any (w : World) (base B : Nat) (p : RV) (s : RE) (ha : 0 ≤ s.acked ∧ s.acked ≤ s.offered.length) (hl : s.offered.length ≤ 2000000000000) (h : REB w base B p s) : Calls Try.prog 21 #[.pointer (some ⟨B, 0, none⟩)] w fun e w' => e = .returned (.int .i64 (s.offered.length - s.acked)) ∧ Below w.heap.size w w' := by
  obtain ⟨vo, vs, vc, M⟩ := p
  obtain ⟨ao, cap, hv, -⟩ := own_sl h.ro
  simp only at hv
  subst hv
  have x3 := h.blk.cell (i := 3) rfl
  have x5 := h.blk.cell (i := 5) rfl
  have hw : IntKind.i64.wrap ((s.offered.length : Int) - s.acked) = (s.offered.length : Int) - s.acked := IntWalk.i64_in _ (by omega)
  clear h
  go_enter Try.func21, Try.ntmps21
  go_wp2_with fail
  go_quiet (fail)
  go_wp2_with fail
  go_ret
  exact ⟨rfl, drew_bel' (Below.refl _ _)⟩
set_option maxRecDepth 100000 in
set_option maxHeartbeats 1000000 in
theorem rtick_any (w : World) (base B : Nat) (p : RV) (s : RE) (n : Int) (hn : 0 ≤ s.now ∧ s.now ≤ 1099511627776) (h : REB w base B p s) :
    Calls Try.prog 16 #[.pointer (some ⟨B, 0, none⟩), .int .i64 n] w fun e w' => e = .returned (.int .i64 (tickE s.now n)) ∧ RePost w base B p (if tickE s.now n = 0 then { s with now := s.now + n } else s) w' := by
  have H := hid h
  have x2 := h.blk.cell (i := 2) rfl
  have xf := h.blk.free
  have HP := hid (h.put (s' := { s with now := s.now + n }) 2 (.int .i64 (s.now + n)) rfl rfl rfl rfl rfl rfl)
  have HO := hid (fun wx => outs_any n 0 1099511627776 wx)
  clear h
  unfold tickE
  by_cases h0 : n < 0 ∨ 1099511627776 < n
  · rw [decide_eq_true h0] at HO
    rw [if_pos (by omega)]
    clear HP h0
    go_enter Try.func16, Try.ntmps16
    go_wp2_with (go_at_call 42; refine (HO.out _).mono ?_; rintro r wx ⟨rfl, rfl⟩)
    go_ret
    exact ⟨rfl, re_same H.out (Below.refl _ _)⟩
  · rw [decide_eq_false h0] at HO
    have h2 : 0 ≤ n ∧ n ≤ 1099511627776 := by omega
    obtain ⟨h2, h3⟩ := h2
    generalize hnw : s.now = nw at *
    have HNW := hid hnw
    clear hnw
    by_cases h1 : 1099511627776 - nw < n
    · rw [if_pos (.inr h1)]
      have h4 : 1099511627776 < nw + n := by omega
      clear HP h0
      go_enter Try.func16, Try.ntmps16
      go_wp2_with (go_at_call 42; refine (HO.out _).mono ?_; rintro r wx ⟨rfl, rfl⟩)
      go_ret
      exact ⟨rfl, re_same H.out (Below.refl _ _)⟩
    · rw [if_neg (by omega)]
      simp only [if_true]
      have h4 : ¬ (1099511627776 < nw + n) := by omega
      clear h0
      go_enter Try.func16, Try.ntmps16
      go_wp2_with (go_at_call 42; refine (HO.out _).mono ?_; rintro r wx ⟨rfl, rfl⟩)
      go_ret
      exact ⟨rfl, p, HP.out, Touch.setCell (.inl rfl) _, fun _ hk => .inl hk⟩
end Go.Proofs.Ytalookaaogiinaa
