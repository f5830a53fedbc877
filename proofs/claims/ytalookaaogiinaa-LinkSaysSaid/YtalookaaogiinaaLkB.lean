/-
  LINKS, the program's end: New, Offer. Conditions: the object's own invariant; lengths.
-/
import Derived.Test.YtalookaaogiinaaLkA
namespace Go.Proofs.Ytalookaaogiinaa
open Go.RowKit Go.Lib
attribute [local go_sem ↓] Go.wp_at_zero Go.wp_at_succ

theorem FreshL.of {w : World} {v v' : Value} (h : Fresh w v v') : FreshL w v v' := by
  intro k hk
  rcases h with e | ⟨j, e, hj⟩
  · exact .inl (e ▸ hk)
  · rw [e] at hk; injection hk with hk; exact .inr (by omega)
/-- a row of a new block, or the old one grown, is stored back -/
theorem lk_new {w w1 : World} {base B : Nat} {v v' : Value} {s s' : PE} {ys : List Ln} (h : PEB w base B v s) (ht : Touch (footL B v) w w1) (hblk : Blk w1 B 90 (cellsP s v)) (ho : w1.ownsRow base 94 3 v' ys.length (ys.flatMap encLn)) (hf : FreshL w v v') (hy : s'.waits = ys) (hc : (cellsP s v).set 5 v' = cellsP s' v') :
    LkPost w base B v s' (w1.setCell ⟨B, 5, none⟩ v') := by
  have hlt := h.blk.lt
  have hs := ht.size
  have hbase := h.base
  have hne : v'.ownBlock ≠ some B := fun e => by
    rcases hf B e with e2 | e2
    · exact h.ne e2
    · omega
  refine ⟨v', ⟨by rw [← hc]; exact hblk.set 5 v', ?_, h.le, by simp; omega⟩, ht.trans (Touch.setCell (.inl rfl) _), hf⟩
  rw [hy]
  exact ownsRow_setCell_other (a := ⟨B, 5, none⟩) ho hne _
set_option maxRecDepth 100000 in
set_option maxHeartbeats 2000000 in
theorem poffer_any (w : World) (base B : Nat) (v : Value) (s : PE) (t : ByteArray) (hn : s.waits.length ≤ 2000000000000) (h : PEB w base B v s) :
    Calls Try.prog 10 #[.pointer (some ⟨B, 0, none⟩), .string t] w fun e w' => e = .returned (.int .i64 (offE t)) ∧ LkPost w base B v (if offE t = 0 then { s with waits := s.waits ++ [⟨t, false, 0⟩] } else s) w' := by
  obtain ⟨ao, cap, hvv, -⟩ := own_sl h.own
  subst hvv
  have H := hid h
  unfold offE
  by_cases h0 : 64 < t.size
  · rw [if_pos h0]
    have h1 : (64 : Int) < (t.size : Int) := by omega
    clear h
    go_enter Try.func10, Try.ntmps10
    go_wp2_with fail
    go_ret
    exact ⟨rfl, lk_same H.out (Below.refl _ _)⟩
  · rw [if_neg h0]
    simp only [if_true]
    have h1 : ¬ ((64 : Int) < (t.size : Int)) := by omega
    have q5 := h.blk.cell (i := 5) rfl
    have f5 := h.blk.free 5
    have hne := h.ne
    have hbase := h.base
    have hown := h.own
    clear h h0
    go_enter Try.func10, Try.ntmps10
    go_wp2_with (at_builtin; go_must (refine app_one elem_out (cs := [.string t, .bool false, .int .i64 0]) rfl _ _ rfl rfl rfl rfl hown rfl (by intro c hc; simp at hc; rcases hc with rfl | rfl | rfl <;> rfl) (by omega) (by omega) hbase ?_); intro v' w1 ho hb hg; obtain ⟨ao2, cap2, rfl, -⟩ := own_sl ho; have hq := Grew.cell hg q5 hne; have hf := Grew.free hg q5 hne f5)
    go_ret
    refine ⟨rfl, lk_new (ys := s.waits ++ [⟨t, false, 0⟩]) H.out (Touch.grown (F := footL B _) hg.1 (fun k hk => .inr hk)) (H.out.blk.touch (Touch.grown (F := fun k => Value.ownBlock _ = some k) hg.1 (fun k hk => hk)) hne) ?_ (FreshL.of hg.2) rfl rfl⟩
    rw [List.flatMap_append, List.length_append]
    simpa [encLn] using ho
set_option maxRecDepth 100000 in
theorem pbad_any (n : Int) (w : World) : Calls Try.prog 41 #[.int .i64 n] w fun e w' => e = .returned (.bool (badN n)) ∧ w = w' := by
  unfold badN
  by_cases h0 : n < 0
  · rw [decide_eq_true h0]
    go_enter Try.func41, Try.ntmps41
    go_wp2_with fail
    go_ret
    exact ⟨rfl, rfl⟩
  · rw [decide_eq_false h0]
    go_enter Try.func41, Try.ntmps41
    go_wp2_with fail
    go_ret
    exact ⟨rfl, rfl⟩
/-- an end that is new -/
abbrev newP (a b : Int) : PE := ⟨a, b, 0, 0, 0, [], 0, fun _ => (false, ByteArray.empty), false⟩
set_option maxRecDepth 100000 in
set_option maxHeartbeats 1000000 in
theorem pnew_any (a b : Int) (w : World) : Calls Try.prog 7 #[.int .i64 a, .int .i64 b] w fun e w' => if newE a b = 0 then e = .returned (.tuple #[.pointer (some ⟨w.heap.size, 0, none⟩), .int .i64 0]) ∧ PEB w' w.heap.size w.heap.size (.slice none 0 0) (newP a b) ∧ Below w.heap.size w w' else e = .returned (.tuple #[.pointer none, .int .i64 1]) ∧ Below w.heap.size w w' := by
  have HA := hid (fun wx => pbad_any a wx)
  have HBd := hid (fun wx => pbad_any b wx)
  unfold newE
  cases ha : badN a with
  | true =>
    rw [ha] at HA
    simp only [true_or, if_true, show ¬ ((1 : Int) = 0) from by decide, if_false]
    clear ha
    go_enter Try.func7, Try.ntmps7
    go_wp2_with (go_at_call 41; refine (HA.out _).mono ?_; rintro r wx ⟨rfl, rfl⟩)
    go_ret2
    exact ⟨rfl, Below.refl _ _⟩
  | false =>
    cases hb : badN b with
    | true =>
      rw [ha] at HA
      rw [hb] at HBd
      simp only [true_or, or_true, if_true, show ¬ ((1 : Int) = 0) from by decide, if_false]
      clear ha hb
      go_enter Try.func7, Try.ntmps7
      go_wp2_with (go_at_call 41; first | (with_reducible refine (HA.out _).mono ?_; rintro r wx ⟨rfl, rfl⟩) | (with_reducible refine (HBd.out _).mono ?_; rintro r wx ⟨rfl, rfl⟩))
      go_ret2
      exact ⟨rfl, Below.refl _ _⟩
    | false =>
      rw [ha] at HA
      rw [hb] at HBd
      simp only [Bool.false_eq_true, false_or]
      clear ha hb
      by_cases hab : a = b
      · rw [if_pos hab]
        have hq : (a == b) = true := by simpa using hab
        simp only [show ¬ ((1 : Int) = 0) from by decide, if_false]
        clear hab
        go_enter Try.func7, Try.ntmps7
        go_wp2_with (go_at_call 41; first | (with_reducible refine (HA.out _).mono ?_; rintro r wx ⟨rfl, rfl⟩) | (with_reducible refine (HBd.out _).mono ?_; rintro r wx ⟨rfl, rfl⟩))
        go_ret2
        exact ⟨rfl, Below.refl _ _⟩
      · rw [if_neg hab]
        have hq : (a == b) = false := by simpa using hab
        simp only [if_true]
        clear hab
        go_enter Try.func7, Try.ntmps7
        go_wp2_with (go_at_call 41; first | (with_reducible refine (HA.out _).mono ?_; rintro r wx ⟨rfl, rfl⟩) | (with_reducible refine (HBd.out _).mono ?_; rintro r wx ⟨rfl, rfl⟩))
        go_ret2
        refine ⟨rfl, ⟨Blk.new w _ _ _ rfl, World.ownsRow_nil _ _ _ _, Nat.le_refl _, by simp⟩, (Below.refl _ _).alloc (Nat.le_refl _) _⟩
end Go.Proofs.Ytalookaaogiinaa
