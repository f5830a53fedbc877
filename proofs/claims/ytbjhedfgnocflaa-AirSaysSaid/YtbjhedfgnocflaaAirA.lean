/-
  THE AIR, BOTH OBJECTS: Put, has. Conditions: the object's own invariant.
-/
import Derived.Test.YtbjhedfgnocflaaAWay
import Derived.Test.YtbjhedfgnocflaaStep
import Derived.Handy
namespace Go.Proofs.Ytbjhedfgnocflaa
open Go.RowKit Go.Lib

/-- one cell that holds a row of the call's own -/
structure ABox (ty E : TypeId) (w : World) (base B : Nat) (v : Value) (xs : List Way) : Prop where
  blk : Blk w B ty [v]
  own : Ok encWay 2 w base E v xs
  ne : v.ownBlock ≠ some B
  le : base ≤ B
  base : base ≤ w.heap.size
def footA (B : Nat) (v : Value) (k : Nat) : Prop := k = B ∨ v.ownBlock = some k
def FreshA (w : World) (v v' : Value) : Prop := ∀ k, v'.ownBlock = some k → v.ownBlock = some k ∨ w.heap.size ≤ k
theorem FreshA.same {w : World} {v v' : Value} (h : v'.ownBlock = v.ownBlock) : FreshA w v v' := fun k hk => .inl (h ▸ hk)
theorem FreshA.of {w : World} {v v' : Value} (h : Fresh w v v') : FreshA w v v' := by
  intro k hk
  rcases h with e | ⟨j, e, hj⟩
  · exact .inl (e ▸ hk)
  · rw [e] at hk; injection hk with hk; exact .inr (by omega)
theorem ABox.below {ty E : TypeId} {w w' : World} {base B : Nat} {v : Value} {xs : List Way} (h : ABox ty E w base B v xs) (hb : Below w.heap.size w w') : ABox ty E w' base B v xs :=
  ⟨h.blk.below hb, own_below h.own hb, h.ne, h.le, Nat.le_trans h.base hb.size⟩
theorem ABox.touch {ty E : TypeId} {w w' : World} {base B : Nat} {v : Value} {xs : List Way} {F : Nat → Prop} (h : ABox ty E w base B v xs) (ht : Touch F w w') (h1 : ¬ F B) (h2 : ∀ k, v.ownBlock = some k → ¬ F k) : ABox ty E w' base B v xs :=
  ⟨h.blk.touch ht h1, own_touch h.own ht h2, h.ne, h.le, Nat.le_trans h.base ht.size⟩
theorem ABox.foot_ge {ty E : TypeId} {w : World} {base B : Nat} {v : Value} {xs : List Way} (h : ABox ty E w base B v xs) : ∀ k, footA B v k → base ≤ k := by
  rintro k (e | e)
  · rw [e]; exact h.le
  · exact (h.own.lt k e).1

/-- what a call leaves: an answer, and the row behind it -/
def AirPost (ty E : TypeId) (w : World) (base B : Nat) (v : Value) (ans : Value) (ys : List Way) (e : Ending) (w' : World) : Prop :=
  ∃ v', e = .returned ans ∧ ABox ty E w' base B v' ys ∧ Touch (footA B v) w w' ∧ FreshA w v v'
theorem air_same {ty E : TypeId} {w w' : World} {base B : Nat} {v : Value} {xs : List Way} {a a' : Value} (h : ABox ty E w base B v xs) (hb : Below w.heap.size w w') (ha : a' = a) : AirPost ty E w base B v a xs (.returned a') w' :=
  ⟨v, by rw [ha], h.below hb, Touch.of_below hb, FreshA.same rfl⟩
/-- a row of a new block, or the old one grown, is stored back -/
theorem air_new {ty E : TypeId} {w w1 : World} {base B : Nat} {v v' : Value} {xs ys : List Way} {a : Value} (h : ABox ty E w base B v xs) (ht : Touch (footA B v) w w1) (hblk : Blk w1 B ty [v]) (ho : Ok encWay 2 w1 base E v' ys) (hf : FreshA w v v') : AirPost ty E w base B v a ys (.returned a) (w1.setCell ⟨B, 0, none⟩ v') := by
  have hlt := h.blk.lt
  have hs := ht.size
  have hne : v'.ownBlock ≠ some B := fun e => by
    rcases hf B e with e2 | e2
    · exact h.ne e2
    · omega
  refine ⟨v', rfl, ⟨hblk.set 0 v', ownsRow_setCell_other (a := ⟨B, 0, none⟩) ho hne _, hne, h.le, ?_⟩, ht.trans (Touch.setCell (.inl rfl) _), hf⟩
  have := h.base
  simp; omega

/-- what Put answers -/
def putE (dd : Int) (t : ByteArray) (xs : List Way) : Int := if dd < 0 ∨ 2 < dd then 1 else if 100 < t.size then 2 else if 40 ≤ xs.length then 16 else 0
def putL (dd : Int) (t : ByteArray) (xs : List Way) : List Way := if putE dd t xs = 0 then xs ++ [⟨dd, t⟩] else xs

theorem put_cases (dd : Int) (t : ByteArray) (xs : List Way) : (dd < 0 ∧ putE dd t xs = 1 ∧ putL dd t xs = xs) ∨ (0 ≤ dd ∧ 2 < dd ∧ 3 ≤ dd ∧ decide (3 ≤ dd) = true ∧ putE dd t xs = 1 ∧ putL dd t xs = xs) ∨ (0 ≤ dd ∧ dd ≤ 2 ∧ dd < 3 ∧ decide (3 ≤ dd) = false ∧ (100 : Int) < (t.size : Int) ∧ putE dd t xs = 2 ∧ putL dd t xs = xs)
    ∨ (0 ≤ dd ∧ dd ≤ 2 ∧ dd < 3 ∧ decide (3 ≤ dd) = false ∧ (t.size : Int) ≤ 100 ∧ 40 ≤ xs.length ∧ putE dd t xs = 16 ∧ putL dd t xs = xs) ∨ (0 ≤ dd ∧ dd ≤ 2 ∧ dd < 3 ∧ decide (3 ≤ dd) = false ∧ (t.size : Int) ≤ 100 ∧ xs.length < 40 ∧ putE dd t xs = 0 ∧ putL dd t xs = xs ++ [⟨dd, t⟩]) := by
  unfold putL
  have he : putE dd t xs = if dd < 0 ∨ 2 < dd then 1 else if 100 < t.size then 2 else if 40 ≤ xs.length then 16 else 0 := rfl
  by_cases h1 : dd < 0
  · rw [if_pos (.inl h1)] at he; rw [he]; exact .inl ⟨h1, rfl, by simp⟩
  by_cases h2 : 2 < dd
  · rw [if_pos (.inr h2)] at he; rw [he]; exact .inr (.inl ⟨by omega, h2, by omega, decide_eq_true (by omega), rfl, by simp⟩)
  rw [if_neg (by omega)] at he
  by_cases h3 : 100 < t.size
  · rw [if_pos h3] at he; rw [he]; exact .inr (.inr (.inl ⟨by omega, by omega, by omega, decide_eq_false (by omega), by omega, rfl, by simp⟩))
  rw [if_neg h3] at he
  by_cases h4 : 40 ≤ xs.length
  · rw [if_pos h4] at he; rw [he]; exact .inr (.inr (.inr (.inl ⟨by omega, by omega, by omega, decide_eq_false (by omega), by omega, h4, rfl, by simp⟩)))
  · rw [if_neg h4] at he; rw [he]; exact .inr (.inr (.inr (.inr ⟨by omega, by omega, by omega, decide_eq_false (by omega), by omega, by omega, rfl, by simp⟩)))

set_option maxRecDepth 100000 in
set_option maxHeartbeats 2000000 in
theorem aput_any (w : World) (base B : Nat) (v : Value) (xs : List Way) (dd : Int) (t : ByteArray) (h : ABox 81 152 w base B v xs) (hl : xs.length ≤ 40) :
    Calls Try.prog 46 #[.pointer (some ⟨B, 0, none⟩), .int .i64 dd, .string t] w (AirPost 81 152 w base B v (.int .i64 (putE dd t xs)) (putL dd t xs)) := by
  have hcs := put_cases dd t xs
  generalize putE dd t xs = er at *
  obtain ⟨ao, cap, hvv, _⟩ := own_sl h.own
  subst hvv
  have q0 := h.blk.cell (i := 0) rfl
  have f0 := h.blk.free 0
  have H := hid h
  clear h
  rcases hcs with ⟨e0, rfl, hL⟩ | ⟨e0, e1, e1', e1'', rfl, hL⟩ | ⟨e0, e1, e1', e1'', e2, rfl, hL⟩ | ⟨e0, e1, e1', e1'', e2, e3, rfl, hL⟩ | ⟨e0, e1, e1', e1'', e2, e3, rfl, hL⟩
  case inr.inr.inr.inr =>
    have e3' : ((xs.length : Int) == 40) = false := by simp; omega
    rw [hL]
    have hne := H.out.ne
    have hlt := H.out.blk.lt
    have hown := H.out.own
    have hbase := H.out.base
    clear hL
    go_enter Try.func46, Try.ntmps46
    go_wp2_with (at_builtin; go_must (refine app_one elem_AWay (cs := encWay ⟨dd, t⟩) rfl _ _ rfl rfl rfl rfl hown rfl (by intro c hc; simp [encWay] at hc; rcases hc with rfl | rfl <;> rfl) (by omega) (by omega) hbase ?_); intro v' w1 ho hb hg; obtain ⟨ao2, cap2, rfl, _⟩ := own_sl ho; have hq := Grew.cell hg q0 hne; have hf := Grew.free hg q0 hne f0)
    go_ret
    have ho2 : Ok encWay 2 w1 base 152 (.slice ao2 (xs.length + 1) cap2) (xs ++ [⟨dd, t⟩]) := by
      show World.ownsRow _ _ _ _ _ (xs ++ [(⟨dd, t⟩ : Way)]).length ((xs ++ [(⟨dd, t⟩ : Way)]).flatMap encWay)
      rw [List.flatMap_append, List.length_append]
      simpa using ho
    exact air_new H.out (Touch.grown (F := footA B _) hg.1 (fun k hk => .inr hk)) (H.out.blk.touch (Touch.grown (F := fun k => Value.ownBlock _ = some k) hg.1 (fun k hk => hk)) hne) ho2 (FreshA.of hg.2)
  all_goals
    (try have e3' : ((xs.length : Int) == 40) = true := by simp; omega)
    rw [hL]
    clear hL
    go_enter Try.func46, Try.ntmps46
    go_wp2_with fail
    go_ret
    exact air_same H.out (Below.refl _ _) rfl

set_option maxRecDepth 100000 in
theorem outs_any (n lo hi : Int) (w : World) : Calls Try.prog 76 #[.int .i64 n, .int .i64 lo, .int .i64 hi] w fun e w' => e = .returned (.bool (decide (n < lo ∨ hi < n))) ∧ w = w' := by
  by_cases h : n < lo
  · have e : decide (n < lo ∨ hi < n) = true := decide_eq_true (.inl h)
    rw [e]
    go_enter Try.func76, Try.ntmps76
    go_wp2_with fail
    go_ret
    exact ⟨retB (by simp <;> omega), rfl⟩
  · have h1 : lo ≤ n := by omega
    have e : decide (n < lo ∨ hi < n) = decide (hi < n) := decide_eq_decide.2 (by omega)
    rw [e]
    go_enter Try.func76, Try.ntmps76
    go_wp2_with fail
    go_ret
    exact ⟨retB (by simp <;> omega), rfl⟩

set_option maxRecDepth 100000 in
set_option maxHeartbeats 2000000 in
theorem raput_any (w : World) (base B : Nat) (v : Value) (xs : List Way) (dd : Int) (t : ByteArray) (h : ABox 85 92 w base B v xs) (hl : xs.length ≤ 40) :
    Calls Try.prog 47 #[.pointer (some ⟨B, 0, none⟩), .int .i64 dd, .string t] w (AirPost 85 92 w base B v (.int .i64 (putE dd t xs)) (putL dd t xs)) := by
  have hcs := put_cases dd t xs
  generalize putE dd t xs = er at *
  obtain ⟨ao, cap, hvv, _⟩ := own_sl h.own
  subst hvv
  have q0 := h.blk.cell (i := 0) rfl
  have ho := fun wx => outs_any dd 0 2 wx
  have H := hid h
  clear h
  rcases hcs with ⟨e0, rfl, hL⟩ | ⟨e0, e1, e1', e1'', rfl, hL⟩ | ⟨e0, e1, e1', e1'', e2, rfl, hL⟩ | ⟨e0, e1, e1', e1'', e2, e3, rfl, hL⟩ | ⟨e0, e1, e1', e1'', e2, e3, rfl, hL⟩
  case inr.inr.inr.inr =>
    rw [decide_eq_false (by omega)] at ho
    rw [hL]
    have HO := hid ho
    have hcopy := copy_Way _ xs w H.out.own.lk (by omega) (by omega)
    have HCP := hid hcopy
    clear hL ho hcopy
    go_enter Try.func47, Try.ntmps47
    go_wp2_with fail
    refine (HO.out _).mono ?_
    rintro e w1 ⟨rfl, rfl⟩
    go_wp2_with fail
    refine HCP.out.mono ?_
    rintro e w1 ⟨v1, rfl, ho1, hb1⟩
    have hbs := hb1.size
    have k1 := H.out.blk.below hb1
    have q1 := k1.cell (i := 0) rfl
    have f1 := k1.free 0
    have hBlt := H.out.blk.lt
    have hne1 : v1.ownBlock ≠ some B := fun e => by have := (World.ownsRow.lt ho1 B e).1; omega
    go_wp2_with (at_builtin; go_must (refine app_one elem_Way (cs := encWay ⟨dd, t⟩) rfl _ _ rfl rfl rfl rfl ho1 rfl (by intro c hc; simp [encWay] at hc; rcases hc with rfl | rfl <;> rfl) (by omega) (by omega) hbs ?_); intro v' w2 ho2 hb2 hg; obtain ⟨ao2, cap2, rfl, _⟩ := own_sl ho2; have hq := Grew.cell hg q1 hne1; have hf := Grew.free hg q1 hne1 f1)
    go_ret
    have hbel : Below w.heap.size w w2 := hb1.trans hb2
    have ho3 : w2.ownsRow w.heap.size 92 2 (.slice ao2 (xs.length + 1) cap2) (xs ++ [(⟨dd, t⟩ : Way)]).length ((xs ++ [(⟨dd, t⟩ : Way)]).flatMap encWay) := by
      rw [List.flatMap_append, List.length_append]
      simpa using ho2
    exact air_new H.out (Touch.of_below hbel) (H.out.blk.below hbel) (own_mono ho3 H.out.base) (fun k hk => .inr (ho3.lt k hk).1)
  all_goals
    first | rw [decide_eq_true (by omega)] at ho | rw [decide_eq_false (by omega)] at ho
    have HO := hid ho
    rw [hL]
    clear hL ho
    go_enter Try.func47, Try.ntmps47
    go_wp2_with fail
    refine (HO.out _).mono ?_
    rintro e w1 ⟨rfl, rfl⟩
    go_wp2_with fail
    go_ret
    exact air_same H.out (Below.refl _ _) rfl
end Go.Proofs.Ytbjhedfgnocflaa
