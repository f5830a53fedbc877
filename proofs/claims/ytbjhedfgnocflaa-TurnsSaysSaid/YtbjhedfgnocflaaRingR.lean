/-
  THE RING OF THE REFERENCE: at, Add, Drop, Next, Pick. Conditions: the object's own invariant; at most 8796093022208 ids.
-/
import Derived.Test.YtbjhedfgnocflaaInts
import Derived.Test.YtbjhedfgnocflaaLawK
import Derived.Test.YtbjhedfgnocflaaPart
import Derived.Test.YtbjhedfgnocflaaStep
import Derived.Deep.RegionLaw
namespace Go.Proofs.Ytbjhedfgnocflaa
open Go.RowKit Go.Lib
attribute [local go_sem ↓] Go.wp_at_zero Go.wp_at_succ

def foot1 (B : Nat) (v : Value) (k : Nat) : Prop := k = B ∨ v.ownBlock = some k
/-- one cell that holds a row of ints of the call's own -/
structure RRing (w : World) (base B : Nat) (v : Value) (xs : List Int) : Prop where
  blk : Blk w B 115 [v]
  own : OwnI w base .i64 3 v xs
  ne : v.ownBlock ≠ some B
  le : base ≤ B
  base : base ≤ w.heap.size
theorem RRing.below {w w' : World} {base B : Nat} {v : Value} {xs : List Int} (h : RRing w base B v xs) (hb : Below w.heap.size w w') : RRing w' base B v xs :=
  ⟨h.blk.below hb, own_below h.own hb, h.ne, h.le, Nat.le_trans h.base hb.size⟩
theorem RRing.part {w : World} {base B : Nat} {v : Value} {xs : List Int} (h : RRing w base B v xs) : Part base (foot1 B v) (fun w => RRing w base B v xs) w := by
  refine ⟨h, h.base, ?_, ?_⟩
  · rintro k (e | e)
    · subst e; exact ⟨h.le, h.blk.lt⟩
    · exact World.ownsRow.lt h.own k e
  · intro w' hs hb
    exact ⟨h.blk.same (hb B (.inl rfl)), own_same h.own (fun k hk => hb k (.inr hk)), h.ne, h.le, Nat.le_trans h.base hs⟩
/-- what a call leaves: an answer, and the ids behind it -/
def RRPost (w : World) (base B : Nat) (v : Value) (ans : Value) (ys : List Int) (e : Ending) (w' : World) : Prop :=
  ∃ v', e = .returned ans ∧ RRing w' base B v' ys ∧ Touch (foot1 B v) w w' ∧ (∀ k, foot1 B v' k → foot1 B v k ∨ w.heap.size ≤ k)
theorem rr_same {w w' : World} {base B : Nat} {v : Value} {xs : List Int} {a : Value} (h : RRing w base B v xs) (hb : Below w.heap.size w w') : RRPost w base B v a xs (.returned a) w' :=
  ⟨v, rfl, h.below hb, Touch.of_below hb, fun _ hk => .inl hk⟩
/-- a row of a new block is stored back -/
theorem rr_new {w w1 : World} {base B : Nat} {v v' : Value} {xs ys : List Int} {a : Value} (h : RRing w base B v xs) (hb : Below w.heap.size w w1) (ho : OwnI w1 w.heap.size .i64 3 v' ys) : RRPost w base B v a ys (.returned a) (w1.setCell ⟨B, 0, none⟩ v') := by
  have hlt := h.blk.lt
  have hge : ∀ k, v'.ownBlock = some k → w.heap.size ≤ k := fun k hk => (World.ownsRow.lt ho k hk).1
  have hne : v'.ownBlock ≠ some B := fun e => by have := hge B e; omega
  have hs := hb.size
  refine ⟨v', rfl, ⟨(h.blk.below hb).set 0 v', ownsRow_setCell_other (a := ⟨B, 0, none⟩) (own_mono ho h.base) hne _, hne, h.le, by have := h.base; simp; omega⟩, (Touch.of_below hb).trans (Touch.setCell (.inl rfl) _), ?_⟩
  rintro k (e | e)
  · exact .inl (.inl e)
  · exact .inr (hge k e)

def ixI (id : Int) (xs : List Int) : Nat := xs.findIdx (· == id)
def atI (id : Int) (xs : List Int) : Int := if ixI id xs < xs.length then ixI id xs else -1
def addL (id : Int) (xs : List Int) : List Int := if ixI id xs < xs.length then xs else xs ++ [id]
def dropL (id : Int) (xs : List Int) : List Int := if ixI id xs < xs.length then xs.eraseIdx (ixI id xs) else xs
def nextL (xs : List Int) : List Int := xs.drop 1 ++ xs.take 1
def pickI (k : Int) (xs : List Int) : Int := if xs = [] then 0 else xs.getD (k % xs.length).toNat 0
theorem ixI_eq {id : Int} {xs : List Int} {k : Nat} (hk : k < xs.length) (h : ∀ j (hj : j < xs.length), j < k → xs[j] ≠ id) (he : xs[k] = id) : ixI id xs = k := by
  unfold ixI
  rw [List.findIdx_eq hk]
  refine ⟨by simpa using he, fun j hj => ?_⟩
  have := h j (by omega) hj
  simpa using this
theorem ixI_no {id : Int} {xs : List Int} (h : ∀ j (hj : j < xs.length), j < xs.length → xs[j] ≠ id) : ixI id xs = xs.length := by
  unfold ixI
  rw [List.findIdx_eq_length]
  intro x hx
  obtain ⟨j, hj, rfl⟩ := List.getElem_of_mem hx
  have := h j hj hj
  simpa using this

set_option maxRecDepth 100000 in
set_option maxHeartbeats 1000000 in
theorem at_any (w : World) (base B : Nat) (v : Value) (xs : List Int) (id : Int) (h : RRing w base B v xs) (hl : xs.length ≤ 8796093022208) :
    Calls Try.prog 104 #[.pointer (some ⟨B, 0, none⟩), .int .i64 id] w fun e w' => e = .returned (.int .i64 (atI id xs)) ∧ w = w' := by
  have q0 := h.blk.cell (i := 0) rfl
  have hi := h.own.ints
  have HI := hid hi
  obtain ⟨ao, cap, hvv, _⟩ := HI.out
  subst hvv
  clear h hi
  go_enter Try.func104, Try.ntmps104
  go_wp2_with fail
  go_loop [12] (fun i => ∃ k : Nat, k ≤ xs.length ∧ i = .int .i64 k ∧ Hid (∀ j (hj : j < xs.length), j < k → xs[j] ≠ id)) (fun i => xs.length - (intOf i).toNat)
  case atStart => exact ⟨0, Nat.zero_le _, rfl, fun j _ h => by omega⟩
  case round =>
    obtain ⟨k, hk, rfl, hN⟩ := hrel
    by_cases hlt : k < xs.length
    · rcases HI.out.open with ⟨_, _, _, e, _⟩ | ⟨g, go, cap', hv, _, hcap, hcap2, hc⟩
      · rw [e] at hlt; simp at hlt
      simp only [Value.slice.injEq, true_and] at hv
      obtain ⟨rfl, rfl⟩ := hv
      have x0 := hc k hlt
      clear hc
      by_cases he : xs[k] = id
      · have hx := ixI_eq hlt hN.out he
        have ha : atI id xs = k := by unfold atI; rw [hx, if_pos hlt]
        have HA := hid ha
        rw [he] at x0
        clear hx ha he
        go_wp2_with fail
        go_ret
        exact ⟨ret1 HA.out.symm, rfl⟩
      · have hN2 : ∀ j (hj : j < xs.length), j < k + 1 → xs[j] ≠ id := by
          intro j hj hj2
          by_cases e : j = k
          · subst e; exact he
          · exact hN.out j hj (by omega)
        have he' : (xs[k] == id) = false := by simpa using he
        have HN := hid hN2
        generalize xs[k] = x at *
        clear hN he hN2
        go_wp2_with fail
        go_round
        case rel => exact ⟨k + 1, by omega, by go_num, HN⟩
        case measure => simp [intOf]; omega
    · obtain rfl : k = xs.length := by omega
      have hx := ixI_no hN.out
      have ha : atI id xs = -1 := by unfold atI; rw [hx, if_neg (by omega)]
      have HA := hid ha
      clear hx ha
      go_wp2_with fail
      go_ret
      exact ⟨ret1 HA.out.symm, rfl⟩

set_option maxRecDepth 100000 in
set_option maxHeartbeats 2000000 in
theorem radd_any (w : World) (base B : Nat) (v : Value) (xs : List Int) (id : Int) (h : RRing w base B v xs) (hl : xs.length ≤ 8796093022208) :
    Calls Try.prog 61 #[.pointer (some ⟨B, 0, none⟩), .int .i64 id] w (RRPost w base B v (.bool (!decide (ixI id xs < xs.length))) (addL id xs)) := by
  have ha := at_any w base B v xs id h hl
  have q0 := h.blk.cell (i := 0) rfl
  unfold atI at ha
  unfold addL
  by_cases hin : ixI id xs < xs.length
  · rw [if_pos hin] at ha ⊢
    rw [decide_eq_true hin, Bool.not_true]
    have hn : (0 : Int) ≤ (ixI id xs : Int) := by omega
    have HA := hid ha
    have H := hid h
    clear ha h hin
    go_enter Try.func61, Try.ntmps61
    go_wp2_with fail
    refine HA.out.mono ?_
    rintro e w1 ⟨rfl, rfl⟩
    go_wp2_with fail
    go_ret
    exact rr_same H.out (Below.refl _ _)
  · rw [if_neg hin] at ha ⊢
    rw [decide_eq_false hin, Bool.not_false]
    have hcp := copy_i64 v xs w h.own.ints (by omega)
    have HA := hid ha
    have H := hid h
    have HCP := hid hcp
    clear ha h hin hcp
    go_enter Try.func61, Try.ntmps61
    go_wp2_with fail
    refine HA.out.mono ?_
    rintro e w1 ⟨rfl, rfl⟩
    go_wp2_with fail
    refine HCP.out.mono ?_
    rintro e w1 ⟨v1, rfl, ho1, hb1⟩
    have hbs := hb1.size
    have k1 := H.out.blk.below hb1
    have q1 := k1.cell (i := 0) rfl
    have f1 := k1.free 0
    have hBlt := H.out.blk.lt
    have hne1 : v1.ownBlock ≠ some B := fun e => by have := (World.ownsRow.lt ho1 B e).1; omega
    go_wp2_with (at_builtin; go_must (refine app_int elem_i64 (y := id) rfl _ _ rfl rfl rfl rfl ho1 (by omega) (by omega) hbs ?_); intro v' w2 ho2 hb2 hg; obtain ⟨ao2, cap2, rfl, _⟩ := own_sl ho2; have hq := Grew.cell hg q1 hne1; have hf := Grew.free hg q1 hne1 f1)
    go_ret
    have ho3 : OwnI w2 w.heap.size .i64 3 (.slice ao2 (xs ++ [id]).length cap2) (xs ++ [id]) := ho2
    rw [List.length_append] at ho3
    exact rr_new H.out (hb1.trans hb2) ho3

set_option maxRecDepth 100000 in
set_option maxHeartbeats 2000000 in
theorem rnext_any (w : World) (base B : Nat) (v : Value) (xs : List Int) (h : RRing w base B v xs) (hl : xs.length ≤ 8796093022208) :
    Calls Try.prog 64 #[.pointer (some ⟨B, 0, none⟩)] w (RRPost w base B v (.tuple #[.int .i64 (xs.getD 0 0), .bool (!xs.isEmpty)]) (nextL xs)) := by
  have q0 := h.blk.cell (i := 0) rfl
  cases xs with
  | nil =>
    obtain ⟨ao, cap, hvv, _⟩ := own_sl h.own
    subst hvv
    have H := hid h
    clear h
    go_enter Try.func64, Try.ntmps64
    go_wp2_with fail
    go_ret2
    exact rr_same H.out (Below.refl _ _)
  | cons x r =>
    obtain ⟨g, cap, rfl, hg1, hg2, hg3, hg4⟩ := h.own.head (by simp)
    have x0 := hg4 0 (by simp)
    rw [show (x :: r)[0] = x from rfl] at x0
    obtain ⟨o, ho1, ho2⟩ := run_tail elem_i64 g (x :: r).length cap 1 .i64 1 rfl (by simp)
    have hpre := ints_tail h.own rfl 1 (by simp) o ho1
    rw [show (x :: r).drop 1 = r from rfl] at hpre
    have hl2 : r.length + 1 = (x :: r).length := rfl
    rw [← hl2] at ho2 hl hg2 q0 h hpre
    simp only [← hl2]
    rw [show nextL (x :: r) = r ++ [x] from rfl, show (x :: r).getD 0 0 = x from rfl, show (!(x :: r).isEmpty) = true from rfl]
    have hcp := copy_i64 _ r w hpre (by omega)
    rw [Nat.add_sub_cancel] at ho2 hcp
    have hne : ((r.length : Int) + 1 == 0) = false := by simp; omega
    have H := hid h
    have HCP := hid hcp
    clear h hcp hpre hg4 ho1 hl2
    go_enter Try.func64, Try.ntmps64
    go_wp2_with fail
    refine HCP.out.mono ?_
    rintro e w1 ⟨v1, rfl, ho1, hb1⟩
    have hbs := hb1.size
    have k1 := H.out.blk.below hb1
    have q1 := k1.cell (i := 0) rfl
    have f1 := k1.free 0
    have hBlt := H.out.blk.lt
    have hne1 : v1.ownBlock ≠ some B := fun e => by have := (World.ownsRow.lt ho1 B e).1; omega
    go_wp2_with (at_builtin; go_must (refine app_int elem_i64 (y := x) rfl _ _ rfl rfl rfl rfl ho1 (by omega) (by omega) hbs ?_); intro v' w2 ho2 hb2 hg; obtain ⟨ao2, cap2, rfl, _⟩ := own_sl ho2; have hq := Grew.cell hg q1 hne1; have hf := Grew.free hg q1 hne1 f1)
    go_ret2
    have ho3 : OwnI w2 w.heap.size .i64 3 (.slice ao2 (r ++ [x]).length cap2) (r ++ [x]) := ho2
    rw [List.length_append] at ho3
    exact rr_new H.out (hb1.trans hb2) ho3

set_option maxRecDepth 100000 in
set_option maxHeartbeats 2000000 in
theorem rpick_any (w : World) (base B : Nat) (v : Value) (xs : List Int) (k : Int) (hk1 : -9223372036854775808 ≤ k) (hk2 : k ≤ 9223372036854775807) (h : RRing w base B v xs) (hl : xs.length ≤ 8796093022208) :
    Calls Try.prog 66 #[.pointer (some ⟨B, 0, none⟩), .int .i64 k] w (fun e w' => e = .returned (.tuple #[.int .i64 (pickI k xs), .bool (!xs.isEmpty)]) ∧ Below w.heap.size w w') := by
  have q0 := h.blk.cell (i := 0) rfl
  unfold pickI
  by_cases hx : xs = []
  · rw [if_pos hx]
    subst hx
    obtain ⟨ao, cap, hvv, _⟩ := own_sl h.own
    subst hvv
    have H := hid h
    clear h
    go_enter Try.func66, Try.ntmps66
    go_wp2_with fail
    go_ret2
    exact ⟨rfl, Below.refl _ _⟩
  · rw [if_neg hx]
    have hpos : 0 < xs.length := by cases xs with
      | nil => exact absurd rfl hx
      | cons _ _ => simp
    have he : (!xs.isEmpty) = true := by cases xs with
      | nil => exact absurd rfl hx
      | cons _ _ => rfl
    rw [he]
    obtain ⟨g, cap, rfl, hg1, hg2, hg3, hg4⟩ := h.own.head hpos
    have hr := fun wx => rest_any k xs.length wx hk1 hk2 (by omega) (by omega)
    have p0 := Int.emod_nonneg k (by omega : (xs.length : Int) ≠ 0)
    have p1 := Int.emod_lt_of_pos k (by omega : 0 < (xs.length : Int))
    obtain ⟨j, hj⟩ := Int.eq_ofNat_of_zero_le p0
    rw [hj] at hr p1 ⊢
    have hjl : j < xs.length := by omega
    have x0 := hg4 j hjl
    rw [Int.toNat_natCast, List.getD_eq_getElem?_getD, List.getElem?_eq_getElem hjl, Option.getD_some]
    generalize xs[j] = x at *
    have hne : ((xs.length : Int) == 0) = false := by simp; omega
    have HR := hid hr
    clear h he hx hr p0 hj hg4
    go_enter Try.func66, Try.ntmps66
    go_wp2_with fail
    go_quiet ((go_at_call 83; exact Calls.quiet_of_same ((HR.out _).mono (fun _ _ h => ⟨h.1, h.2.symm⟩))))
    go_wp2_with fail
    go_ret2
    exact ⟨rfl, drew_bel' (Below.refl _ _)⟩
end Go.Proofs.Ytbjhedfgnocflaa
