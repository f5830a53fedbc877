/-
  THE RING OF THE PROGRAM, links in a circle: find, Add, Drop, Next, Pick, All. Conditions: the object's own invariant; at most 8796093022208 ids.
-/
import Derived.Test.YtbjhedfgnocflaaRingR
import Derived.Deep.CutBlock
namespace Go.Proofs.Ytbjhedfgnocflaa
open Go.RowKit Go.Lib
attribute [local go_sem ↓] Go.wp_at_zero Go.wp_at_succ

abbrev pt (b : Nat) : Value := .pointer (some ⟨b, 0, none⟩)
def nx (n i : Nat) : Nat := if i + 1 = n then 0 else i + 1
def pv (n i : Nat) : Nat := if i = 0 then n - 1 else i - 1
def hdF (f : Nat → Nat) (n : Nat) : Value := if n = 0 then .pointer none else pt (f 0)
theorem nx_lt {n i : Nat} (h : i < n) : nx n i < n := by unfold nx; split <;> omega
theorem pv_lt {n i : Nat} (h : i < n) : pv n i < n := by unfold pv; split <;> omega

/-- the links lie in the blocks f 0, f 1, .. -/
structure PRing (w : World) (base B : Nat) (f : Nat → Nat) (xs : List Int) : Prop where
  blk : Blk w B 112 [hdF f xs.length, .int .i64 xs.length]
  node : ∀ i (h : i < xs.length), Blk w (f i) 172 [.int .i64 xs[i], pt (f (pv xs.length i)), pt (f (nx xs.length i))]
  inj : ∀ i j, i < xs.length → j < xs.length → f i = f j → i = j
  ge : ∀ i, i < xs.length → base ≤ f i ∧ f i ≠ B
  le : base ≤ B
  base : base ≤ w.heap.size
def footR (B : Nat) (f : Nat → Nat) (n : Nat) (k : Nat) : Prop := k = B ∨ ∃ i, i < n ∧ k = f i
theorem PRing.below {w w' : World} {base B : Nat} {f : Nat → Nat} {xs : List Int} (h : PRing w base B f xs) (hb : Below w.heap.size w w') : PRing w' base B f xs :=
  ⟨h.blk.below hb, fun i hi => (h.node i hi).below hb, h.inj, h.ge, h.le, Nat.le_trans h.base hb.size⟩
theorem PRing.part {w : World} {base B : Nat} {f : Nat → Nat} {xs : List Int} (h : PRing w base B f xs) : Part base (footR B f xs.length) (fun w => PRing w base B f xs) w := by
  refine ⟨h, h.base, ?_, ?_⟩
  · rintro k (e | ⟨i, hi, e⟩)
    · subst e; exact ⟨h.le, h.blk.lt⟩
    · subst e; exact ⟨(h.ge i hi).1, (h.node i hi).lt⟩
  · intro w' hs hb
    exact ⟨h.blk.same (hb B (.inl rfl)), fun i hi => (h.node i hi).same (hb _ (.inr ⟨i, hi, rfl⟩)), h.inj, h.ge, h.le, Nat.le_trans h.base hs⟩
/-- what a call leaves -/
def PRPost (w : World) (base B : Nat) (f : Nat → Nat) (n : Nat) (ans : Value) (ys : List Int) (e : Ending) (w' : World) : Prop :=
  ∃ f', e = .returned ans ∧ PRing w' base B f' ys ∧ Touch (footR B f n) w w' ∧ (∀ k, footR B f' ys.length k → footR B f n k ∨ w.heap.size ≤ k)
theorem pr_same {w w' : World} {base B : Nat} {f : Nat → Nat} {xs : List Int} {a : Value} (h : PRing w base B f xs) (hb : Below w.heap.size w w') : PRPost w base B f xs.length a xs (.returned a) w' :=
  ⟨f, rfl, h.below hb, Touch.of_below hb, fun _ hk => .inl hk⟩

def findV (f : Nat → Nat) (id : Int) (xs : List Int) : Value := if ixI id xs < xs.length then pt (f (ixI id xs)) else .pointer none
theorem retV {a b : Value} (h : a = b) : Ending.returned a = .returned b := by rw [h]
set_option maxRecDepth 100000 in
set_option maxHeartbeats 1000000 in
theorem find_any (w : World) (base B : Nat) (f : Nat → Nat) (xs : List Int) (id : Int) (h : PRing w base B f xs) (hl : xs.length ≤ 8796093022208) :
    Calls Try.prog 103 #[pt B, .int .i64 id] w fun e w' => e = .returned (findV f id xs) ∧ w = w' := by
  have q0 := h.blk.cell (i := 0) rfl
  have q1 := h.blk.cell (i := 1) rfl
  have H := hid h
  clear h
  go_enter Try.func103, Try.ntmps103
  go_wp2_with fail
  go_loop [5, 14] (fun l i => ∃ k : Nat, k ≤ xs.length ∧ i = .int .i64 k ∧ Hid (k < xs.length → l = pt (f k)) ∧ Hid (∀ j (hj : j < xs.length), j < k → xs[j] ≠ id)) (fun _ i => xs.length - (intOf i).toNat)
  case atStart => exact ⟨0, Nat.zero_le _, rfl, fun hp => by unfold hdF; rw [if_neg (by omega)], fun j _ h => by omega⟩
  case round =>
    obtain ⟨k, hk, rfl, hL, hN⟩ := hrel
    by_cases hlt : k < xs.length
    · have hll := hL.out hlt
      subst hll
      have hnd := H.out.node k hlt
      have x0 := hnd.cell (i := 0) rfl
      have x2 := hnd.cell (i := 2) rfl
      clear hL hnd
      by_cases he : xs[k] = id
      · have hx := ixI_eq hlt hN.out he
        have HX := hid hx
        rw [he] at x0
        clear hx he
        go_wp2_with fail
        go_ret
        exact ⟨retV (by unfold findV; rw [HX.out, if_pos hlt]; rfl), rfl⟩
      · have hN2 : ∀ j (hj : j < xs.length), j < k + 1 → xs[j] ≠ id := by
          intro j hj hj2
          by_cases e : j = k
          · subst e; exact he
          · exact hN.out j hj (by omega)
        have he' : (xs[k] == id) = false := by simpa using he
        have HN := hid hN2
        have hL2 : k + 1 < xs.length → pt (f (nx xs.length k)) = pt (f (k + 1)) := fun hh => by unfold nx; rw [if_neg (by omega)]
        have HL2 := hid hL2
        generalize xs[k] = x at *
        clear hN he hN2 hL2
        go_wp2_with fail
        go_round
        case rel => exact ⟨k + 1, by omega, by go_num, HL2, HN⟩
        case measure => simp [intOf]; omega
    · obtain rfl : k = xs.length := by omega
      have hx := ixI_no hN.out
      have HX := hid hx
      clear hx
      go_wp2_with fail
      go_ret
      exact ⟨retV (by unfold findV; rw [HX.out, if_neg (by omega)]; rfl), rfl⟩

set_option maxRecDepth 100000 in
set_option maxHeartbeats 1000000 in
theorem pall_any (w : World) (base B : Nat) (f : Nat → Nat) (xs : List Int) (h : PRing w base B f xs) (hl : xs.length ≤ 8796093022208) :
    Calls Try.prog 67 #[pt B] w fun e w' => ∃ v', e = .returned v' ∧ OwnI w' w.heap.size .i64 3 v' xs ∧ Below w.heap.size w w' := by
  have q0 := h.blk.cell (i := 0) rfl
  have q1 := h.blk.cell (i := 1) rfl
  have H := hid h
  clear h
  go_enter Try.func67, Try.ntmps67
  go_wp2_with fail
  go_loopw [3, 4, 13] (fun o l i wr => ∃ k : Nat, k ≤ xs.length ∧ i = .int .i64 k ∧ Hid (k < xs.length → l = pt (f k)) ∧ OwnI wr w.heap.size .i64 3 o (xs.take k) ∧ Below w.heap.size w wr) (fun _ _ i _ => xs.length - (intOf i).toNat)
  case atStart => exact ⟨0, Nat.zero_le _, rfl, fun hp => by unfold hdF; rw [if_neg (by omega)], OwnI.nil _ _ _ _, Below.refl _ _⟩
  case round =>
    obtain ⟨k, hk, rfl, hL, hown, hbel⟩ := hrel
    by_cases hlt : k < xs.length
    · have hll := hL.out hlt
      subst hll
      have hnd := (H.out.below hbel).node k hlt
      have x0 := hnd.cell (i := 0) rfl
      have hnd2 := (hnd.alloc (.cells #[.int .i64 xs[k]] 3))
      have hx2 : ∀ (w2 : World), Below wr.heap.size wr w2 → w2.cell? ⟨f k, 2, none⟩ = some (pt (f (nx xs.length k))) := fun w2 hb => (hnd.below hb).cell rfl
      have HX2 := hid hx2
      have HLT := hid (H.out.node k hlt).lt
      have htk : xs.take (k + 1) = xs.take k ++ [xs[k]] := List.take_succ_eq_append_getElem hlt
      have hln : (xs.take k).length = k := by rw [List.length_take]; omega
      have HTK := hid htk
      have HLN := hid hln
      have hsz := hbel.size
      have hL2 : k + 1 < xs.length → pt (f (nx xs.length k)) = pt (f (k + 1)) := fun hh => by unfold nx; rw [if_neg (by omega)]
      have HL2 := hid hL2
      generalize xs[k] = x at *
      clear hL hnd hnd2 hx2 htk hln hL2
      go_wp2_with (at_builtin; go_must (refine app_int elem_i64 (y := x) (base := w.heap.size) rfl _ _ rfl rfl rfl rfl hown (by rw [HLN.out]; omega) (by rw [HLN.out]; omega) hsz ?_); intro v' w' ho hbel2 hgr; have hx3 := Grew.cell hgr (HX2.out wr (Below.refl _ _)) (fun e => by have h1 : w.heap.size ≤ f k := (World.ownsRow.lt hown _ e).1; have h2 := HLT.out; omega))
      go_roundw
      case rel => exact ⟨k + 1, by omega, by go_num, HL2, by rw [HTK.out]; exact ho, hbel.trans hbel2⟩
      case measure => simp [intOf]; omega
    · obtain rfl : k = xs.length := by omega
      go_wp2_with fail
      go_ret
      rw [List.take_length] at hown
      exact ⟨_, rfl, hown, hbel⟩
end Go.Proofs.Ytbjhedfgnocflaa
