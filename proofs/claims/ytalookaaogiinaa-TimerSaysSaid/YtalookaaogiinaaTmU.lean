/-
  TIMERS, the reference's clock: Next, Tick. Conditions: the object's own invariant; lengths.
-/
import Derived.Test.YtalookaaogiinaaTmS
import Derived.Deep.CutBlock
namespace Go.Proofs.Ytalookaaogiinaa
open Go.RowKit Go.Lib
attribute [local go_sem ↓] Go.wp_at_zero Go.wp_at_succ

def lsK (l : List (Int × Int)) (k : Nat) : Int := (l.take k).foldl (fun a x => min a x.2) 1099511627777
theorem lsK_succ (l : List (Int × Int)) (k : Nat) (h : k < l.length) : lsK l (k + 1) = min (lsK l k) l[k].2 := by
  unfold lsK
  rw [List.take_succ_eq_append_getElem h, List.foldl_append]
  rfl
theorem lsK_bounds (l : List (Int × Int)) (h : ∀ x ∈ l, 0 ≤ x.2 ∧ x.2 ≤ 1099511627776) (k : Nat) (hk : k ≤ l.length) : 0 ≤ lsK l k ∧ lsK l k ≤ 1099511627777 := by
  induction k with
  | zero => unfold lsK; simp
  | succ k ih =>
    rw [lsK_succ l k (by omega)]
    have := h l[k] (List.getElem_mem _)
    have := ih (by omega)
    omega
set_option maxRecDepth 100000 in
set_option maxHeartbeats 2000000 in
theorem rtnext_any (w : World) (base B : Nat) (v : Value) (r : RT) (hn : r.L.length ≤ 32) (hnow : 0 ≤ r.now ∧ r.now ≤ 1099511627776) (hdue : ∀ x ∈ r.L, 0 ≤ x.2 ∧ x.2 ≤ 1099511627776) (h : RB w base B v r) :
    Calls Try.prog 32 #[.pointer (some ⟨B, 0, none⟩)] w fun e w' => e = .returned (.tuple #[.int .i64 (nextRr r).1, .bool (nextRr r).2]) ∧ Below w.heap.size w w' := by
  obtain ⟨now, l⟩ := r
  simp only at hn hnow hdue
  have H := hid h
  obtain ⟨ao, cap, rfl, -⟩ := own_sl h.own
  have c1 := h.blk.cell (i := 1) rfl
  simp only at c1
  clear h
  have HDU := hid hdue
  obtain ⟨hn0, hn1⟩ := hnow
  clear hdue
  go_enter Try.func32, Try.ntmps32
  go_wp2_with fail
  go_loopw [4, 6, 12] (fun a _ i wr => ∃ k : Nat, k ≤ l.length ∧ i = .int .i64 k ∧ a = .int .i64 (lsK l k) ∧ Below w.heap.size w wr) (fun _ _ i _ => l.length - (intOf i).toNat)
  case atStart => exact ⟨0, Nat.zero_le _, rfl, rfl, Below.refl _ _⟩
  case round =>
    obtain ⟨k, hk, rfl, rfl, hbel⟩ := hrel
    have hlb := lsK_bounds l HDU.out k hk
    by_cases hlt : k < l.length
    · obtain ⟨g, cap', hv, hc1, hc2, hc⟩ := al_at (H.out.below hbel).own (by show 0 < l.length; omega)
      simp only [Value.slice.injEq] at hv
      obtain ⟨rfl, -, rfl⟩ := hv
      obtain ⟨a0, a1⟩ := hc k hlt
      simp only at a0 a1
      have hsz := hbel.size
      have HS := hid (lsK_succ l k hlt)
      have HB := hid hbel
      clear hc hbel
      generalize l[k] = x at *
      obtain ⟨xi, xd⟩ := x
      simp only at a0 a1 HS
      generalize lsK l k = a at *
      obtain ⟨nx, hnx⟩ : ∃ nx, min a xd = nx := ⟨_, rfl⟩
      have HNX := hid hnx
      go_wp2_with fail
      go_roundw
      case rel => exact ⟨k + 1, by omega, by go_num, by rw [HS.out, HNX.out], HB.out.alloc hsz _⟩
      case measure => simp [RowKit.intOf]; omega
    · obtain rfl : k = l.length := by omega
      have HL := hid (show lsK l l.length = leastR l from by unfold lsK leastR; rw [List.take_length])
      generalize lsK l l.length = a at *
      have R1 := hid (H.out.below hbel)
      have HB := hid hbel
      clear hbel c1
      have c1 := R1.out.blk.cell (i := 1) rfl
      have c0 := R1.out.blk.cell (i := 0) rfl
      simp only at c0 c1
      obtain ⟨hl0, hl1⟩ := hlb
      have hw : IntKind.i64.wrap (a - now) = a - now := IntWalk.i64_in _ (by omega)
      by_cases h0 : l.length = 0
      · have HN := hid (show nextRr ⟨now, l⟩ = (0, false) from if_pos h0)
        have he : ((l.length : Int) == 0) = true := by rw [h0]; rfl
        go_wp2_with fail
        go_ret2
        rw [HN.out]
        exact ⟨rfl, HB.out⟩
      · have HN := hid (show nextRr ⟨now, l⟩ = (a - now, true) from by rw [HL.out]; exact if_neg h0)
        have he : ((l.length : Int) == 0) = false := beq_eq_false_iff_ne.2 (by omega)
        go_wp2_with fail
        go_ret2
        rw [HN.out]
        exact ⟨rfl, HB.out⟩
end Go.Proofs.Ytalookaaogiinaa
