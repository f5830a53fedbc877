/-
  SameAll AT Call, BY ITS CLOSURE: lists whose elements are the same, one by one, are the same. Conditions: readings. Printed by a program of mine.
-/
import Derived.Test.YtpapblahnbeccaaSam
import Derived.Deep.RegionHeld3
namespace Go.Proofs.Ytpapblahnbeccaa
open Go.RowKit Go.Lib
attribute [local go_sem ↓] Go.wp_at_zero Go.wp_at_succ

set_option maxRecDepth 100000 in
set_option maxHeartbeats 2000000 in
theorem sameAll_SaC (w : World) (va vb : Value) (ca cb : List (List Value)) (hl : ca.length = cb.length) (hla : ∀ c ∈ ca, c.length = 4) (hlb : ∀ c ∈ cb, c.length = 4) (ha : Sl w va ca.length ca.flatten) (hb : Sl w vb cb.length cb.flatten)
    (hs : ∀ i (h1 : i < ca.length) (h2 : i < cb.length) (w' : World), Below w.heap.size w w' → Calls Try.prog 133 #[.agg ca[i].toArray, .agg cb[i].toArray] w' fun e w2 => e = .returned (.bool true) ∧ Below w'.heap.size w' w2) :
    Calls Try.prog 132 #[va, vb, .func (.func 133) #[] #[]] w fun e w' => e = .returned (.bool true) ∧ Below w.heap.size w w' := by
  rcases sm_open (s := 4) (by decide) hla ha with ⟨ao, cap, rfl, h0⟩ | ⟨b, off, cap, rfl, h0, hcap, hm, hca⟩
  · have hb0 : cb.length = 0 := by omega
    obtain ⟨ao', cap', rfl, _, _, _, _⟩ := hb
    rw [hb0]
    clear hs hb0 hl hla hlb ha h0
    go_enter Try.func132, Try.ntmps132
    go_wp2
    refine wp_loop_rounds 1 ?_; rw [rounds_succ]; go_wp2
    go_ret
    exact ⟨rfl, Below.refl _ _⟩
  rcases sm_open (s := 4) (by decide) hlb hb with ⟨ao', cap', rfl, h0'⟩ | ⟨b', off', cap', rfl, h0', hcap', hm', hcb⟩
  · omega
  have hne : ((ca.length : Int) != cb.length) = false := by simp [hl]
  have HL := hid hl
  have HCA := hid hca
  have HCB := hid hcb
  have HS := hid hs
  have HLA := hid hla
  have HLB := hid hlb
  clear hl hca hcb hs hla hlb ha hb
  go_enter Try.func132, Try.ntmps132
  go_wp2
  go_loopw [15] (fun i wr => ∃ k : Nat, k ≤ ca.length ∧ i = .int .i64 k ∧ Hid (Below w.heap.size w wr)) (fun i _ => ca.length - (RowKit.intOf i).toNat)
  case atStart => exact ⟨0, Nat.zero_le _, rfl, hid (Below.refl _ _)⟩
  case round =>
    obtain ⟨k, hk, rfl, HB⟩ := hrel
    by_cases hlt : k < ca.length
    · have hlt' : k < cb.length := by have := HL.out; omega
      have hh := HS.out k hlt hlt' wr.drew (below_dr HB.out)
      obtain ⟨c0, c1, c2, c3, hea⟩ := sm_split4 (HLA.out _ (List.getElem_mem hlt))
      obtain ⟨d0, d1, d2, d3, heb⟩ := sm_split4 (HLB.out _ (List.getElem_mem hlt'))
      rw [hea, heb] at hh
      have HH := hid hh
      have HEA := hid hea
      have HEB := hid heb
      have e0 : wr.drew.cell? ⟨b, off + k * 4, none⟩ = some c0 := sm_at HCA.out (below_dr HB.out) hlt HLA.out hea (f := 0) rfl
      have e1 : wr.drew.cell? ⟨b, off + k * 4 + 1, none⟩ = some c1 := sm_at HCA.out (below_dr HB.out) hlt HLA.out hea (f := 1) rfl
      have e2 : wr.drew.cell? ⟨b, off + k * 4 + 2, none⟩ = some c2 := sm_at HCA.out (below_dr HB.out) hlt HLA.out hea (f := 2) rfl
      have e3 : wr.drew.cell? ⟨b, off + k * 4 + 3, none⟩ = some c3 := sm_at HCA.out (below_dr HB.out) hlt HLA.out hea (f := 3) rfl
      have f0 : wr.drew.cell? ⟨b', off' + k * 4, none⟩ = some d0 := sm_at HCB.out (below_dr HB.out) hlt' HLB.out heb (f := 0) rfl
      have f1 : wr.drew.cell? ⟨b', off' + k * 4 + 1, none⟩ = some d1 := sm_at HCB.out (below_dr HB.out) hlt' HLB.out heb (f := 1) rfl
      have f2 : wr.drew.cell? ⟨b', off' + k * 4 + 2, none⟩ = some d2 := sm_at HCB.out (below_dr HB.out) hlt' HLB.out heb (f := 2) rfl
      have f3 : wr.drew.cell? ⟨b', off' + k * 4 + 3, none⟩ = some d3 := sm_at HCB.out (below_dr HB.out) hlt' HLB.out heb (f := 3) rfl
      clear hh hea heb
      have hi0 : (0 : Int) ≤ (k : Int) := by omega
      have hi1 : (k : Int) < (ca.length : Int) := by omega
      have hi2 : (k : Int) < (cb.length : Int) := by omega
      go_wp2_with fail
      go_region_held3 (fun w' => w'.cell? ⟨b, off + k * 4, none⟩ = some c0 ∧ w'.cell? ⟨b, off + k * 4 + 1, none⟩ = some c1 ∧ w'.cell? ⟨b, off + k * 4 + 2, none⟩ = some c2 ∧ w'.cell? ⟨b, off + k * 4 + 3, none⟩ = some c3 ∧ w'.cell? ⟨b', off' + k * 4, none⟩ = some d0 ∧ w'.cell? ⟨b', off' + k * 4 + 1, none⟩ = some d1 ∧ w'.cell? ⟨b', off' + k * 4 + 2, none⟩ = some d2 ∧ w'.cell? ⟨b', off' + k * 4 + 3, none⟩ = some d3) (first | exact ⟨e0, e1, e2, e3, f0, f1, f2, f3⟩ | exact ⟨sm_at HCA.out HB3.out hlt HLA.out HEA.out (f := 0) rfl, sm_at HCA.out HB3.out hlt HLA.out HEA.out (f := 1) rfl, sm_at HCA.out HB3.out hlt HLA.out HEA.out (f := 2) rfl, sm_at HCA.out HB3.out hlt HLA.out HEA.out (f := 3) rfl, sm_at HCB.out HB3.out hlt' HLB.out HEB.out (f := 0) rfl, sm_at HCB.out HB3.out hlt' HLB.out HEB.out (f := 1) rfl, sm_at HCB.out HB3.out hlt' HLB.out HEB.out (f := 2) rfl, sm_at HCB.out HB3.out hlt' HLB.out HEB.out (f := 3) rfl⟩ | go_keep) (first | (go_at_call 133; (with_reducible refine HH.out.mono ?_); rintro r w3 ⟨rfl, h1⟩; have HB3 := hid (HB.out.trans ((below_dr (Below.refl wr.heap.size wr)).trans h1 |>.mono HB.out.size)); clear h1))
      all_goals
        go_wp2_with fail
        go_roundw
        case rel => exact ⟨k + 1, by omega, by go_num, HB3⟩
        case measure => simp [RowKit.intOf]; omega
    · go_wp2
      go_ret
      exact ⟨rfl, HB.out⟩
end Go.Proofs.Ytpapblahnbeccaa
