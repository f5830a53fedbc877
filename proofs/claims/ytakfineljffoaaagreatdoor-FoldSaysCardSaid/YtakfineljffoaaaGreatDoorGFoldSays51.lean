/-
  INSTRUCTIONS: the reference's Read. Conditions: lengths in the form's reach; the library's variable that strings.Contains reads holds some number.
-/
import Derived.Test.YtakfineljffoaaaGreatDoorGFoldSays1
import Derived.Test.YtakfineljffoaaaGreatDoorGFoldSays2
import Derived.Test.YtakfineljffoaaaGreatDoorGFoldSays10
import Derived.Test.YtakfineljffoaaaGreatDoorGFoldSays12
import Derived.Test.YtakfineljffoaaaGreatDoorGFoldSays25
import Derived.Deep.RegionLaw
import Derived.Deep.RegionHeld3
namespace Go.Proofs.YtakfineljffoaaaGreatDoor
open Go.RowKit Go.Lib
attribute [local go_sem ↓] Go.wp_at_zero Go.wp_at_succ

end Go.Proofs.YtakfineljffoaaaGreatDoor
namespace Go.Proofs.YtakfineljffoaaaGreatDoor
open Go.RowKit

theorem eq_tail {α : Type} {xs ys : List α} (k : Nat) (hk : k < xs.length) (hk' : k < ys.length) :
    (xs.drop k = ys.drop k) ↔ (xs[k] = ys[k] ∧ xs.drop (k + 1) = ys.drop (k + 1)) := by
  rw [drop_cons xs k hk, drop_cons ys k hk', List.cons.injEq]
theorem eq_no {α : Type} [BEq α] [LawfulBEq α] {xs ys : List α} {k : Nat} {hk : k < xs.length} {hk' : k < ys.length} (h : Hid (xs = ys ↔ xs.drop k = ys.drop k)) (hx : (xs[k] != ys[k]) = true) : ¬ xs = ys := by
  rw [h.out, eq_tail k hk hk']
  intro e
  simp [e.1] at hx
theorem eq_on {α : Type} [BEq α] [LawfulBEq α] {xs ys : List α} {k : Nat} {hk : k < xs.length} {hk' : k < ys.length} (h : Hid (xs = ys ↔ xs.drop k = ys.drop k)) (hx : (xs[k] != ys[k]) = false) : Hid (xs = ys ↔ xs.drop (k + 1) = ys.drop (k + 1)) := by
  have hx' : xs[k] = ys[k] := by simpa using hx
  show _ ↔ _
  rw [h.out, eq_tail k hk hk']
  exact ⟨fun e => e.2, fun e => ⟨hx', e⟩⟩
theorem eq_end {α : Type} {xs ys : List α} {k : Nat} (h : Hid (xs = ys ↔ xs.drop k = ys.drop k)) (hl : xs.length = ys.length) (hk : ¬ k < xs.length) : xs = ys := by
  rw [h.out, List.drop_of_length_le (by omega), List.drop_of_length_le (by omega)]

end Go.Proofs.YtakfineljffoaaaGreatDoor
namespace Go.Proofs.YtakfineljffoaaaGreatDoor
open Go.RowKit

set_option maxRecDepth 100000 in
set_option maxHeartbeats 400000 in
theorem eq_int64 (va vb : Value) (xs ys : List Int) (w : World) (ha : Ints w .i64 va xs) (hb : Ints w .i64 vb ys) :
    Calls Tryz.prog 83 #[va, vb] w fun e w' => e = .returned (.bool (decide (xs = ys))) ∧ w = w' := by
  by_cases hl : xs.length = ys.length
  · rcases ha.open with ⟨ao, cap, rfl, rfl, _⟩ | ⟨b, off, cap, rfl, h0, hcap, hm, hc⟩
    · obtain rfl : ys = [] := by cases ys <;> simp_all
      obtain ⟨ao', cap', rfl, _, _, _, _⟩ := hb
      clear hl ha
      go_enter Tryz.func83, Tryz.ntmps83
      go_wp2
      refine wp_loop_rounds 1 ?_; rw [rounds_succ]; go_wp2
      go_ret
      exact ⟨by simp, rfl⟩
    · rcases hb.open with ⟨ao', cap', rfl, rfl, _⟩ | ⟨b', off', cap', rfl, h0', hcap', hm', hc'⟩
      · simp at hl; simp [hl] at h0
      clear ha hb
      have H := hid hl
      have hne : ((xs.length : Int) != ys.length) = false := by simp [hl]
      clear hl
      go_enter Tryz.func83, Tryz.ntmps83
      go_wp2
      go_loop [14] (fun i => ∃ k : Nat, k ≤ xs.length ∧ i = .int .i64 k ∧ Hid (xs = ys ↔ xs.drop k = ys.drop k)) (fun i => xs.length - (intOf i).toNat)
      case atStart => exact ⟨0, Nat.zero_le _, rfl, by simp [Hid]⟩
      case round =>
        obtain ⟨k, hk, rfl, hq⟩ := hrel
        by_cases hlt : k < xs.length
        · have hlt' : k < ys.length := by have := H.out; omega
          go_wp2
          · go_ret
            exact ⟨retB (by simp [eq_no hq ‹_›]), rfl⟩
          · go_round
            case rel => exact ⟨k + 1, by omega, by go_num, eq_on hq ‹_›⟩
            case measure => simp [intOf]; omega
        · go_wp2
          go_ret
          exact ⟨retB (by simp [eq_end hq H.out hlt]), rfl⟩
  · have hne : ((xs.length : Int) != ys.length) = true := by simp; omega
    have hxy : xs ≠ ys := fun e => hl (by rw [e])
    obtain ⟨ao, cap, rfl, _, _, _, _⟩ := ha
    obtain ⟨ao', cap', rfl, _, _, _, _⟩ := hb
    go_enter Tryz.func83, Tryz.ntmps83
    go_wp2
    go_ret
    exact ⟨retB (by simp [hxy]), rfl⟩
end Go.Proofs.YtakfineljffoaaaGreatDoor
namespace Go.Proofs.YtakfineljffoaaaGreatDoor
open Go.RowKit Go.Lib

set_option maxRecDepth 100000 in
set_option maxHeartbeats 1000000 in
theorem sameIns_any (op : Nat) (A B : Int) (v u : Value) (xs : List Int) (w : World) (hv : Ints w .i64 v xs) (hu : Ints w .i64 u xs) :
    Calls Tryz.prog 46 #[insV op A B v, insV op A B u] w fun e w' => e = .returned (.bool true) ∧ Below w.heap.size w w' := by
  have hb : Below w.heap.size w ((w.alloc (.cells #[.int .u8 op, .int .i64 A, .int .i64 B, v] 97)).alloc (.cells #[.int .u8 op, .int .i64 A, .int .i64 B, u] 97)) := ((Below.refl _ _).alloc (Nat.le_refl _) _).alloc (by simp) _
  have X := (Blk.new w #[.int .u8 op, .int .i64 A, .int .i64 B, v] 97 _ rfl).alloc (.cells #[.int .u8 op, .int .i64 A, .int .i64 B, u] 97)
  have Y := Blk.new (w.alloc (.cells #[.int .u8 op, .int .i64 A, .int .i64 B, v] 97)) #[.int .u8 op, .int .i64 A, .int .i64 B, u] 97 (w.heap.size + 1) (by simp)
  have HQ := hid (eq_int64 v u xs xs _ (L1.below hv hb) (L1.below hu hb))
  rw [decide_eq_true rfl] at HQ
  have HB := hid hb
  have x0 := X.cell (i := 0) rfl
  have x1 := X.cell (i := 1) rfl
  have x2 := X.cell (i := 2) rfl
  have x3 := X.cell (i := 3) rfl
  have y0 := Y.cell (i := 0) rfl
  have y1 := Y.cell (i := 1) rfl
  have y2 := Y.cell (i := 2) rfl
  have y3 := Y.cell (i := 3) rfl
  obtain ⟨ao, cap, rfl, -⟩ := id hv
  obtain ⟨ao', cap', rfl, -⟩ := id hu
  clear hv hu hb X Y
  go_enter Tryz.func46, Tryz.ntmps46
  go_wp2_with (go_at_call 83; refine HQ.out.mono ?_; rintro r w1 ⟨rfl, rfl⟩)
  go_ret
  exact ⟨rfl, HB.out⟩
end Go.Proofs.YtakfineljffoaaaGreatDoor
namespace Go.Proofs.YtakfineljffoaaaGreatDoor
open Go.RowKit Go.Lib

theorem sm_open {s : Nat} {w : World} {v : Value} {css : List (List Value)} (hs : 0 < s) (hl : ∀ c ∈ css, c.length = s) (h : Sl w v css.length css.flatten) :
    (∃ ao cap, v = .slice ao 0 cap ∧ css.length = 0) ∨ ∃ b off cap, v = .slice (some ⟨b, off, none⟩) css.length cap ∧ 0 < css.length ∧ css.length ≤ cap ∧ cap ≤ 9223372036854775807 ∧ At w b off css.flatten := by
  obtain ⟨ao, cap, rfl, h1, h2, h3, h4⟩ := h
  by_cases h0 : css.length = 0
  · exact .inl ⟨ao, cap, by rw [h0], h0⟩
  · rcases h4 with h4 | ⟨b, off, rfl, hat⟩
    · have := flatten_len css hl
      rw [h4] at this
      have h5 : 1 * 1 ≤ css.length * s := Nat.mul_le_mul (by omega) hs
      simp at this
      omega
    · exact .inr ⟨b, off, cap, rfl, by omega, h1, h2, hat⟩
theorem sm_at {s k f : Nat} {w wr : World} {b off : Nat} {css : List (List Value)} {c : List Value} {v : Value} (h : At w b off css.flatten) (hb : Below w.heap.size w wr) (hk : k < css.length) (hl : ∀ c ∈ css, c.length = s) (hc : css[k] = c) (hv : c[f]? = some v) : wr.cell? ⟨b, off + k * s + f, none⟩ = some v := by
  have hf : f < s := by
    have h1 := hl _ (List.getElem_mem hk)
    rw [hc] at h1
    rcases Nat.lt_or_ge f c.length with h | h
    · omega
    · rw [List.getElem?_eq_none h] at hv; cases hv
  have h2 := flatten_get css hl k f hf hk
  rw [hc, hv] at h2
  have hlt : k * s + f < css.flatten.length := by
    rcases Nat.lt_or_ge (k * s + f) css.flatten.length with h | h
    · exact h
    · rw [List.getElem?_eq_none h] at h2; cases h2
  have h3 := (h.below hb) (k * s + f) hlt
  rw [List.getElem?_eq_getElem hlt] at h2
  rw [← Nat.add_assoc] at h3
  rw [h3, h2]
theorem sm_split4 {c : List Value} (h : c.length = 4) : ∃ a0 a1 a2 a3, c = [a0, a1, a2, a3] := by
  match c, h with
  | [a, b, d, e], _ => exact ⟨_, _, _, _, rfl⟩
theorem below_dr {W w : World} {B : Nat} (h : Below B W w) : Below B W w.drew := drew_bel' (n := 1) h
end Go.Proofs.YtakfineljffoaaaGreatDoor
namespace Go.Proofs.YtakfineljffoaaaGreatDoor
open Go.RowKit Go.Lib
attribute [local go_sem ↓] Go.wp_at_zero Go.wp_at_succ

set_option maxRecDepth 100000 in
set_option maxHeartbeats 2000000 in
theorem sameAll_SaI (w : World) (va vb : Value) (ca cb : List (List Value)) (hl : ca.length = cb.length) (hla : ∀ c ∈ ca, c.length = 4) (hlb : ∀ c ∈ cb, c.length = 4) (ha : Sl w va ca.length ca.flatten) (hb : Sl w vb cb.length cb.flatten)
    (hs : ∀ i (h1 : i < ca.length) (h2 : i < cb.length) (w' : World), Below w.heap.size w w' → Calls Tryz.prog 46 #[.agg ca[i].toArray, .agg cb[i].toArray] w' fun e w2 => e = .returned (.bool true) ∧ Below w'.heap.size w' w2) :
    Calls Tryz.prog 45 #[va, vb, .func (.func 46) #[] #[]] w fun e w' => e = .returned (.bool true) ∧ Below w.heap.size w w' := by
  rcases sm_open (s := 4) (by decide) hla ha with ⟨ao, cap, rfl, h0⟩ | ⟨b, off, cap, rfl, h0, hcap, hm, hca⟩
  · have hb0 : cb.length = 0 := by omega
    obtain ⟨ao', cap', rfl, _, _, _, _⟩ := hb
    rw [hb0]
    clear hs hb0 hl hla hlb ha h0
    go_enter Tryz.func45, Tryz.ntmps45
    go_wp2
    refine wp_loop_rounds 1 ?_; rw [rounds_succ]; go_wp2
    go_ret
    exact ⟨rfl, Below.refl _ _⟩
  rcases sm_open (s := 4) (by decide) hlb hb with ⟨ao', cap', rfl, h0'⟩ | ⟨b', off', cap', rfl, h0', hcap', hm', hcb⟩
  · omega
  have hne : ((ca.length : Int) != cb.length) = false := by simp [hl]
  have HL := hid hl
  have HCA := hid hca
  have HCB := hid hcb
  have HS := hid hs
  have HLA := hid hla
  have HLB := hid hlb
  clear hl hca hcb hs hla hlb ha hb
  go_enter Tryz.func45, Tryz.ntmps45
  go_wp2
  go_loopw [15] (fun i wr => ∃ k : Nat, k ≤ ca.length ∧ i = .int .i64 k ∧ Hid (Below w.heap.size w wr)) (fun i _ => ca.length - (RowKit.intOf i).toNat)
  case atStart => exact ⟨0, Nat.zero_le _, rfl, hid (Below.refl _ _)⟩
  case round =>
    obtain ⟨k, hk, rfl, HB⟩ := hrel
    by_cases hlt : k < ca.length
    · have hlt' : k < cb.length := by have := HL.out; omega
      have hh := HS.out k hlt hlt' wr.drew (below_dr HB.out)
      obtain ⟨c0, c1, c2, c3, hea⟩ := sm_split4 (HLA.out _ (List.getElem_mem hlt))
      obtain ⟨d0, d1, d2, d3, heb⟩ := sm_split4 (HLB.out _ (List.getElem_mem hlt'))
      rw [hea, heb] at hh
      have HH := hid hh
      have HEA := hid hea
      have HEB := hid heb
      have e0 : wr.drew.cell? ⟨b, off + k * 4, none⟩ = some c0 := sm_at HCA.out (below_dr HB.out) hlt HLA.out hea (f := 0) rfl
      have e1 : wr.drew.cell? ⟨b, off + k * 4 + 1, none⟩ = some c1 := sm_at HCA.out (below_dr HB.out) hlt HLA.out hea (f := 1) rfl
      have e2 : wr.drew.cell? ⟨b, off + k * 4 + 2, none⟩ = some c2 := sm_at HCA.out (below_dr HB.out) hlt HLA.out hea (f := 2) rfl
      have e3 : wr.drew.cell? ⟨b, off + k * 4 + 3, none⟩ = some c3 := sm_at HCA.out (below_dr HB.out) hlt HLA.out hea (f := 3) rfl
      have f0 : wr.drew.cell? ⟨b', off' + k * 4, none⟩ = some d0 := sm_at HCB.out (below_dr HB.out) hlt' HLB.out heb (f := 0) rfl
      have f1 : wr.drew.cell? ⟨b', off' + k * 4 + 1, none⟩ = some d1 := sm_at HCB.out (below_dr HB.out) hlt' HLB.out heb (f := 1) rfl
      have f2 : wr.drew.cell? ⟨b', off' + k * 4 + 2, none⟩ = some d2 := sm_at HCB.out (below_dr HB.out) hlt' HLB.out heb (f := 2) rfl
      have f3 : wr.drew.cell? ⟨b', off' + k * 4 + 3, none⟩ = some d3 := sm_at HCB.out (below_dr HB.out) hlt' HLB.out heb (f := 3) rfl
      clear hh hea heb
      have hi0 : (0 : Int) ≤ (k : Int) := by omega
      have hi1 : (k : Int) < (ca.length : Int) := by omega
      have hi2 : (k : Int) < (cb.length : Int) := by omega
      go_wp2_with fail
      go_region_held3 (fun w' => w'.cell? ⟨b, off + k * 4, none⟩ = some c0 ∧ w'.cell? ⟨b, off + k * 4 + 1, none⟩ = some c1 ∧ w'.cell? ⟨b, off + k * 4 + 2, none⟩ = some c2 ∧ w'.cell? ⟨b, off + k * 4 + 3, none⟩ = some c3 ∧ w'.cell? ⟨b', off' + k * 4, none⟩ = some d0 ∧ w'.cell? ⟨b', off' + k * 4 + 1, none⟩ = some d1 ∧ w'.cell? ⟨b', off' + k * 4 + 2, none⟩ = some d2 ∧ w'.cell? ⟨b', off' + k * 4 + 3, none⟩ = some d3) (first | exact ⟨e0, e1, e2, e3, f0, f1, f2, f3⟩ | exact ⟨sm_at HCA.out HB3.out hlt HLA.out HEA.out (f := 0) rfl, sm_at HCA.out HB3.out hlt HLA.out HEA.out (f := 1) rfl, sm_at HCA.out HB3.out hlt HLA.out HEA.out (f := 2) rfl, sm_at HCA.out HB3.out hlt HLA.out HEA.out (f := 3) rfl, sm_at HCB.out HB3.out hlt' HLB.out HEB.out (f := 0) rfl, sm_at HCB.out HB3.out hlt' HLB.out HEB.out (f := 1) rfl, sm_at HCB.out HB3.out hlt' HLB.out HEB.out (f := 2) rfl, sm_at HCB.out HB3.out hlt' HLB.out HEB.out (f := 3) rfl⟩ | go_keep) (first | (go_at_call 46; (with_reducible refine HH.out.mono ?_); rintro r w3 ⟨rfl, h1⟩; have HB3 := hid (HB.out.trans ((below_dr (Below.refl wr.heap.size wr)).trans h1 |>.mono HB.out.size)); clear h1))
      all_goals
        go_wp2_with fail
        go_roundw
        case rel => exact ⟨k + 1, by omega, by go_num, HB3⟩
        case measure => simp [RowKit.intOf]; omega
    · go_wp2
      go_ret
      exact ⟨rfl, HB.out⟩
end Go.Proofs.YtakfineljffoaaaGreatDoor
namespace Go.Proofs.YtakfineljffoaaaGreatDoor
open Go.RowKit Go.Lib

theorem ItAt.len {w : World} {cs : List Value} {x : It} (h : ItAt w cs x) : cs.length = 4 := by
  obtain ⟨u, e, _⟩ := h
  rw [e]; rfl
set_option maxRecDepth 100000 in
set_option maxHeartbeats 1000000 in
theorem sameBody_any (w : World) (va vb : Value) (l : List It) (ha : BodS w va l) (hb : BodS w vb l) :
    Calls Tryz.prog 10 #[va, vb] w fun e w' => e = .returned (.bool true) ∧ Below w.heap.size w w' := by
  obtain ⟨ca, ea, sa, ia⟩ := ha
  obtain ⟨cb, eb, sb, ib⟩ := hb
  have HS := hid (sameAll_SaI w va vb ca cb (by omega) (fun c hc => by
      obtain ⟨i, hi, rfl⟩ := List.getElem_of_mem hc
      exact (ia i hi (by omega)).len) (fun c hc => by
      obtain ⟨i, hi, rfl⟩ := List.getElem_of_mem hc
      exact (ib i hi (by omega)).len) (by rw [ea]; exact sa) (by rw [eb]; exact sb) (fun i h1 h2 w' hbw => by
      obtain ⟨u, e1, t1⟩ := ia i h1 (by omega)
      obtain ⟨u', e2, t2⟩ := ib i h2 (by omega)
      rw [e1, e2]
      exact sameIns_any l[i].op l[i].A l[i].B u u' l[i].tos w' (L1.below t1 hbw) (L1.below t2 hbw)))
  obtain ⟨ao, cap, rfl, -⟩ := sa
  obtain ⟨ao', cap', rfl, -⟩ := sb
  clear ia ib ea eb
  go_enter Tryz.func10, Tryz.ntmps10
  go_wp2_with fail
  refine HS.out.mono ?_
  rintro r w1 ⟨rfl, g1⟩
  have HB := hid g1
  clear g1
  go_wp2_with fail
  go_ret
  exact ⟨rfl, HB.out⟩
end Go.Proofs.YtakfineljffoaaaGreatDoor
