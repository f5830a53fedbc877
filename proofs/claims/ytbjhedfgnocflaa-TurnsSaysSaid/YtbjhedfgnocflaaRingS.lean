/-
  THE RING OF THE REFERENCE: Drop. Conditions: the object's own invariant; at most 8796093022208 ids.
-/
import Derived.Test.YtbjhedfgnocflaaRingR
import Derived.IntWalk
namespace Go.Proofs.Ytbjhedfgnocflaa
open Go.RowKit Go.Lib
attribute [local go_sem ↓] Go.wp_at_zero Go.wp_at_succ

theorem drop_list {xs : List Int} {k : Nat} : xs.take k ++ xs.drop (k + 1) = xs.eraseIdx k := (List.eraseIdx_eq_take_drop_succ xs k).symm

set_option maxRecDepth 100000 in
set_option maxHeartbeats 8000000 in
theorem rdrop_any (w : World) (base B : Nat) (v : Value) (xs : List Int) (id : Int) (h : RRing w base B v xs) (hl : xs.length ≤ 8796093022208) :
    Calls Try.prog 62 #[.pointer (some ⟨B, 0, none⟩), .int .i64 id] w (RRPost w base B v (.bool (decide (ixI id xs < xs.length))) (dropL id xs)) := by
  have ha := at_any w base B v xs id h hl
  unfold atI at ha
  unfold dropL
  by_cases hin : ixI id xs < xs.length
  · rw [if_pos hin] at ha ⊢
    rw [decide_eq_true hin]
    generalize ixI id xs = k at *
    obtain ⟨g, cap, rfl, hg1, hg3, hg4, hc⟩ := h.own.head (by omega)
    have q0 := h.blk.cell (i := 0) rfl
    have hBw := h.blk.lt
    obtain ⟨o, ho1, ho2⟩ := run_tail elem_i64 g xs.length cap (k + 1) .i64 ((k : Int) + 1) rfl (by omega)
    have hpre := ints_prefix h.own rfl k (by omega)
    have htl := ints_tail h.own rfl (k + 1) (by omega) o ho1
    have hD : ∀ w', Below w.heap.size w w' → w'.cell? ⟨B, 0, none⟩ = some (.slice (some ⟨g, 0, none⟩) xs.length cap) ∧ w'.frozen? ⟨B, 0, none⟩ = false ∧ Ints w' .i64 (.slice (some ⟨g, 0, none⟩) k cap) (xs.take k) ∧ Ints w' .i64 (.slice (some ⟨g, o, none⟩) (xs.length - (k + 1)) (cap - (k + 1))) (xs.drop (k + 1)) := by
      intro w' hb
      have k1 := h.blk.below hb
      exact ⟨k1.cell rfl, k1.free 0, L1.below hpre hb, L1.below htl hb⟩
    have hd0 : Below w.heap.size w w.drew := drew_bel' (n := 1) (Below.refl _ _)
    have HD0 := hid hd0
    have HD := hid hD
    obtain ⟨c2, c2f, _, _⟩ := hD _ hd0
    have HA := hid ha
    have H := hid h
    have htk : (xs.take k).length = k := by rw [List.length_take]; omega
    have hdk : (xs.drop (k + 1)).length = xs.length - (k + 1) := by rw [List.length_drop]
    have HTK := hid htk
    have HDK := hid hdk
    have b1 : (k : Int) ≤ cap := by omega
    have b2 : (k : Int) + 1 ≤ xs.length := by omega
    have b3 : (k : Int) < xs.length := by omega
    have hwr : IntKind.i64.wrap ((k : Int) + 1) = (k : Int) + 1 := IntWalk.i64_in _ (by omega)
    clear ha h hpre htl hD hd0 htk hdk hc ho1
    go_enter Try.func62, Try.ntmps62
    go_wp2_with fail
    refine HA.out.mono ?_
    rintro e w1 ⟨rfl, rfl⟩
    go_wp2_with fail
    go_region_law (first | (go_simp; go_at_call 74; refine (copy_i64 _ (xs.take k) _ (HD.out _ HD0.out).2.2.1 (by rw [HTK.out]; omega)).mono ?_; rintro e w2 ⟨v2, rfl, ho2', hb2⟩; have hwb : Below w.heap.size w w2 := HD0.out.trans hb2; obtain ⟨p2, p2f, _, ptl⟩ := HD.out _ hwb; have hv2 : ∀ k, v2.ownBlock = some k → w.heap.size ≤ k := (fun k hk => (World.ownsRow.lt ho2' k hk).1); have HV2 := hid (And.intro ho2' (And.intro hb2 hwb)); have PTL := hid ptl; clear ho2' hb2 ptl hwb) | (refine step_any elem_i64 (by rfl) _ _ (by rfl) (by rfl) (by rfl) HV2.out.1 PTL.out (by rw [List.length_map, HDK.out, Nat.mul_one]) (map_oneCell (fun _ => rfl) _) (by rw [HTK.out, HDK.out]; omega) (by rw [HTK.out, HDK.out]; omega) HV2.out.2.1.size ?_; intro v' w1 ho hb hg; obtain ⟨ao2, cap2, rfl, _⟩ := own_sl ho; have hx2 := Grew.cell hg p2 (fun e => by have := hv2 B e; omega); have hf2 := Grew.free hg p2 (fun e => by have := hv2 B e; omega) p2f; have HW := hid (Below.grown HV2.out.2.1 hg.1 HV2.out.2.1.size (fun k hk => (World.ownsRow.lt HV2.out.1 k hk).1)); have HG := hid ho; clear ho hb hg))
    all_goals
      go_wp2_with fail
      go_ret
      have ho3 : OwnI w1 w.heap.size .i64 3 (.slice ao2 ((xs.take k).length + (xs.drop (k + 1)).length) cap2) (xs.take k ++ xs.drop (k + 1)) := by
        show World.ownsRow _ _ _ _ _ (xs.take k ++ xs.drop (k + 1)).length ((xs.take k ++ xs.drop (k + 1)).map _)
        rw [List.map_append, List.length_append]
        exact HG.out
      rw [drop_list, List.length_take, List.length_drop] at ho3
      exact rr_new H.out (HD0.out.trans HW.out) ho3
  · rw [if_neg hin] at ha ⊢
    rw [decide_eq_false hin]
    have HA := hid ha
    have H := hid h
    clear ha h hin
    go_enter Try.func62, Try.ntmps62
    go_wp2_with fail
    refine HA.out.mono ?_
    rintro e w1 ⟨rfl, rfl⟩
    go_wp2_with fail
    go_ret
    exact rr_same H.out (Below.refl _ _)
end Go.Proofs.Ytbjhedfgnocflaa
