/-
  TIMERS, the reference's clock: Drop, Next. Conditions: the object's own invariant; lengths.
-/
import Derived.Test.YtalookaaogiinaaTmR
namespace Go.Proofs.Ytalookaaogiinaa
open Go.RowKit Go.Lib
attribute [local go_sem ↓] Go.wp_at_zero Go.wp_at_succ

set_option maxRecDepth 100000 in
set_option maxHeartbeats 8000000 in
theorem rtdrop_any (w : World) (base B : Nat) (v : Value) (r : RT) (id : Int) (hn : r.L.length ≤ 32) (h : RB w base B v r) :
    Calls Try.prog 27 #[.pointer (some ⟨B, 0, none⟩), .int .i64 id] w fun e w' => e = .returned (.bool (decide (0 ≤ findR r id))) ∧ RPost w base B v (dropR r id) w' := by
  obtain ⟨now, l⟩ := r
  simp only at hn
  have HSP := hid (show dropR ⟨now, l⟩ id = if 0 ≤ fstI (fun t : Int × Int => decide (t.1 = id)) l then ⟨now, l.eraseIdx (fstI (fun t : Int × Int => decide (t.1 = id)) l).toNat⟩ else ⟨now, l⟩ from rfl)
  rw [show findR ⟨now, l⟩ id = fstI (fun t : Int × Int => decide (t.1 = id)) l from rfl]
  obtain ⟨fi, hfi⟩ : ∃ fi, fstI (fun t : Int × Int => decide (t.1 = id)) l = fi := ⟨_, rfl⟩
  rw [hfi] at HSP ⊢
  have HFI := hid hfi
  generalize dropR ⟨now, l⟩ id = sp at *
  have H := hid h
  obtain ⟨ao, cap, rfl, -⟩ := own_sl h.own
  have c1 := h.blk.cell (i := 1) rfl
  simp only at c1
  clear h hfi
  go_enter Try.func27, Try.ntmps27
  go_wp2_with fail
  go_loopw [5, 6, 12] (fun _ _ i wr => ∃ k : Nat, k ≤ l.length ∧ i = .int .i64 k ∧ Hid (∀ j (hj : j < k) (hl : j < l.length), decide (l[j].1 = id) = false) ∧ Below w.heap.size w wr) (fun _ _ i _ => l.length - (intOf i).toNat)
  case atStart => exact ⟨0, Nat.zero_le _, rfl, fun j hj => by omega, Below.refl _ _⟩
  case round =>
    obtain ⟨k, hk, rfl, hall, hbel⟩ := hrel
    by_cases hlt : k < l.length
    · have R0 := hid (H.out.below hbel)
      obtain ⟨g, cap', hv, hc1, hc2, hc⟩ := al_at R0.out.own (by show 0 < l.length; omega)
      simp only [Value.slice.injEq] at hv
      obtain ⟨rfl, -, rfl⟩ := hv
      have hc1' : l.length ≤ cap := hc1
      obtain ⟨a0, a1⟩ := hc k hlt
      simp only at a0 a1
      have hsz := hbel.size
      have HF := hid (fun (e : decide (l[k].1 = id) = true) => (show fi = k from by rw [← HFI.out]; exact fstI_at hlt e (fun j hj => hall j hj (by omega))))
      have HN := hid (fun (e : decide (l[k].1 = id) = false) => (show ∀ j (hj : j < k + 1) (hl : j < l.length), decide (l[j].1 = id) = false from fun j hj hl => by
        rcases Nat.lt_or_eq_of_le (Nat.le_of_lt_succ hj) with g | g
        · exact hall j g hl
        · subst g; exact e))
      have HB := hid hbel
      clear hc hall hbel
      generalize l[k] = x at *
      obtain ⟨xi, xd⟩ := x
      simp only at a0 a1 HF HN
      by_cases he : xi = id
      · have HF2 := hid (HF.out (decide_eq_true he))
        have he2 : (xi == id) = true := by simpa using he
        have HL := hid hlt
        clear he HN
        obtain ⟨o, ho1, ho2⟩ := run_tail elem_Al g l.length cap (k + 1) .i64 ((k : Int) + 1) rfl (by omega)
        have HO1 := hid ho1
        have b1 : (k : Int) ≤ cap := by omega
        have b2 : (k : Int) + 1 ≤ l.length := by omega
        have b3 : (k : Int) < l.length := by omega
        have hwr : IntKind.i64.wrap ((k : Int) + 1) = (k : Int) + 1 := IntWalk.i64_in _ (by omega)
        have hmin : min k l.length = k := by omega
        go_upto_region 5 with fail
        have RA := hid (R0.out.below ((Below.refl _ _).alloc (Nat.le_refl _) (.cells #[.int .i64 xi, .int .i64 xd] 110)))
        have BA := hid (HB.out.alloc hsz (.cells #[.int .i64 xi, .int .i64 xd] 110))
        generalize wr.alloc (.cells #[.int .i64 xi, .int .i64 xd] 110) = wa at *
        have RD := hid (show RB wa.drew base B (.slice (some ⟨g, 0, none⟩) l.length cap) ⟨now, l⟩ from RA.out.part.drew1.holds)
        have BD := hid (show Below w.heap.size w wa.drew from drew_bel' (n := 1) BA.out)
        have hpre := own_sl (own_prefix RD.out.own k (by show k ≤ l.length; omega))
        simp only at hpre
        rw [← flatMap_take encA2_len] at hpre
        have htl := own_tail RD.out.own (k + 1) (by show k + 1 ≤ l.length; omega) o HO1.out
        simp only at htl
        rw [← flatMap_drop encA2_len] at htl
        have hD : ∀ w', Below wa.drew.heap.size wa.drew w' → w'.cell? ⟨B, 1, none⟩ = some (.slice (some ⟨g, 0, none⟩) l.length cap) ∧ w'.frozen? ⟨B, 1, none⟩ = false ∧ Sl w' (.slice (some ⟨g, 0, none⟩) k cap) (l.take k).length ((l.take k).flatMap encA2) ∧ Sl w' (.slice (some ⟨g, o, none⟩) (l.length - (k + 1)) (cap - (k + 1))) (l.length - (k + 1)) ((l.drop (k + 1)).flatMap encA2) := by
          intro w' hb
          have k1 := RD.out.blk.below hb
          exact ⟨k1.cell rfl, k1.free 1, by rw [List.length_take, Nat.min_eq_left (by omega)]; exact hpre.below hb, htl.below hb⟩
        have HD := hid hD
        obtain ⟨c2, c2f, _, _⟩ := hD _ (Below.refl _ _)
        have HFL := hid (show ((l.drop (k + 1)).flatMap encA2).length = (l.length - (k + 1)) * 2 from by rw [flat_length encA2_len, List.length_drop])
        have HTK := hid (show (l.take k).length = k from by rw [List.length_take]; omega)
        have HLT := hid H.out.blk.lt
        have HWA := hid BD.out.size
        clear hD hpre htl hk hlt ho1
        go_region_law (first | (go_simp; go_at_call 49; refine (copy_A2 _ (l.take k) _ (HD.out _ (Below.refl _ _)).2.2.1 (by rw [HTK.out]; omega)).mono ?_; rintro e w2 ⟨v2, rfl, ho2', hb2⟩; obtain ⟨p2, p2f, _, ptl⟩ := HD.out _ hb2; have hv2 : ∀ k, v2.ownBlock = some k → wa.drew.heap.size ≤ k := (fun k hk => (World.ownsRow.lt ho2' k hk).1); have HV2 := hid (And.intro ho2' (And.intro hb2 hv2)); have PTL := hid ptl; clear ho2' hb2 ptl hv2) | (refine step_any elem_Al (by rfl) _ _ (by rfl) (by rfl) (by rfl) HV2.out.1 PTL.out HFL.out (encA2_one _) (by rw [HTK.out]; omega) (by rw [HTK.out]; omega) HV2.out.2.1.size ?_; intro v' w1 ho hb hg; obtain ⟨ao2, cap2, rfl, _⟩ := own_sl ho; have hx2 := Grew.cell hg p2 (fun e => by have h1 := HV2.out.2.2 B e; have h2 := HLT.out; have h3 := HWA.out; omega); have hf2 := Grew.free hg p2 (fun e => by have h1 := HV2.out.2.2 B e; have h2 := HLT.out; have h3 := HWA.out; omega) p2f; have HW := hid (Below.grown HV2.out.2.1 hg.1 HV2.out.2.1.size (fun k hk => (World.ownsRow.lt HV2.out.1 k hk).1)); have HG := hid ho; clear ho hb hg))
        all_goals
          go_wp2_with fail
          go_ret
          have hS : sp = ⟨now, l.eraseIdx k⟩ := by rw [HSP.out, HF2.out, if_pos (by omega)]; rfl
          have hlen : k + (l.length - (k + 1)) = (l.eraseIdx k).length := by have := HL.out; rw [List.length_eraseIdx_of_lt HL.out]; omega
          have hg := HG.out
          rw [HTK.out, ← List.flatMap_append, ← List.eraseIdx_eq_take_drop_succ] at hg
          rw [hS, HF2.out, hlen] at *
          exact ⟨(by rw [decide_eq_true (by omega)]; rfl), RB.row (L := l.eraseIdx k) H.out (BD.out.trans (HW.out.mono BD.out.size)) BD.out.size hg⟩
      · have HN2 := hid (HN.out (decide_eq_false he))
        have he2 : (xi == id) = false := by simpa using he
        clear he HF
        go_wp2_with fail
        go_roundw
        case rel => exact ⟨k + 1, by omega, by go_num, HN2.out, HB.out.alloc hsz _⟩
        case measure => simp [RowKit.intOf]; omega
    · obtain rfl : k = l.length := by omega
      have HF := hid (show fi = -1 from by rw [← HFI.out]; exact fstI_no (fun j hj => hall j hj hj))
      have HB := hid hbel
      clear hall hbel c1
      go_wp2_with fail
      go_ret
      have hS : sp = ⟨now, l⟩ := by rw [HSP.out, HF.out]; rfl
      rw [hS, HF.out]
      exact ⟨rfl, RPost.same H.out HB.out⟩
def nextRr (r : RT) : Int × Bool := if r.L.length = 0 then (0, false) else (leastR r.L - r.now, true)
end Go.Proofs.Ytalookaaogiinaa
