/-
  THE AIR: the reference's Take. Conditions: the object's own invariant.
-/
import Derived.Test.YtbjhedfgnocflaaAirB
import Derived.Deep.RegionLaw
import Derived.IntWalk
namespace Go.Proofs.Ytbjhedfgnocflaa
open Go.RowKit Go.Lib
attribute [local go_sem ↓] Go.wp_at_zero Go.wp_at_succ

/-- what the middle of Take leaves -/
def AirMid (B : Nat) (W0 : World) (a b : Nat) (cs : List Value) (wx : World) : Prop :=
  ∃ ao cap w1, wx = w1.setCell ⟨B, 0, none⟩ (.slice ao (a + b) cap) ∧ Below W0.heap.size W0 w1 ∧ w1.ownsRow W0.heap.size 92 2 (.slice ao (a + b) cap) (a + b) cs

theorem take_air {ty : TypeId} {w w3 w5 : World} {base B bas cap k : Nat} {v : Value} {xs : List Way} {ao : Option Addr} {a : Value} (h : ABox ty 92 w base B v xs)
    (hbel : Below w.heap.size w w3) (hk : k < xs.length) (ho : w3.ownsRow bas 92 2 (.slice ao (k + (xs.length - (k + 1))) cap) (k + (xs.length - (k + 1))) ((xs.take k).flatMap encWay ++ (xs.drop (k + 1)).flatMap encWay)) (hbas : w.heap.size ≤ bas) (hbas2 : w.heap.size < bas)
    (ht5 : Touch (fun k => k = w.heap.size) (w3.setCell ⟨B, 0, none⟩ (.slice ao (k + (xs.length - (k + 1))) cap)) w5) : AirPost ty 92 w base B v a (xs.eraseIdx k) (.returned a) w5 := by
  have hlt := h.blk.lt
  have hlen : k + (xs.length - (k + 1)) = (xs.eraseIdx k).length := by rw [List.length_eraseIdx_of_lt hk]; omega
  rw [← List.flatMap_append, ← List.eraseIdx_eq_take_drop_succ] at ho
  rw [hlen] at ho ht5
  generalize xs.eraseIdx k = ys at *
  generalize hv' : Value.slice ao ys.length cap = v' at *
  have hge : ∀ j, v'.ownBlock = some j → w.heap.size < j := fun j hj => Nat.lt_of_lt_of_le hbas2 (ho.lt j hj).1
  have hne : v'.ownBlock ≠ some B := fun e => by have := hge B e; omega
  have hown0 := own_mono ho (Nat.le_trans h.base hbas)
  have hown : (w3.setCell ⟨B, 0, none⟩ v').ownsRow base 92 2 v' ys.length (ys.flatMap encWay) := ownsRow_setCell_other (a := ⟨B, 0, none⟩) hown0 hne _
  have hs3 := hbel.size
  have hb3 : Blk w3 B ty [v] := h.blk.below hbel
  refine ⟨v', rfl, ⟨(hb3.set 0 v').touch ht5 (by omega), own_touch hown ht5 (fun k hk e => ?_), hne, h.le, ?_⟩, ((Touch.of_below hbel).trans (Touch.setCell (.inl rfl) _)).trans' ht5 (fun k hk e => by omega), fun k hk => .inr (Nat.le_of_lt (hge k hk))⟩
  · have := hge k hk; omega
  · have := h.base
    have := ht5.size
    simp at this
    omega

set_option maxRecDepth 100000 in
set_option maxHeartbeats 20000000 in
theorem ratake_any (w : World) (base B : Nat) (v : Value) (xs : List Way) (k : Int) (h : ABox 85 92 w base B v xs) (hl : xs.length ≤ 40) :
    Calls Try.prog 49 #[.pointer (some ⟨B, 0, none⟩), .int .i64 k] w (AirPost 85 92 w base B v (takeR k xs) (takeL k xs)) := by
  have hh := fun wx => outs_any k 0 ((xs.length : Int) - 1) wx
  rw [out_in] at hh
  have hb0 : Below w.heap.size w (w.alloc (.cells #[.int .i64 0, .string ⟨#[]⟩] 92)) := (Below.refl _ _).alloc (Nat.le_refl _) _
  have hblk := Blk.new w #[.int .i64 0, .string ⟨#[]⟩] 92 _ rfl
  unfold takeR takeL
  by_cases hin : inA k xs
  · rw [if_pos hin, if_pos hin]
    rw [decide_eq_true hin, Bool.not_true] at hh
    obtain ⟨k, rfl⟩ := Int.eq_ofNat_of_zero_le hin.1
    have hlt : k < xs.length := by have := hin.2; omega
    rw [atW_get hlt, Int.toNat_natCast]
    have hM := h.below hb0
    obtain ⟨g, cap, rfl, hg1, hg2, hg3, hg4⟩ := own_head h.own (by omega)
    obtain ⟨_, _, _, hc⟩ := lk_cells hM.own.lk encWay_len (by decide) (by omega)
    have x0 := hc k hlt 0 (by decide); have x1 := hc k hlt 1 (by decide)
    rw [show (encWay xs[k])[0]? = some (.int .i64 xs[k].to) from rfl, Nat.add_zero, Nat.zero_add] at x0; rw [show (encWay xs[k])[1]? = some (.string xs[k].text) from rfl, Nat.zero_add] at x1
    have q0 := hM.blk.cell (i := 0) rfl
    have hBw : B < w.heap.size := h.blk.lt
    obtain ⟨o, ho1, ho2⟩ := run_tail elem_Way g xs.length cap (k + 1) .i64 ((k : Int) + 1) rfl (by omega)
    have HO1 := hid ho1
    have HH := hid hh
    have H := hid h
    have HM := hid hM
    have HBL := hid hblk
    have b1 : (k : Int) ≤ cap := by omega
    have b2 : (k : Int) + 1 ≤ xs.length := by omega
    have b3 : (k : Int) < xs.length := by omega
    clear hc hh hin h hM hblk ho1
    go_enter Try.func49, Try.ntmps49
    go_wp2_with fail
    refine (HH.out _).mono ?_
    rintro e w1 ⟨rfl, rfl⟩
    obtain ⟨wr, hwr0⟩ : ∃ wr, wr = w.alloc (.cells #[.int .i64 0, .string ⟨#[]⟩] 92) := ⟨_, rfl⟩
    have hsr : w.heap.size < wr.heap.size := by rw [hwr0]; simp
    have hbel : Below w.heap.size w wr := by rw [hwr0]; exact hb0
    rw [← hwr0] at HM HBL x0 x1 q0 ⊢
    have HW0 := hid hwr0
    clear hwr0 hb0
    go_wp2_with fail
    have hB0 : Below wr.heap.size wr (wr.alloc (.cells #[.int .i64 xs[k].to, .string xs[k].text] 92)).drew := ((Below.refl _ _).alloc (Nat.le_refl _) _).trans (drew_bel' (n := 1) (Below.refl _ _))
    have hpre : Lk encWay wr (.slice (some ⟨g, 0, none⟩) k cap) (xs.take k) := by
      have h1 := own_sl (own_prefix HM.out.own k (by omega))
      rw [← flatMap_take encWay_len] at h1
      show Sl wr _ (xs.take k).length _
      rw [List.length_take, Nat.min_eq_left (by omega)]
      exact h1
    have htl : Sl wr (.slice (some ⟨g, o, none⟩) (xs.length - (k + 1)) (cap - (k + 1))) (xs.length - (k + 1)) ((xs.drop (k + 1)).flatMap encWay) := by
      have h1 := own_tail HM.out.own (k + 1) (by omega) o HO1.out
      rw [← flatMap_drop encWay_len] at h1
      exact h1
    have hD : ∀ w', Below (wr.alloc (.cells #[.int .i64 xs[k].to, .string xs[k].text] 92)).drew.heap.size (wr.alloc (.cells #[.int .i64 xs[k].to, .string xs[k].text] 92)).drew w' → w'.cell? ⟨B, 0, none⟩ = some (.slice (some ⟨g, 0, none⟩) xs.length cap) ∧ w'.frozen? ⟨B, 0, none⟩ = false ∧ Lk encWay w' (.slice (some ⟨g, 0, none⟩) k cap) (xs.take k) ∧ Sl w' (.slice (some ⟨g, o, none⟩) (xs.length - (k + 1)) (cap - (k + 1))) (xs.length - (k + 1)) ((xs.drop (k + 1)).flatMap encWay) := by
      intro w' hb
      have hb' : Below wr.heap.size wr w' := hB0.trans (hb.mono hB0.size)
      have k1 := HM.out.blk.below hb'
      exact ⟨k1.cell rfl, k1.free 0, Lk.below hpre hb', htl.below hb'⟩
    have HD := hid hD
    obtain ⟨c2, c2f, _, _⟩ := hD _ (Below.refl _ _)
    have hfl : ((xs.drop (k + 1)).flatMap encWay).length = (xs.length - (k + 1)) * 2 := by rw [flat_length encWay_len, List.length_drop]
    have HFL := hid hfl
    have htk : (xs.take k).length = k := by rw [List.length_take]; omega
    have HTK := hid htk
    clear hD hpre htl hfl htk
    have hwr : IntKind.i64.wrap ((k : Int) + 1) = (k : Int) + 1 := IntWalk.i64_in _ (by omega)
    have hmin : min k xs.length = k := by omega
    go_cut [] (fun wx => AirMid B (wr.alloc (.cells #[.int .i64 xs[k].to, .string xs[k].text] 92)).drew k (xs.length - (k + 1)) ((xs.take k).flatMap encWay ++ (xs.drop (k + 1)).flatMap encWay) wx)
    case first =>
      go_region_law (first | (go_simp; go_at_call 89; refine (copy_Way _ (xs.take k) _ (HD.out _ (Below.refl _ _)).2.2.1 (by rw [List.length_take]; omega) (by rw [List.length_take]; omega)).mono ?_; rintro e w2 ⟨v2, rfl, ho2', hb2⟩; obtain ⟨p2, p2f, _, ptl⟩ := HD.out _ hb2; have hwb : Below wr.heap.size wr w2 := hB0.trans (hb2.mono hB0.size); have hv2 : ∀ k, v2.ownBlock = some k → wr.heap.size ≤ k := (fun k hk => Nat.le_trans hB0.size (World.ownsRow.lt ho2' k hk).1); have HV2 := hid (And.intro ho2' (And.intro hb2 hwb)); have PTL := hid ptl; clear ho2' hb2 ptl hwb) | (refine step_any elem_Way (by rfl) _ _ (by rfl) (by rfl) (by rfl) HV2.out.1 PTL.out HFL.out (encWay_one _) (by rw [HTK.out]; omega) (by rw [HTK.out]; omega) HV2.out.2.1.size ?_; intro v' w1 ho hb hg; obtain ⟨ao2, cap2, rfl, _⟩ := own_sl ho; have hx2 := Grew.cell hg p2 (fun e => by have := hv2 B e; omega); have hf2 := Grew.free hg p2 (fun e => by have := hv2 B e; omega) p2f; have HW := hid (Below.grown HV2.out.2.1 hg.1 HV2.out.2.1.size (fun k hk => (World.ownsRow.lt HV2.out.1 k hk).1)); have HG := hid ho; clear ho hb hg))
      all_goals
        go_wp2_with fail
        go_meet
        exact ⟨_, _, _, rfl, HW.out, by have h9 := HG.out; rw [HTK.out] at h9; exact h9⟩
    case rest =>
      obtain ⟨ao2, cap2, w1, rfl, HW0', HG0⟩ := hcut
      have HW := hid HW0'
      have HG := hid HG0
      clear HW0' HG0
      have e3 : Blk w1 wr.heap.size 92 _ := Blk.below (w := (wr.alloc (.cells #[.int .i64 xs[k].to, .string xs[k].text] 92)).drew) (Blk.new wr #[.int .i64 xs[k].to, .string xs[k].text] _ _ rfl) HW.out
      have e4 : Blk w1 w.heap.size 92 _ := Blk.below (w := (wr.alloc (.cells #[.int .i64 xs[k].to, .string xs[k].text] 92)).drew) (HBL.out.alloc _) HW.out
      have u0 := e3.cell (i := 0) rfl
      have u1 := e3.cell (i := 1) rfl
      have z0 := e4.cell (i := 0) rfl
      have z1 := e4.cell (i := 1) rfl
      have hfr := fun i => e4.free i
      have hne1 : w.heap.size ≠ B := by omega
      have hne2 : wr.heap.size ≠ B := by omega
      have HB0 := hid hB0
      have HBEL := hid hbel
      clear e3 e4 hB0 hbel hwr
      go_wp2_with fail
      refine bodyPost_ret (v := .tuple #[.agg #[.int .i64 xs[k].to, .string xs[k].text], .int .i64 0]) (by simp [results, Try.results49, go_sem, z0, z1]) rfl ?_
      have hbw : Below w.heap.size w w1 := HBEL.out.trans ((HB0.out.trans (HW.out.mono HB0.out.size)).mono (Nat.le_of_lt hsr))
      refine take_air H.out hbw hlt HG.out (Nat.le_trans (Nat.le_of_lt hsr) HB0.out.size) (Nat.lt_of_lt_of_le hsr HB0.out.size) ?_
      exact (Touch.setCell (F := fun k => k = w.heap.size) (a := ⟨w.heap.size, 0, none⟩) rfl _).trans (Touch.setCell (F := fun k => k = w.heap.size) (a := ⟨w.heap.size, 1, none⟩) rfl _)
  · rw [if_neg hin, if_neg hin]
    rw [decide_eq_false hin, Bool.not_false] at hh
    obtain ⟨ao, cap, hvv, _⟩ := own_sl h.own
    subst hvv
    have q0 := (h.below hb0).blk.cell (i := 0) rfl
    have z0 := hblk.cell (i := 0) rfl
    have z1 := hblk.cell (i := 1) rfl
    have hfr := fun i => hblk.free i
    have H := hid h
    have HH := hid hh
    have HB0 := hid hb0
    clear hh hin h hb0 hblk
    go_enter Try.func49, Try.ntmps49
    go_wp2_with fail
    refine (HH.out _).mono ?_
    rintro e w1 ⟨rfl, rfl⟩
    go_wp2_with fail
    go_returns
    exact air_same H.out HB0.out rfl
end Go.Proofs.Ytbjhedfgnocflaa
