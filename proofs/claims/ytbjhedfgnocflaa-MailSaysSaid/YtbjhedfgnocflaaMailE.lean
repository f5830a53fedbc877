/-
  MAILBOXES: the reference's Take. Conditions: the box's own invariant.
-/
import Derived.Test.YtbjhedfgnocflaaMailD
import Derived.Test.YtbjhedfgnocflaaMailC
import Derived.IntWalk
namespace Go.Proofs.Ytbjhedfgnocflaa
open Go.RowKit Go.Lib
attribute [local go_sem ↓] Go.wp_at_zero Go.wp_at_succ

theorem first_at {m : Nat} {xs : List Letter} {k : Nat} (hk : k < xs.length) (hall : ∀ y ∈ xs.take k, fits m y = false) (hp : fits m xs[k] = true) : takeF m xs = (xs[k], true, xs.eraseIdx k) := by
  have h := firstI_at (p := fits m) hk hall hp
  obtain ⟨i, hi, h1, h2⟩ := takeF_some (m := m) (xs := xs) (by rw [h]; omega)
  rw [h] at h1
  have : k = i := by omega
  subst this
  exact h2

theorem take_someR {ty : TypeId} {w w3 w5 : World} {base B bas cap : Nat} {room lost : Int} {v : Value} {xs : List Letter} {m k : Nat} {ao : Option Addr} (h : MBox ty w base B room lost v xs) {x : Letter} (hr : takeF m xs = (x, true, xs.eraseIdx k))
    (hbel : Below w.heap.size w w3) (hk : k < xs.length) (ho : w3.ownsRow bas 66 4 (.slice ao (k + (xs.length - (k + 1))) cap) (k + (xs.length - (k + 1))) ((xs.take k).flatMap encLetter ++ (xs.drop (k + 1)).flatMap encLetter)) (hbas : w.heap.size ≤ bas) (hbas2 : w.heap.size < bas)
    (ht5 : Touch (fun k => k = w.heap.size) (w3.setCell ⟨B, 2, none⟩ (.slice ao (k + (xs.length - (k + 1))) cap)) w5) :
    TakePost ty (fun k => k = B) w base B room lost v xs m (.returned (.tuple #[.agg #[.int .i64 x.node, .int .i64 x.num, .int .i64 x.tag, .string x.body], .bool true])) w5 := by
  have hlt := h.blk.lt
  have hlen : k + (xs.length - (k + 1)) = (xs.eraseIdx k).length := by rw [List.length_eraseIdx_of_lt hk]; omega
  rw [← List.flatMap_append, ← List.eraseIdx_eq_take_drop_succ] at ho
  rw [hlen] at ho ht5
  generalize xs.eraseIdx k = ys at *
  generalize hv' : Value.slice ao ys.length cap = v' at *
  have hge : ∀ j, v'.ownBlock = some j → w.heap.size < j := fun j hj => Nat.lt_of_lt_of_le hbas2 (ho.lt j hj).1
  have hne : v'.ownBlock ≠ some B := fun e => by have := hge B e; omega
  have hown0 := own_mono ho (Nat.le_trans h.base hbas)
  have hown : (w3.setCell ⟨B, 2, none⟩ v').ownsRow base 66 4 v' ys.length (ys.flatMap encLetter) := ownsRow_setCell_other (a := ⟨B, 2, none⟩) hown0 hne _
  have hs3 := hbel.size
  have hb3 : Blk w3 B ty [.int .i64 room, .int .i64 lost, v] := h.blk.below hbel
  refine ⟨v', by rw [hr]; rfl, ?_, ?_, ?_⟩
  · rw [hr]
    refine ⟨(hb3.set 2 v').touch ht5 (by omega), own_touch hown ht5 (fun k hk e => ?_), hne, h.le, ?_⟩
    · have := hge k hk; omega
    · have := h.base
      have := ht5.size
      simp at this
      omega
  · exact ((Touch.of_below hbel).trans (Touch.setCell (F := fun k => k = B) rfl _)).trans' ht5 (fun k hk e => by omega)
  · intro k hk
    exact .inr (Nat.le_of_lt (hge k hk))

/-- what the middle of Take leaves -/
def TakeMid (B : Nat) (W0 : World) (a b : Nat) (cs : List Value) (wx : World) : Prop :=
  ∃ ao cap w1, wx = w1.setCell ⟨B, 2, none⟩ (.slice ao (a + b) cap) ∧ Below W0.heap.size W0 w1 ∧ w1.ownsRow W0.heap.size 66 4 (.slice ao (a + b) cap) (a + b) cs

set_option maxRecDepth 100000 in
set_option maxHeartbeats 30000000 in
theorem rtake_any (w : World) (base B : Nat) (room lost : Int) (v : Value) (xs : List Letter) (m : Nat) (hm : m < 18446744073709551616) (h : MBox 64 w base B room lost v xs) (ht : okTags xs) (hlen : xs.length ≤ 16) :
    Calls Try.prog 41 #[.pointer (some ⟨B, 0, none⟩), .int .u64 m] w (TakePost 64 (fun k => k = B) w base B room lost v xs m) := by
  have hb0 : Below w.heap.size w (w.alloc (.cells #[.int .i64 0, .int .i64 0, .int .i64 0, .string ⟨#[]⟩] 66)) := (Below.refl _ _).alloc (Nat.le_refl _) _
  have hnone := fun (e : ∀ y ∈ xs, fits m y = false) => takeF_none (m := m) (xs := xs) (by rw [firstI_none e]; omega)
  obtain ⟨ao, cap, hvv, hc1, hc2, hc3, _⟩ := own_sl h.own
  have q2 := h.blk.cell (i := 2) rfl
  have a2 := fun o => cell_alloc o q2
  have HN := hid hnone
  have H := hid h
  have HT := hid ht
  have k1 := Blk.new w #[.int .i64 0, .int .i64 0, .int .i64 0, .string ⟨#[]⟩] 66 _ rfl
  have HK := hid k1
  have HB0 := hid hb0
  clear hnone h ht k1 q2 hb0
  subst hvv
  go_enter Try.func41, Try.ntmps41
  go_wp2_with fail
  go_loopw [13] (fun i wr => ∃ k : Nat, k ≤ xs.length ∧ i = .int .i64 k ∧ Below w.heap.size w wr ∧ Blk wr w.heap.size 66 [.int .i64 0, .int .i64 0, .int .i64 0, .string ⟨#[]⟩] ∧ Hid (∀ y ∈ xs.take k, fits m y = false)) (fun i _ => xs.length - (intOf i).toNat)
  case atStart => exact ⟨0, Nat.zero_le _, rfl, HB0.out, HK.out, by simp [Hid]⟩
  case round =>
    obtain ⟨k, hk, rfl, hbel, hblk, hall⟩ := hrel
    by_cases hlt : k < xs.length
    · have hM := H.out.below hbel
      obtain ⟨g, cap', hv, hg1, hg2, hg3, hg4⟩ := own_head hM.own (by omega)
      simp only [Value.slice.injEq, true_and] at hv
      obtain ⟨rfl, rfl⟩ := hv
      obtain ⟨_, _, _, hc⟩ := lk_cells hM.own.lk encLetter_len (by decide) (by omega)
      have x0 := hc k hlt 0 (by decide); have x1 := hc k hlt 1 (by decide); have x2 := hc k hlt 2 (by decide); have x3 := hc k hlt 3 (by decide)
      rw [show (encLetter xs[k])[0]? = some (.int .i64 xs[k].node) from rfl, Nat.add_zero, Nat.zero_add] at x0; rw [show (encLetter xs[k])[1]? = some (.int .i64 xs[k].num) from rfl, Nat.zero_add] at x1; rw [show (encLetter xs[k])[2]? = some (.int .i64 xs[k].tag) from rfl, Nat.zero_add] at x2; rw [show (encLetter xs[k])[3]? = some (.string xs[k].body) from rfl, Nat.zero_add] at x3
      clear hc
      have htg := HT.out xs[k] (List.getElem_mem hlt)
      have hask := fun wx => asks_any m hm xs[k].tag wx htg.1 htg.2
      have hat : askB m xs[k].tag = true → takeF m xs = (xs[k], true, xs.eraseIdx k) := fun e => first_at hlt hall.out e
      have htf : askB m xs[k].tag = false → Hid (∀ y ∈ xs.take (k + 1), fits m y = false) := fun e => take_false hlt hall.out e
      have HM := hid hM
      have HBL := hid hblk
      have hsz := hbel.size
      have hsr := hblk.lt
      generalize askB m xs[k].tag = r at *
      have HASK := hid hask
      clear hask hM hblk
      cases r
      · have hnext := htf rfl
        clear htf hat
        go_wp2_with fail
        refine (HASK.out _).mono ?_
        rintro e w' ⟨rfl, rfl⟩
        go_wp2_with fail
        go_roundw
        case rel => exact ⟨k + 1, by omega, by go_num, hbel.alloc hsz _, HBL.out.alloc _, hnext⟩
        case measure => simp [intOf]; omega
      · have hfin := hid (hat rfl)
        clear htf hat
        obtain ⟨o, ho1, ho2⟩ := run_tail elem_Letter g xs.length cap (k + 1) .i64 ((k : Int) + 1) rfl (by omega)
        have HO1 := hid ho1
        clear ho1
        have b1 : (k : Int) ≤ cap := by omega
        have b2 : (k : Int) + 1 ≤ xs.length := by omega
        go_wp2_with fail
        refine (HASK.out _).mono ?_
        rintro e w' ⟨rfl, rfl⟩
        go_wp2_with fail
        have hB0 : Below wr.heap.size wr (wr.alloc (.cells #[.int .i64 xs[k].node, .int .i64 xs[k].num, .int .i64 xs[k].tag, .string xs[k].body] 66)).drew := ((Below.refl _ _).alloc (Nat.le_refl _) _).trans (drew_bel' (n := 1) (Below.refl _ _))
        have hpre : Lk encLetter wr (.slice (some ⟨g, 0, none⟩) k cap) (xs.take k) := by
          have h1 := own_sl (own_prefix HM.out.own k (by omega))
          rw [← flatMap_take encLetter_len] at h1
          show Sl wr _ (xs.take k).length _
          rw [List.length_take, Nat.min_eq_left (by omega)]
          exact h1
        have htl : Sl wr (.slice (some ⟨g, o, none⟩) (xs.length - (k + 1)) (cap - (k + 1))) (xs.length - (k + 1)) ((xs.drop (k + 1)).flatMap encLetter) := by
          have h1 := own_tail HM.out.own (k + 1) (by omega) o HO1.out
          rw [← flatMap_drop encLetter_len] at h1
          exact h1
        have hD : ∀ w', Below (wr.alloc (.cells #[.int .i64 xs[k].node, .int .i64 xs[k].num, .int .i64 xs[k].tag, .string xs[k].body] 66)).drew.heap.size (wr.alloc (.cells #[.int .i64 xs[k].node, .int .i64 xs[k].num, .int .i64 xs[k].tag, .string xs[k].body] 66)).drew w' → w'.cell? ⟨B, 2, none⟩ = some (.slice (some ⟨g, 0, none⟩) xs.length cap) ∧ w'.frozen? ⟨B, 2, none⟩ = false ∧ Lk encLetter w' (.slice (some ⟨g, 0, none⟩) k cap) (xs.take k) ∧ Sl w' (.slice (some ⟨g, o, none⟩) (xs.length - (k + 1)) (cap - (k + 1))) (xs.length - (k + 1)) ((xs.drop (k + 1)).flatMap encLetter) := by
          intro w' hb
          have hb' : Below wr.heap.size wr w' := hB0.trans (hb.mono hB0.size)
          have k1 := HM.out.blk.below hb'
          exact ⟨k1.cell rfl, k1.free 2, Lk.below hpre hb', htl.below hb'⟩
        have HD := hid hD
        obtain ⟨c2, c2f, _, _⟩ := hD _ (Below.refl _ _)
        have hfl : ((xs.drop (k + 1)).flatMap encLetter).length = (xs.length - (k + 1)) * 4 := by rw [flat_length encLetter_len, List.length_drop]
        have HFL := hid hfl
        have htk : (xs.take k).length = k := by rw [List.length_take]; omega
        have HTK := hid htk
        clear hD hpre htl hfl htk
        have hwr : IntKind.i64.wrap ((k : Int) + 1) = (k : Int) + 1 := IntWalk.i64_in _ (by omega)
        have hBw : B < w.heap.size := H.out.blk.lt
        go_cut [] (fun wx => TakeMid B (wr.alloc (.cells #[.int .i64 xs[k].node, .int .i64 xs[k].num, .int .i64 xs[k].tag, .string xs[k].body] 66)).drew k (xs.length - (k + 1)) ((xs.take k).flatMap encLetter ++ (xs.drop (k + 1)).flatMap encLetter) wx)
        case first =>
         go_region_law (first | (go_simp; go_at_call 84; refine (copy_Letter _ (xs.take k) _ (HD.out _ (Below.refl _ _)).2.2.1 (by rw [List.length_take]; omega) (by rw [List.length_take]; omega)).mono ?_; rintro e w2 ⟨v2, rfl, ho2', hb2⟩; obtain ⟨p2, p2f, _, ptl⟩ := HD.out _ hb2; have hwb : Below wr.heap.size wr w2 := hB0.trans (hb2.mono hB0.size); have hv2 : ∀ k, v2.ownBlock = some k → wr.heap.size ≤ k := (fun k hk => Nat.le_trans hB0.size (World.ownsRow.lt ho2' k hk).1); have HV2 := hid (And.intro ho2' (And.intro hb2 hwb)); have PTL := hid ptl; clear ho2' hb2 ptl hwb) | (refine step_any elem_Letter (by rfl) _ _ (by rfl) (by rfl) (by rfl) HV2.out.1 PTL.out HFL.out (encLetter_one _) (by rw [HTK.out]; omega) (by rw [HTK.out]; omega) HV2.out.2.1.size ?_; intro v' w1 ho hb hg; obtain ⟨ao2, cap2, rfl, _⟩ := own_sl ho; have hx2 := Grew.cell hg p2 (fun e => by have := hv2 B e; omega); have hf2 := Grew.free hg p2 (fun e => by have := hv2 B e; omega) p2f; have HW := hid (Below.grown HV2.out.2.1 hg.1 HV2.out.2.1.size (fun k hk => (World.ownsRow.lt HV2.out.1 k hk).1)); have HG := hid ho; clear ho hb hg))
         all_goals
           go_wp2_with fail
           go_meet
           exact ⟨_, _, _, rfl, HW.out, by have h9 := HG.out; rw [HTK.out] at h9; exact h9⟩
        case rest =>
          obtain ⟨ao2, cap2, w1, rfl, HW0, HG0⟩ := hcut
          have HW := hid HW0
          have HG := hid HG0
          clear HW0 HG0
          have e3 : Blk w1 wr.heap.size 66 _ := Blk.below (w := (wr.alloc (.cells #[.int .i64 xs[k].node, .int .i64 xs[k].num, .int .i64 xs[k].tag, .string xs[k].body] 66)).drew) (Blk.new wr #[.int .i64 xs[k].node, .int .i64 xs[k].num, .int .i64 xs[k].tag, .string xs[k].body] _ _ rfl) HW.out
          have e4 : Blk w1 w.heap.size 66 _ := Blk.below (w := (wr.alloc (.cells #[.int .i64 xs[k].node, .int .i64 xs[k].num, .int .i64 xs[k].tag, .string xs[k].body] 66)).drew) (HBL.out.alloc _) HW.out
          have u0 := e3.cell (i := 0) rfl
          have u1 := e3.cell (i := 1) rfl
          have u2 := e3.cell (i := 2) rfl
          have u3 := e3.cell (i := 3) rfl
          have z0 := e4.cell (i := 0) rfl
          have z1 := e4.cell (i := 1) rfl
          have z2 := e4.cell (i := 2) rfl
          have z3 := e4.cell (i := 3) rfl
          have hfr := fun i => e4.free i
          have hne1 : w.heap.size ≠ B := by have := H.out.blk.lt; omega
          have hne2 : wr.heap.size ≠ B := by have := H.out.blk.lt; omega
          have HB0 := hid hB0
          have HBEL := hid hbel
          clear e3 e4 hB0 hbel hwr
          go_wp2_with fail
          refine bodyPost_ret (v := .tuple #[.agg #[.int .i64 xs[k].node, .int .i64 xs[k].num, .int .i64 xs[k].tag, .string xs[k].body], .bool true]) (by simp [results, Try.results41, go_sem, z0, z1, z2, z3]) rfl ?_
          have hbw : Below w.heap.size w w1 := HBEL.out.trans ((HB0.out.trans (HW.out.mono HB0.out.size)).mono hsz)
          refine take_someR H.out hfin.out hbw hlt HG.out (Nat.le_trans hsz HB0.out.size) ?_ ?_
          · exact Nat.lt_of_lt_of_le hsr HB0.out.size
          · exact (((Touch.setCell (F := fun k => k = w.heap.size) (a := ⟨w.heap.size, 0, none⟩) rfl _).trans (Touch.setCell (F := fun k => k = w.heap.size) (a := ⟨w.heap.size, 1, none⟩) rfl _)).trans (Touch.setCell (F := fun k => k = w.heap.size) (a := ⟨w.heap.size, 2, none⟩) rfl _)).trans (Touch.setCell (F := fun k => k = w.heap.size) (a := ⟨w.heap.size, 3, none⟩) rfl _)
    · obtain rfl : k = xs.length := by omega
      have z0 := hblk.cell (i := 0) rfl
      have z1 := hblk.cell (i := 1) rfl
      have z2 := hblk.cell (i := 2) rfl
      have z3 := hblk.cell (i := 3) rfl
      have hfr := fun i => hblk.free i
      have hno := hall.out
      rw [List.take_length] at hno
      have HR := hid (HN.out hno)
      have HBEL := hid hbel
      clear hno hblk hbel
      go_wp2_with fail
      refine bodyPost_ret (v := .tuple #[.agg #[.int .i64 0, .int .i64 0, .int .i64 0, .string ⟨#[]⟩], .bool false]) (by simp [results, Try.results41, go_sem, z0, z1, z2, z3]) rfl ?_
      refine take_none H.out HR.out ?_
      repeat (refine Below.setCell ?_ (by simp) _)
      exact HBEL.out
end Go.Proofs.Ytbjhedfgnocflaa
