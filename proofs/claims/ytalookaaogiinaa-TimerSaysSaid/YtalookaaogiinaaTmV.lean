/-
  TIMERS, the reference's clock: Tick. Conditions: the object's own invariant; lengths.
-/
import Derived.Test.YtalookaaogiinaaTmU
namespace Go.Proofs.Ytalookaaogiinaa
open Go.RowKit Go.Lib
attribute [local go_sem ↓] Go.wp_at_zero Go.wp_at_succ

theorem own_tyT {w : World} {base size n : Nat} {e : TypeId} {v : Value} {cs : List Value} (ho : w.ownsRow base e size v n cs) {k : Nat} (hk : v.ownBlock = some k) : ∃ cur fr, w.heap[k]? = some (.cells cur e fr) := by
  rcases ho.2 with ⟨e, _⟩ | ⟨g, cap, cur, e, _, hh, _⟩
  · rw [e] at hk; simp [Value.ownBlock] at hk
  · rw [e] at hk
    simp only [Value.ownBlock, Option.some.injEq] at hk
    subst hk
    exact ⟨_, _, hh⟩
/-- a row of numbers is none of the clock's blocks -/
theorem out_apart {w : World} {base b2 B n : Nat} {v u : Value} {r : RT} {cs : List Value} (h : RB w base B v r) (ho : w.ownsRow b2 3 1 u n cs) : ∀ k, u.ownBlock = some k → ¬ footT B v k := by
  intro k hk hf
  obtain ⟨c1, f1, h1⟩ := own_tyT ho hk
  rcases hf with e | e
  · subst e
    have hb := h.blk
    unfold Blk at hb
    rw [hb] at h1
    simp only [Option.some.injEq, Obj.cells.injEq] at h1
    exact absurd h1.2.1 (by decide)
  · obtain ⟨c2, f2, h2⟩ := own_tyT h.own e
    rw [h1] at h2
    simp only [Option.some.injEq, Obj.cells.injEq] at h2
    exact absurd h2.2.1 (by decide)
theorem RB.growI {w w' : World} {base B : Nat} {v : Value} {r : RT} (h : RB w base B v r) {b2 n : Nat} {u : Value} {cs : List Value} (hg : w.grownBy w' u.ownBlock) (ho : w.ownsRow b2 3 1 u n cs) : RB w' base B v r := by
  have kt : KT 3 w w' := KT.grown hg ho
  exact ⟨kt.blk h.blk rfl, kt.own h.own rfl, h.ne, h.le, Nat.le_trans h.base kt.1⟩
theorem RB.put0 {w : World} {base B : Nat} {v : Value} {r : RT} (h : RB w base B v r) (x : Int) : RB (w.setCell ⟨B, 0, none⟩ (.int .i64 x)) base B v { r with now := x } := ⟨h.blk.set 0 _, ownsRow_setCell_other (a := ⟨B, 0, none⟩) h.own h.ne _, h.ne, h.le, by have := h.base; simp; omega⟩
def tickRr (r : RT) (n : Int) : RT := if tickTE r.now n = 0 then (popsR r.L.length { r with now := r.now + n }).2 else r
/-- how many are set -/
def alLen (w : World) (B : Nat) : Nat := match w.cell? ⟨B, 1, none⟩ with
  | some v => tLen v
  | none => 0
theorem alLen_of {w : World} {B n cap : Nat} {a : Option Addr} (h : w.cell? ⟨B, 1, none⟩ = some (.slice a n cap)) : alLen w B = n := by unfold alLen; rw [h]; rfl
theorem fdR_bounds (L : List (Int × Int)) (now : Int) (k : Nat) : -1 ≤ fdR L now k ∧ fdR L now k < k := by
  induction k with
  | zero => exact ⟨Int.le_refl _, by show (-1 : Int) < 0; decide⟩
  | succ k ih =>
    rw [fdR]
    split <;> omega
theorem drop_len {r : RT} {i : Nat} (hi : i < r.L.length) : (dropR r (r.L.getD i (0, 0)).1).L.length + 1 = r.L.length ∧ (dropR r (r.L.getD i (0, 0)).1).now = r.now := by
  have e : r.L.getD i (0, 0) = r.L[i] := by simp [List.getD, hi]
  rw [e]
  have hb := fstI_bounds (fun t : Int × Int => decide (t.1 = r.L[i].1)) r.L
  have hp : 0 ≤ findR r r.L[i].1 := by
    rcases Classical.em (findR r r.L[i].1 < 0) with g | g
    · unfold findR at g
      rw [fstI_neg] at g
      have := g r.L[i] (List.getElem_mem hi)
      simp at this
    · omega
  unfold dropR
  rw [if_pos hp]
  have hlt : (findR r r.L[i].1).toNat < r.L.length := by unfold findR at *; omega
  refine ⟨?_, rfl⟩
  show (r.L.eraseIdx _).length + 1 = _
  rw [List.length_eraseIdx_of_lt hlt]
  omega
theorem RPost.chain {w w1 w2 : World} {base B : Nat} {v v1 : Value} {r : RT} (h2 : RPost w1 base B v1 r w2) (ht : Touch (footT B v) w w1) (hf : FreshT w v v1) : RPost w base B v r w2 := by
  obtain ⟨v2, g1, g2, g3⟩ := h2
  refine ⟨v2, g1, ht.trans' g2 ?_, ?_⟩
  · rintro i hi (e | e)
    · exact .inl e
    · rcases hf i e with g | g
      · exact .inr g
      · omega
  · intro k hk
    rcases g3 k hk with g | g
    · exact hf k g
    · exact .inr (Nat.le_trans ht.size g)
set_option maxRecDepth 100000 in
set_option maxHeartbeats 8000000 in
theorem rttick_any (w : World) (base B : Nat) (v : Value) (r : RT) (n : Int) (hn : r.L.length ≤ 32) (hnow : 0 ≤ r.now ∧ r.now ≤ 1099511627776) (h : RB w base B v r) :
    Calls Try.prog 29 #[.pointer (some ⟨B, 0, none⟩), .int .i64 n] w fun e w' => if tickTE r.now n = 0 then ∃ u, e = .returned (.tuple #[u, .int .i64 0]) ∧ w'.ownsRow w.heap.size 3 1 u (popsR r.L.length { r with now := r.now + n }).1.length ((popsR r.L.length { r with now := r.now + n }).1.map (Value.int .i64)) ∧ RPost w base B v (tickRr r n) w'
      else e = .returned (.tuple #[.slice none 0 0, .int .i64 1]) ∧ RPost w base B v (tickRr r n) w' := by
  obtain ⟨now, l⟩ := r
  simp only at hn hnow
  have HTP := hid (show tickRr ⟨now, l⟩ n = if tickTE now n = 0 then (popsR l.length ⟨now + n, l⟩).2 else ⟨now, l⟩ from rfl)
  generalize tickRr ⟨now, l⟩ n = tp at *
  have H := hid h
  have c0 := h.blk.cell (i := 0) rfl
  have cf := h.blk.free
  simp only at c0
  obtain ⟨hn0, hn1⟩ := hnow
  clear h
  unfold tickTE at HTP ⊢
  by_cases h0 : n < 0
  · simp only [h0, true_or, if_true, show ¬ ((1 : Int) = 0) from by decide, if_false] at HTP ⊢
    go_enter Try.func29, Try.ntmps29
    go_wp2_with fail
    go_ret2
    rw [HTP.out]
    exact ⟨rfl, RPost.same H.out (Below.refl _ _)⟩
  by_cases h1 : 1099511627776 - now < n
  · simp only [h1, or_true, if_true, show ¬ ((1 : Int) = 0) from by decide, if_false] at HTP ⊢
    rcases (show 1099511627776 < n ∨ (¬ 1099511627776 < n ∧ 1099511627776 < now + n) from by omega) with g | ⟨g1, g2⟩
    all_goals
      clear h1
      go_enter Try.func29, Try.ntmps29
      go_wp2_with fail
      go_ret2
      rw [HTP.out]
      exact ⟨rfl, RPost.same H.out (Below.refl _ _)⟩
  · simp only [h0, h1, or_self, if_false, if_true] at HTP ⊢
    have h2 : now + n ≤ 1099511627776 := by omega
    have hnn : 0 ≤ now + n := by omega
    have h3 : ¬ 1099511627776 < n := by omega
    generalize hnw : now + n = nw at *
    have hw1 : ¬ 1099511627776 < nw := by omega
    have R1 := hid (H.out.put0 nw)
    have HT1 := hid (show Touch (footT B v) w (w.setCell ⟨B, 0, none⟩ (.int .i64 nw)) from Touch.setCell (F := footT B v) (a := ⟨B, 0, none⟩) (.inl rfl) _)
    have HWA := hid (show (w.setCell ⟨B, 0, none⟩ (.int .i64 nw)).heap.size = w.heap.size from by simp)
    go_enter Try.func29, Try.ntmps29
    go_upto_region 4 with fail
    generalize w.setCell ⟨B, 0, none⟩ (.int .i64 nw) = wa at *
    clear c0 cf h0 h1 h3 hw1 hnw
    have HNL := hid hn
    clear hn
    go_wp2_with fail
    go_loopw [6, 7, 8, 9, 38] (fun o _ _ _ _ wr => ∃ (L : List (Int × Int)) (os : List Int) (v1 : Value), Hid (os.length + L.length = l.length) ∧ Hid (wr.ownsRow w.heap.size 3 1 o os.length (os.map (Value.int .i64))) ∧ Hid (RB wr base B v1 ⟨nw, L⟩) ∧ Hid (Touch (footT B v) w wr) ∧ Hid (FreshT w v v1) ∧ Hid ((popsR l.length ⟨nw, l⟩).1 = os ++ (popsR L.length ⟨nw, L⟩).1 ∧ (popsR l.length ⟨nw, l⟩).2 = (popsR L.length ⟨nw, L⟩).2)) (fun _ _ _ _ _ wr => alLen wr B)
    case atStart => exact ⟨l, [], v, hid (by simp), hid (World.ownsRow_nil _ _ _ _), R1, HT1, hid (fun k hk => .inl hk), hid ⟨rfl, rfl⟩⟩
    case round =>
      obtain ⟨L, os, v1, HS, OO, RR, TT, FF, DD⟩ := hrel
      obtain ⟨aos, cos, rfl, -⟩ := own_sl OO.out
      obtain ⟨av, cv, hvv, -⟩ := own_sl RR.out.own
      subst hvv
      have c1 : wr.cell? ⟨B, 1, none⟩ = some (.slice av L.length cv) := RR.out.blk.cell (i := 1) rfl
      have HM := hid (alLen_of c1)
      have hLn : L.length ≤ 32 := by have := HS.out; have := HNL.out; omega
      generalize wr = wo at *
      go_wp2_with fail
      go_loopw [7, 8, 9, 38] (fun f _ _ i wx => ∃ k : Nat, k ≤ L.length ∧ i = .int .i64 k ∧ f = .int .i64 (fdR L nw k) ∧ Below wo.heap.size wo wx) (fun _ _ _ i _ => L.length - (intOf i).toNat)
      case atStart => exact ⟨0, Nat.zero_le _, rfl, rfl, Below.refl _ _⟩
      case round =>
        obtain ⟨k, hk, rfl, rfl, hbel⟩ := hrel
        by_cases hlt : k < L.length
        · have RX := hid (RR.out.below hbel)
          obtain ⟨g, cap', hv, hc1, hc2, hc⟩ := al_at RX.out.own (by show 0 < L.length; omega)
          simp only [Value.slice.injEq] at hv
          obtain ⟨rfl, -, rfl⟩ := hv
          obtain ⟨a0, a1⟩ := hc k hlt
          simp only at a0 a1
          have hsz := hbel.size
          have hfb := fdR_bounds L nw k
          have HX := hid (show due0 L (k : Int) = L[k].2 from by simp [due0, List.getD, hlt])
          have HFD := hid (show fdR L nw (k + 1) = if due0 L k ≤ nw ∧ (fdR L nw k < 0 ∨ due0 L k < due0 L (fdR L nw k)) then (k : Int) else fdR L nw k from rfl)
          have HCC := hid hc
          have HB := hid hbel
          rw [HX.out] at HFD
          clear hc hbel HX
          generalize hlk : L[k] = x at *
          have HLK := hid hlk
          clear hlk
          obtain ⟨xi, xd⟩ := x
          simp only at a0 a1 HFD
          generalize fdR L nw k = fd at *
          go_upto_region 9 with fail
          have RB1 := hid (RX.out.below ((Below.refl _ _).alloc (Nat.le_refl _) (.cells #[.int .i64 xi, .int .i64 xd] 110)))
          have BX := hid (Blk.new wr #[.int .i64 xi, .int .i64 xd] 110 _ rfl)
          have BB := hid (HB.out.alloc hsz (.cells #[.int .i64 xi, .int .i64 xd] 110))
          generalize hmx : wr.heap.size = mx at *
          have HMX := hid hmx
          clear hmx
          generalize wr.alloc (.cells #[.int .i64 xi, .int .i64 xd] 110) = wb at *
          have d0 : wb.cell? ⟨B, 0, none⟩ = some (.int .i64 nw) := RB1.out.blk.cell (i := 0) rfl
          have d1 : wb.cell? ⟨B, 1, none⟩ = some (.slice (some ⟨g, 0, none⟩) L.length cv) := RB1.out.blk.cell (i := 1) rfl
          have d0d : wb.drew.cell? ⟨B, 0, none⟩ = some (.int .i64 nw) := d0
          have d1d : wb.drew.cell? ⟨B, 1, none⟩ = some (.slice (some ⟨g, 0, none⟩) L.length cv) := d1
          have x1 : wb.cell? ⟨mx, 1, none⟩ = some (.int .i64 xd) := BX.out.cell (i := 1) rfl
          have x1d : wb.drew.cell? ⟨mx, 1, none⟩ = some (.int .i64 xd) := x1
          clear a0 a1 c1
          go_cut [66] from 43 to 66 (fun c wy => c = .bool (decide (xd ≤ nw) && (decide (fd < 0) || decide (xd < due0 L fd))) ∧ ∃ n, wy = wb.drewN n)
          case first =>
            by_cases g1 : xd ≤ nw
            · have e1 := decide_eq_true g1
              by_cases g2 : fd < 0
              · have e2 := decide_eq_true g2
                go_wp2_with fail
                go_quiet (fail)
                go_wp2_with fail
                go_meet
                exact ⟨by rw [e1, e2]; rfl, _, rfl⟩
              · obtain ⟨i, rfl⟩ := Int.eq_ofNat_of_zero_le (show 0 ≤ fd by omega)
                have e2 := decide_eq_false g2
                have hil : i < L.length := by omega
                have hill : (i : Int) < (L.length : Int) := by omega
                have HD := hid (show due0 L (i : Int) = L[i].2 from by simp [due0, List.getD, hil])
                obtain ⟨g', cap', hv, _, _, hc⟩ := al_at RB1.out.own (by show 0 < L.length; omega)
                simp only [Value.slice.injEq, Option.some.injEq, Addr.mk.injEq, and_true, true_and] at hv
                obtain ⟨rfl, rfl⟩ := hv
                obtain ⟨-, b1⟩ := hc i hil
                simp only at b1
                clear hc
                have b1d : wb.drew.cell? ⟨g, i * 2 + 1, none⟩ = some (.int .i64 L[i].2) := b1
                generalize L[i].2 = yd at *
                go_wp2_with fail
                go_quiet (fail)
                go_wp2_with fail
                go_meet
                exact ⟨by rw [e1, e2, HD.out]; simp, _, rfl⟩
            · have e1 := decide_eq_false g1
              go_wp2_with fail
              go_quiet (fail)
              go_wp2_with fail
              go_meet
              exact ⟨by rw [e1]; rfl, _, rfl⟩
          case rest =>
            obtain ⟨rfl, nn, rfl⟩ := hcut
            have HBN := hid (show Below wo.heap.size wo (wb.drewN nn) from drew_bel' BB.out)
            have HBV := hid (show fdR L nw (k + 1) = if (decide (xd ≤ nw) && (decide (fd < 0) || decide (xd < due0 L fd))) = true then (k : Int) else fd from by
              rw [HFD.out]
              by_cases q1 : xd ≤ nw ∧ (fd < 0 ∨ xd < due0 L fd)
              · rw [if_pos q1, if_pos (by simpa using q1)]
              · rw [if_neg q1, if_neg (by simpa using q1)])
            clear d0 d1 d0d d1d x1 x1d HFD
            generalize (decide (xd ≤ nw) && (decide (fd < 0) || decide (xd < due0 L fd))) = bb at *
            cases bb with
            | true =>
              have HB2 := hid (show fdR L nw (k + 1) = (k : Int) from by rw [HBV.out]; rfl)
              clear HBV
              go_wp2_with fail
              go_roundw
              case rel => exact ⟨k + 1, by omega, by go_num, by rw [HB2.out], HBN.out⟩
              case measure => simp [RowKit.intOf]; omega
            | false =>
              have HB2 := hid (show fdR L nw (k + 1) = fd from by rw [HBV.out]; rfl)
              clear HBV
              go_wp2_with fail
              go_roundw
              case rel => exact ⟨k + 1, by omega, by go_num, by rw [HB2.out], HBN.out⟩
              case measure => simp [RowKit.intOf]; omega
        · obtain rfl : k = L.length := by omega
          have RX := hid (RR.out.below hbel)
          have OX := hid (show wr.ownsRow w.heap.size 3 1 (.slice aos os.length cos) os.length (os.map (Value.int .i64)) from own_below OO.out hbel)
          have TX := hid (show Touch (footT B v) w wr from TT.out.trans (Touch.of_below hbel))
          have hfb := fdR_bounds L nw L.length
          have HPN := hid (fun (g : fdR L nw L.length < 0) => (show popsR L.length ⟨nw, L⟩ = ([], ⟨nw, L⟩) from by
            rcases Nat.eq_zero_or_pos L.length with e | e
            · rw [e]; rfl
            · obtain ⟨m, hm⟩ : ∃ m, L.length = m + 1 := ⟨L.length - 1, by omega⟩
              rw [hm] at g
              rw [hm, popsR]
              simp only [hm]
              rw [if_pos g]))
          have HPS := hid (fun (i : Nat) (g : fdR L nw L.length = i) (hi : i < L.length) => (show popsR L.length ⟨nw, L⟩ = ((L.getD i (0, 0)).1 :: (popsR (L.length - 1) (dropR ⟨nw, L⟩ (L.getD i (0, 0)).1)).1, (popsR (L.length - 1) (dropR ⟨nw, L⟩ (L.getD i (0, 0)).1)).2) from by
            obtain ⟨m, hm⟩ : ∃ m, L.length = m + 1 := ⟨L.length - 1, by omega⟩
            have g2 := g
            rw [hm] at g2 ⊢
            rw [popsR]
            simp only [hm, g2]
            rw [if_neg (by omega)]
            rfl))
          clear hbel c1
          generalize fdR L nw L.length = fd at *
          by_cases hf : fd < 0
          · have HP2 := hid (HPN.out hf)
            clear HPN HPS
            go_wp2_with fail
            go_ret2
            rw [HTP.out]
            have hd := DD.out
            rw [HP2.out, List.append_nil] at hd
            rw [hd.1, hd.2]
            exact ⟨_, rfl, OX.out, _, RX.out, TX.out, FF.out⟩
          · obtain ⟨i, rfl⟩ := Int.eq_ofNat_of_zero_le (show 0 ≤ fd by omega)
            have hil : i < L.length := by omega
            have hill : (i : Int) < (L.length : Int) := by omega
            have HP2 := hid (HPS.out i rfl hil)
            have HGD := hid (show L.getD i (0, 0) = L[i] from by simp [List.getD, hil])
            have HDL := hid (drop_len (r := ⟨nw, L⟩) (i := i) hil)
            rw [HGD.out] at HP2 HDL
            obtain ⟨g', cap', hv, _, _, hc⟩ := al_at RX.out.own (by show 0 < L.length; omega)
            simp only [Value.slice.injEq] at hv
            obtain ⟨rfl, -, rfl⟩ := hv
            obtain ⟨b0, -⟩ := hc i hil
            simp only at b0
            clear hc HPN HPS hf hfb
            generalize L[i] = x at *
            obtain ⟨xi, xd⟩ := x
            simp only at b0 HP2 HDL
            have d1 : wr.cell? ⟨B, 1, none⟩ = some (.slice (some ⟨g', 0, none⟩) L.length cv) := RX.out.blk.cell (i := 1) rfl
            have hos : os.length ≤ 32 := by have := HS.out; have := HNL.out; omega
            have HSZ := hid TX.out.size
            have HNO := hid (out_apart RX.out OX.out)
            go_wp2_with (at_builtin; go_must (refine app_one elem_intt (base := w.heap.size) (cs := [.int .i64 xi]) rfl _ _ rfl rfl rfl rfl OX.out rfl (by intro c hc; simp at hc; subst hc; rfl) (by omega) (by omega) HSZ.out ?_); intro v' w5 ho hb hg; have R5 := hid (RX.out.growI hg.1 OX.out); have T5 := hid (TX.out.trans' (Touch.grown (F := fun j => (Value.slice aos os.length cos).ownBlock = some j) hg.1 (fun _ g => g)) (fun i hi e => absurd (World.ownsRow.lt OX.out i e).1 (by omega))); have O5 := hid ho; have e1 : w5.cell? ⟨B, 1, none⟩ = some (.slice (some ⟨g', 0, none⟩) L.length cv) := R5.out.blk.cell (i := 1) rfl; have e0 := Grew.cell hg b0 (fun e => HNO.out g' e (.inr rfl)); obtain ⟨a5, k5, rfl, -⟩ := own_sl ho; clear ho hb hg)
            refine (rtdrop_any w5 base B _ ⟨nw, L⟩ xi hLn R5.out).mono ?_
            rintro e w6 ⟨rfl, v2, h6, t6, f6⟩
            have R6 := hid h6
            have PC := hid (RPost.chain ⟨v2, h6, t6, f6⟩ T5.out FF.out)
            have O6 := hid (own_same O5.out (fun j hj => t6.block j (World.ownsRow.lt O5.out j hj).2 (out_apart R5.out O5.out j hj)))
            clear h6 t6 f6
            generalize dropR ⟨nw, L⟩ xi = r2 at *
            obtain ⟨now2, L2⟩ := r2
            simp only at HDL
            obtain ⟨hd1, hd2⟩ := HDL.out
            subst hd2
            have HD1 := hid hd1
            have HIL := hid hil
            clear hd1
            go_wp2_with fail
            go_roundw
            case rel =>
              obtain ⟨v3, p1, p2, p3⟩ := PC.out
              refine ⟨L2, os ++ [xi], v3, hid (by have h1 := HS.out; have h2 := HD1.out; simp; omega), hid (by simpa using O6.out), hid p1, hid p2, hid p3, ?_⟩
              have h1 := DD.out
              have h2 : L.length - 1 = L2.length := by have := HD1.out; omega
              rw [HP2.out, h2] at h1
              exact hid ⟨by rw [h1.1, List.append_assoc]; rfl, h1.2⟩
            case measure =>
              have h1 := HM.out
              obtain ⟨av2, cv2, hv2, -⟩ := own_sl R6.out.own
              have h2 := alLen_of (a := av2) (n := L2.length) (cap := cv2) (by rw [← hv2]; exact R6.out.blk.cell (i := 1) rfl)
              have h3 := HD1.out
              rw [h2, h1]
              omega
end Go.Proofs.Ytalookaaogiinaa
