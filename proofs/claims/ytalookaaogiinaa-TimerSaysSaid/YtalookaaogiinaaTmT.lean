/-
  TIMERS, the program's clock: Tick. Conditions: the object's own invariant; lengths.
-/
import Derived.Test.YtalookaaogiinaaTmE
namespace Go.Proofs.Ytalookaaogiinaa
open Go.RowKit Go.Lib
attribute [local go_sem ↓] Go.wp_at_zero Go.wp_at_succ

theorem elem_intt : Elem Try.prog 45 3 (.int .i64 0) 1 8 := ⟨Try.underlying45, by kernel_rfl, rfl, by decide⟩
def tickP (s : PT) (n : Int) : PT := if tickTE s.now n = 0 then { s with now := s.now + n, set := (popsP s.set.length s.set (s.now + n)).2 } else s
def tLen : Value → Nat
  | .slice _ n _ => n
  | _ => 0
/-- how many are set -/
def tmLen (w : World) (B : Nat) : Nat := match w.cell? ⟨B, 2, none⟩ with
  | some v => tLen v
  | none => 0
theorem tmLen_of {w : World} {B n cap : Nat} {a : Option Addr} (h : w.cell? ⟨B, 2, none⟩ = some (.slice a n cap)) : tmLen w B = n := by unfold tmLen; rw [h]; rfl
theorem TL.grow {w w' : World} {base B : Nat} {now turn : Int} {g cap : Nat} {l : List Tm} (h : TL w base B now turn g cap l) {base2 n : Nat} {u : Value} {cs : List Value} (hg : w.grownBy w' u.ownBlock) (ho : w.ownsRow base2 3 1 u n cs) : TL w' base B now turn g cap l := by
  have kt : KT 3 w w' := KT.grown hg ho
  exact ⟨kt.blk h.blk rfl, kt.own h.own rfl, h.ne⟩
set_option maxRecDepth 100000 in
set_option maxHeartbeats 4000000 in
theorem ttick_any (w : World) (base B : Nat) (v : Value) (s : PT) (n : Int) (hn : s.set.length ≤ 32) (hnow : 0 ≤ s.now ∧ s.now ≤ 1099511627776) (h : TBs w base B v s) :
    Calls Try.prog 28 #[.pointer (some ⟨B, 0, none⟩), .int .i64 n] w fun e w' => if tickTE s.now n = 0 then ∃ u, e = .returned (.tuple #[u, .int .i64 0]) ∧ w'.ownsRow w.heap.size 3 1 u (popsP s.set.length s.set (s.now + n)).1.length ((popsP s.set.length s.set (s.now + n)).1.map (Value.int .i64)) ∧ TPs w base B v (tickP s n) w'
      else e = .returned (.tuple #[.slice none 0 0, .int .i64 1]) ∧ TPs w base B v (tickP s n) w' := by
  obtain ⟨now, turn, l⟩ := s
  simp only at hn hnow
  have HTP := hid (show tickP ⟨now, turn, l⟩ n = if tickTE now n = 0 then ⟨now + n, turn, (popsP l.length l (now + n)).2⟩ else ⟨now, turn, l⟩ from rfl)
  generalize tickP ⟨now, turn, l⟩ n = tp at *
  have H := hid (show TB w base B now turn v l from h)
  have c0 := h.blk.cell (i := 0) rfl
  have cf := h.blk.free
  obtain ⟨hn0, hn1⟩ := hnow
  clear h
  unfold tickTE at HTP ⊢
  by_cases h0 : n < 0
  · simp only [h0, true_or, if_true, show ¬ ((1 : Int) = 0) from by decide, if_false] at HTP ⊢
    go_enter Try.func28, Try.ntmps28
    go_wp2_with fail
    go_ret2
    rw [HTP.out]
    exact ⟨rfl, TPost.same H.out (Below.refl _ _)⟩
  by_cases h1 : 1099511627776 - now < n
  · simp only [h1, or_true, if_true, show ¬ ((1 : Int) = 0) from by decide, if_false] at HTP ⊢
    go_enter Try.func28, Try.ntmps28
    go_wp2_with fail
    go_ret2
    rw [HTP.out]
    exact ⟨rfl, TPost.same H.out (Below.refl _ _)⟩
  · simp only [h0, h1, or_self, if_false, if_true] at HTP ⊢
    have h2 : now + n ≤ 1099511627776 := by omega
    have hnn : 0 ≤ now + n := by omega
    generalize hnw : now + n = nw at *
    have HB0 := hid H.out.blk.lt
    obtain ⟨ao, cap, hvv, -⟩ := own_sl H.out.own
    subst hvv
    have T1 := hid (H.out.put0 nw)
    have HT1 := hid (show Touch (footT B (.slice ao l.length cap)) w (w.setCell ⟨B, 0, none⟩ (.int .i64 nw)) from Touch.setCell (F := footT B (.slice ao l.length cap)) (a := ⟨B, 0, none⟩) (.inl rfl) _)
    go_enter Try.func28, Try.ntmps28
    go_upto_region 4 with fail
    have HWA := hid (show (w.setCell ⟨B, 0, none⟩ (.int .i64 nw)).heap.size = w.heap.size from by simp)
    generalize w.setCell ⟨B, 0, none⟩ (.int .i64 nw) = wa at *
    clear c0 cf h0 h1 hnw
    rcases Classical.em (l.length = 0) with hl | hl
    · have hl2 : l = [] := List.length_eq_zero_iff.1 hl
      subst hl2
      have c2 : wa.cell? ⟨B, 2, none⟩ = some (.slice ao 0 cap) := T1.out.blk.cell (i := 2) rfl
      have c2d : wa.drew.cell? ⟨B, 2, none⟩ = some (.slice ao 0 cap) := c2
      clear hl hn
      go_wp2_with fail
      go_loopw [6] (fun o wr => o = .slice none 0 0 ∧ wr = wa) (fun _ _ => 0)
      case atStart => exact ⟨rfl, rfl⟩
      case round =>
        obtain ⟨rfl, rfl⟩ := hrel
        go_wp2_with fail
        go_quiet (fail)
        go_wp2_with fail
        go_ret2
        rw [HTP.out]
        exact ⟨_, rfl, World.ownsRow_nil _ _ _ _, TPost.trans (TPost.same T1.out (drew_bel' (Below.refl _ _))) HT1.out (fun k hk => .inl hk)⟩
    · obtain ⟨g, cap2, hv, hL⟩ := T1.out.tl (Nat.pos_of_ne_zero hl)
      simp only [Value.slice.injEq] at hv
      obtain ⟨rfl, -, rfl⟩ := hv
      have HL := hid hL
      have HGW := hid (show g < w.heap.size from (World.ownsRow.lt H.out.own g rfl).2)
      have HBS := hid H.out.base
      have HLE := hid H.out.le
      have HNL := hid hn
      clear hL hl hn
      go_wp2_with fail
      go_loopw [6] (fun o wr => ∃ (l' : List Tm) (os : List Int), Hid (os.length + l'.length = l.length) ∧ Hid (wr.ownsRow w.heap.size 3 1 o os.length (os.map (Value.int .i64))) ∧ Hid (TL wr base B nw turn g cap l') ∧ Hid (Touch (footL2 B g) wa wr) ∧ Hid ((popsP l.length l nw).1 = os ++ (popsP l'.length l' nw).1 ∧ (popsP l.length l nw).2 = (popsP l'.length l' nw).2)) (fun _ wr => tmLen wr B)
      case atStart => exact ⟨l, [], hid (by simp), hid (World.ownsRow_nil _ _ _ _), HL, hid (Touch.refl _ _), hid ⟨rfl, rfl⟩⟩
      case round =>
        obtain ⟨l', os, HS, OO, LL, TT, DD⟩ := hrel
        obtain ⟨aos, cos, rfl, -⟩ := own_sl OO.out
        have c2 := LL.out.blk.cell (i := 2) rfl
        have c0 := LL.out.blk.cell (i := 0) rfl
        have HM := hid (tmLen_of c2)
        have c2d : wr.drew.cell? ⟨B, 2, none⟩ = some (.slice (some ⟨g, 0, none⟩) l'.length cap) := c2
        have c0d : wr.drew.cell? ⟨B, 0, none⟩ = some (.int .i64 nw) := c0
        have HFIN := hid (fun (wx : World) (hx : TL wx base B nw turn g cap l') (ht : Touch (footL2 B g) wa wx) => TPost.trans (v1 := .slice (some ⟨g, 0, none⟩) l.length cap) ⟨_, hx.tb HLE.out (Nat.le_trans T1.out.base ht.size), touch2 ht, fun k hk => .inl hk⟩ HT1.out (fun k hk => .inl hk))
        have HSZ := hid (show w.heap.size ≤ wr.heap.size from Nat.le_trans HT1.out.size TT.out.size)
        rcases Classical.em (l'.length = 0) with hl | hl
        · have hl2 : l' = [] := List.length_eq_zero_iff.1 hl
          subst hl2
          simp only [List.length_nil] at c2 c2d
          clear hl
          go_wp2_with fail
          go_quiet (fail)
          go_wp2_with fail
          go_ret2
          rw [HTP.out]
          have hd := DD.out
          rw [show popsP ([] : List Tm).length [] nw = ([], []) from rfl, List.append_nil] at hd
          rw [hd.1, hd.2]
          exact ⟨_, rfl, OO.out, HFIN.out _ (LL.out.below (drew_bel' (Below.refl _ _))) (TT.out.drew _)⟩
        · have h0 : 0 < l'.length := Nat.pos_of_ne_zero hl
          obtain ⟨g', cap', hv, hc1, hc2, hc, -⟩ := tm_at LL.out.own h0
          simp only [Value.slice.injEq, Option.some.injEq, Addr.mk.injEq, and_true, true_and] at hv
          obtain ⟨rfl, rfl⟩ := hv
          obtain ⟨a0, a1, a2⟩ := hc 0 h0
          have HAT := hid (at_eq h0)
          generalize l'[0] = x at *
          simp only [Nat.zero_mul, Nat.zero_add] at a0 a1 a2
          have a1d : wr.drew.cell? ⟨g, 1, none⟩ = some (.int .i64 x.due) := a1
          have hpos : (0 : Int) < (l'.length : Int) := by omega
          have HPS := hid (fun (hd : x.due ≤ nw) => (show popsP l'.length l' nw = (x.id :: (popsP (popL l').length (popL l') nw).1, (popsP (popL l').length (popL l') nw).2) from by
            obtain ⟨m, hm⟩ : ∃ m, l'.length = m + 1 := ⟨l'.length - 1, by omega⟩
            have hp : (popL l').length = m := by rw [popL_len, hm]; rfl
            rw [hp, hm, popsP, if_pos ⟨by omega, by rw [HAT.out]; exact hd⟩, HAT.out]))
          have HPN := hid (fun (hd : ¬ x.due ≤ nw) => (show popsP l'.length l' nw = ([], l') from by
            obtain ⟨m, hm⟩ : ∃ m, l'.length = m + 1 := ⟨l'.length - 1, by omega⟩
            rw [hm, popsP, if_neg (fun g => by rw [HAT.out] at g; exact hd g.2)]))
          have HH0 := hid h0
          clear hc hl
          by_cases hd : x.due ≤ nw
          · have HP2 := hid (HPS.out hd)
            have hdd := decide_eq_true hd
            have HNO := hid (show (Value.slice aos os.length cos).ownBlock ≠ some g ∧ (Value.slice aos os.length cos).ownBlock ≠ some B from ⟨fun e => by have := (World.ownsRow.lt OO.out g e).1; have := HGW.out; omega, fun e => by have := (World.ownsRow.lt OO.out B e).1; have := HB0.out; omega⟩)
            have hos : os.length ≤ 32 := by have := HS.out; have := HNL.out; omega
            clear HPS HPN
            go_wp2_with fail
            go_quiet (fail)
            have LN := hid (LL.out.below (drew_bel' (n := nq) (Below.refl _ _)))
            have TN := hid (TT.out.drew nq)
            have ON := hid (show (wr.drewN nq).ownsRow w.heap.size 3 1 (.slice aos os.length cos) os.length (os.map (Value.int .i64)) from OO.out)
            have SN := hid (show w.heap.size ≤ (wr.drewN nq).heap.size from HSZ.out)
            have b0 : (wr.drewN nq).cell? ⟨g, 0, none⟩ = some (.int .i64 x.id) := a0
            have b2 : (wr.drewN nq).cell? ⟨B, 2, none⟩ = some (.slice (some ⟨g, 0, none⟩) l'.length cap) := c2
            clear a0 a1 a2 c0 c2 c2d c0d a1d
            generalize wr.drewN nq = wq at *
            go_wp2_with (at_builtin; go_must (refine app_one elem_intt (base := w.heap.size) (cs := [.int .i64 x.id]) rfl _ _ rfl rfl rfl rfl ON.out rfl (by intro c hc; simp at hc; subst hc; rfl) (by omega) (by omega) SN.out ?_); intro v' w5 ho hb hg; have L5 := hid (LN.out.grow hg.1 ON.out); have T5 := hid (TN.out.trans' (Touch.grown (F := fun j => (Value.slice aos os.length cos).ownBlock = some j) hg.1 (fun _ g => g)) (fun i hi e => absurd (World.ownsRow.lt ON.out i e).1 (by have := HWA.out; omega))); have O5 := hid ho; obtain ⟨a5, k5, rfl, -⟩ := own_sl ho; clear ho hb hg)
            obtain ⟨m, hm⟩ : ∃ m, l'.length = m + 1 := ⟨l'.length - 1, by have := HH0.out; omega⟩
            refine (hpop_any w5 base B nw turn g cap m l' hm (by have := HS.out; have := HNL.out; omega) L5.out).mono ?_
            rintro e w6 ⟨⟨u, rfl⟩, hl6, ht6⟩
            have L6 := hid hl6
            have T6 := hid (T5.out.trans ht6)
            have O6 := hid (own_same O5.out (fun j hj => ht6.block j (World.ownsRow.lt O5.out j hj).2 (fun hf => by
              have h1 := (World.ownsRow.lt O5.out j hj).1
              have h2 := HGW.out
              have h3 := HB0.out
              rcases hf with e | e <;> omega)))
            have HML := hid hm
            clear hl6 ht6 hm
            go_wp2_with fail
            go_roundw
            case rel =>
              refine ⟨popL l', os ++ [x.id], ?_, ?_, L6, T6, ?_⟩
              · have h1 := HS.out
                have h2 := HML.out
                exact hid (by rw [popL_len]; simp; omega)
              · exact hid (by simpa using O6.out)
              · have h1 := DD.out
                rw [HP2.out] at h1
                exact hid ⟨by rw [h1.1, List.append_assoc]; rfl, h1.2⟩
            case measure =>
              have h1 := HM.out
              have h2 := tmLen_of (L6.out.blk.cell (i := 2) rfl)
              have h3 := HML.out
              rw [h2, h1, popL_len]
              omega
          · have HP2 := hid (HPN.out hd)
            have hdd := decide_eq_false hd
            clear HPS HPN
            go_wp2_with fail
            go_quiet (fail)
            go_wp2_with fail
            go_ret2
            rw [HTP.out]
            have hd := DD.out
            rw [HP2.out, List.append_nil] at hd
            rw [hd.1, hd.2]
            exact ⟨_, rfl, OO.out, HFIN.out _ (LL.out.below (drew_bel' (Below.refl _ _))) (TT.out.drew _)⟩
end Go.Proofs.Ytalookaaogiinaa
