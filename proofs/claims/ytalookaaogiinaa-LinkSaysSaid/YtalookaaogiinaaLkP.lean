/-
  LINKS, the program's end: Out, the walk. Conditions: the object's own invariant; lengths.
-/
import Derived.Test.YtalookaaogiinaaLkO
import Derived.Test.YtalookaaogiinaaKt
import Derived.StillTailTactics
namespace Go.Proofs.Ytalookaaogiinaa
open Go.RowKit Go.Lib
attribute [local go_sem ↓] Go.wp_at_zero Go.wp_at_succ

theorem flat_set2 (l : List Ln) (k : Nat) (hk : k < l.length) (b : Bool) (t : Int) : (l.set k ⟨l[k].body, b, t⟩).flatMap encLn = ((l.flatMap encLn).set (k * 3 + 1) (.bool b)).set (k * 3 + 2) (.int .i64 t) := by
  induction l generalizing k with
  | nil => simp at hk
  | cons y l ih =>
    cases k with
    | zero => rfl
    | succ k =>
      simp only [List.length_cons] at hk
      have hk2 : k < l.length := by omega
      simp only [List.getElem_cons_succ]
      rw [List.set_cons_succ, List.flatMap_cons, ih k hk2, List.flatMap_cons, show (k + 1) * 3 = k * 3 + 3 by omega]
      rw [List.set_append_right _ _ (by rw [encLn_len]; omega), List.set_append_right _ _ (by rw [encLn_len]; omega)]
      simp only [encLn_len, show k * 3 + 3 + 1 - 3 = k * 3 + 1 by omega, show k * 3 + 3 + 2 - 3 = k * 3 + 2 by omega]
/-- a body is sent: its two cells and the highest count turn -/
theorem PEB.send {w : World} {base B g cap : Nat} {s s' : PE} {n : Nat} (h : PEB w base B (.slice (some ⟨g, 0, none⟩) n cap) s) (k : Nat) (hk : k < s.waits.length) (t hi : Int) (hs : s' = { s with waits := s.waits.set k ⟨s.waits[k].body, true, t⟩, high := hi }) (hn : n = s.waits.length) :
    PEB (((w.setCell ⟨g, k * 3 + 1, none⟩ (.bool true)).setCell ⟨g, k * 3 + 2, none⟩ (.int .i64 t)).setCell ⟨B, 4, none⟩ (.int .i64 hi)) base B (.slice (some ⟨g, 0, none⟩) n cap) s' := by
  subst hn
  have hne : g ≠ B := fun e => h.ne (by rw [e]; rfl)
  subst hs
  refine ⟨?_, ?_, h.le, by have := h.base; simp; omega⟩
  · exact ((h.blk.other (a := ⟨g, k * 3 + 1, none⟩) hne _).other (a := ⟨g, k * 3 + 2, none⟩) hne _).set 4 (.int .i64 hi)
  · refine ownsRow_setCell_other (a := ⟨B, 4, none⟩) ?_ (fun e => hne (by simpa [Value.ownBlock] using e)) _
    have h1 := own_put3 (own_put3 h.own (k * 3 + 1) (.bool true) (by omega)) (k * 3 + 2) (.int .i64 t) (by omega)
    rw [← flat_set2 _ _ hk] at h1
    simpa using h1
theorem PEB.grow {w w' : World} {base B : Nat} {v : Value} {s : PE} (h : PEB w base B v s) {base2 n : Nat} {u : Value} {cs : List Value} (hg : w.drew.grownBy w' u.ownBlock) (ho : w.drew.ownsRow base2 31 5 u n cs) : PEB w' base B v s := by
  have kt : KT 31 w.drew w' := KT.grown hg ho
  exact ⟨kt.blk (w := w.drew) h.blk rfl, kt.own (w := w.drew) h.own rfl, h.le, Nat.le_trans h.base kt.1⟩
def okP (s : PE) : Prop := (0 ≤ s.now ∧ s.now ≤ 1099511627776) ∧ (0 ≤ s.acked ∧ s.acked ≤ 2000000000000) ∧ s.waits.length ≤ 2000000000000 ∧ ∀ x ∈ s.waits, 0 ≤ x.time ∧ x.time ≤ s.now

set_option maxRecDepth 100000 in
set_option maxHeartbeats 8000000 in
theorem pout_any (w : World) (base B : Nat) (v : Value) (s : PE) (hok : okP s) (h : PEB w base B v s) :
    Calls Try.prog 13 #[.pointer (some ⟨B, 0, none⟩)] w fun e w' => ∃ u, e = .returned u ∧ w'.ownsRow w.heap.size 31 5 u (outF s).length ((outF s).flatMap encFr) ∧ LkPost w base B v (outS s) w' := by
  obtain ⟨ao, cap, rfl, -⟩ := own_sl h.own
  have H := hid h
  have HOK := hid hok
  have x5 := h.blk.cell (i := 5) rfl
  have hN4 : outN s ≤ 4 := by unfold outN; omega
  have hNl : outN s ≤ s.waits.length := by unfold outN; omega
  have hmin : min (4 : Int) (s.waits.length : Int) = (outN s : Int) := by unfold outN; omega
  have HF0 := hid (show (outF s) = (if (outQ s (outN s)).1 = [] ∧ s.owed = true then [⟨s.me, s.other, 0, s.came, ByteArray.empty⟩] else (outQ s (outN s)).1) from rfl)
  have HS0 := hid (show (outS s) = { s with waits := (outQ s (outN s)).2.1, high := (outQ s (outN s)).2.2, owed := s.owed && decide (outF s = []) } from rfl)
  generalize outF s = FR at *
  generalize outS s = SR at *
  generalize outN s = N at *
  clear h hok
  go_enter Try.func13, Try.ntmps13
  go_wp2_with fail
  have H0 := hid (show PEB w base B (.slice ao s.waits.length cap) { s with waits := (outQ s 0).2.1, high := (outQ s 0).2.2 } from H.out)
  go_loopw [3, 13] (fun i j wr => ∃ k : Nat, k ≤ N ∧ j = .int .i64 k ∧ Hid (wr.ownsRow w.heap.size 31 5 i (outQ s k).1.length ((outQ s k).1.flatMap encFr)) ∧ Hid (PEB wr base B (.slice ao s.waits.length cap) { s with waits := (outQ s k).2.1, high := (outQ s k).2.2 }) ∧ Hid (Touch (footL B (.slice ao s.waits.length cap)) w wr)) (fun _ j _ => N - (RowKit.intOf j).toNat)
  case atStart => exact ⟨0, Nat.zero_le _, rfl, hid (World.ownsRow_nil _ _ _ _), H0, hid (Touch.refl _ _)⟩
  case round =>
    obtain ⟨k, hk, rfl, FO, PO, TO⟩ := hrel
    obtain ⟨ai, ci, rfl, -⟩ := own_sl FO.out
    by_cases hlt : k < N
    · have hlt2 : (k : Int) < (N : Int) := by omega
      have hkl : k < s.waits.length := by omega
      have hkl2 : (k : Int) < (s.waits.length : Int) := by omega
      have hkq : k < (outQ s k).2.1.length := by rw [outQ_len]; exact hkl
      have hqx : (outQ s k).2.1[k] = s.waits[k] := by
        have := outQ_far s k k (Nat.le_refl _)
        rw [List.getElem?_eq_getElem hkq, List.getElem?_eq_getElem hkl] at this
        exact Option.some.inj this
      have hx : s.waits[k]? = some s.waits[k] := List.getElem?_eq_getElem hkl
      obtain ⟨g, cg, hv, hcg1, hcg2, c0, c1, c2, gf⟩ := row3_at (l := (outQ s k).2.1) (w := wr) (base := base) (v := .slice ao s.waits.length cap) (by have := PO.out.own; simpa [outQ_len] using this) k hkq
      rw [outQ_len] at hv
      simp only [Value.slice.injEq] at hv
      obtain ⟨rfl, -, rfl⟩ := hv
      rw [hqx] at c0 c1 c2
      have hgB : ¬ (g = B) := fun e => PO.out.ne (by rw [e]; rfl)
      have hBg : ¬ (B = g) := fun e => hgB e.symm
      have HSK := hid (fun (h : s.waits[k].sent = true ∧ s.now - s.waits[k].time < 3) => outQ_skip (s := s) (k := k) (x := s.waits[k]) hx h)
      have HSE := hid (fun (h : ¬ (s.waits[k].sent = true ∧ s.now - s.waits[k].time < 3)) => outQ_send (s := s) (k := k) (x := s.waits[k]) hx h)
      have HTM := hid (HOK.out.2.2.2 s.waits[k] (List.getElem_mem hkl))
      have HSEND := hid (show ∀ wx hi, PEB wx base B (.slice (some ⟨g, 0, none⟩) s.waits.length cap) { s with waits := (outQ s k).2.1, high := (outQ s k).2.2 } → PEB (((wx.setCell ⟨g, k * 3 + 1, none⟩ (.bool true)).setCell ⟨g, k * 3 + 2, none⟩ (.int .i64 s.now)).setCell ⟨B, 4, none⟩ (.int .i64 hi)) base B (.slice (some ⟨g, 0, none⟩) s.waits.length cap) { s with waits := (outQ s k).2.1.set k ⟨s.waits[k].body, true, s.now⟩, high := hi } from fun wx hi h => h.send k hkq s.now hi (by simp only [hqx]) (outQ_len s k).symm)
      have HNOW := hid HOK.out.1
      have HACK := hid HOK.out.2.1
      have x0 := PO.out.blk.cell (i := 0) rfl
      have x1 := PO.out.blk.cell (i := 1) rfl
      have x2 := PO.out.blk.cell (i := 2) rfl
      have x3 := PO.out.blk.cell (i := 3) rfl
      have x4 := PO.out.blk.cell (i := 4) rfl
      have x5 := PO.out.blk.cell (i := 5) rfl
      have x6 := PO.out.blk.cell (i := 6) rfl
      have xf := PO.out.blk.free
      simp only at x0 x1 x2 x3 x4 x5 x6
      clear hqx hx hkq
      generalize hx2 : s.waits[k] = x at *
      obtain ⟨body, sent, time⟩ := x
      simp only at c0 c1 c2 HSK HSE HTM
      have HX2 := hid hx2
      clear hx2
      have HGW := hid (show g < w.heap.size ∧ B < w.heap.size from ⟨(H.out.own.lt g rfl).2, H.out.blk.lt⟩)
      have HNG := hid (show (Value.slice ai (outQ s k).1.length ci).ownBlock ≠ some g ∧ (Value.slice ai (outQ s k).1.length ci).ownBlock ≠ some B from ⟨fun e => by have h1 := (FO.out.lt _ e).1; have h2 := HGW.out.1; clear hgB hBg; omega, fun e => by have h1 := (FO.out.lt _ e).1; have h2 := HGW.out.2; clear hgB hBg; omega⟩)
      obtain ⟨ha0, ha1⟩ := HOK.out.2.1
      have hk4 : (k : Int) ≤ 4 := by omega
      have hk0 : (0 : Int) ≤ (k : Int) := by omega
      have hdq : IntKind.i64.wrap (s.now - time) = s.now - time := IntWalk.i64_in _ (by have := HTM.out; have := HNOW.out; omega)
      have x2d : wr.drew.cell? ⟨B, 2, none⟩ = some (.int .i64 s.now) := x2
      have c2d : wr.drew.cell? ⟨g, k * 3 + 2, none⟩ = some (.int .i64 time) := c2
      by_cases hsk : sent = true ∧ s.now - time < 3
      · have HQ := hid (HSK.out hsk)
        obtain ⟨rfl, h3⟩ := hsk
        have hd3 : decide (s.now - time < 3) = true := decide_eq_true h3
        have c1d : wr.drew.cell? ⟨g, k * 3 + 1, none⟩ = some (.bool true) := c1
        clear HSK HSE
        go_wp2_with fail
        go_quiet (fail)
        go_wp2_with fail
        go_roundw
        case rel => exact ⟨k + 1, by omega, by go_num, hid (by rw [HQ.out]; exact FO.out), hid (by rw [HQ.out]; exact (PO.out.part.drew nq).holds), hid (TO.out.drew _)⟩
        case measure => simp [RowKit.intOf]; omega
      · have HQ := hid (HSE.out hsk)
        have hor : (sent = false) ∨ (sent = true ∧ ¬ (s.now - time < 3)) := by
          cases sent with
          | true => exact .inr ⟨rfl, fun g => hsk ⟨rfl, g⟩⟩
          | false => exact .inl rfl
        clear hsk HSK HSE
        rcases hor with rfl | ⟨rfl, h3⟩
        · have c1d : wr.drew.cell? ⟨g, k * 3 + 1, none⟩ = some (.bool false) := c1
          go_wp2_with fail
          go_quiet (fail)
          go_wp2_with fail
          have P3 := hid (HSEND.out (wr.drewN nq) (max (outQ s k).2.2 (s.acked + 1 + (k : Int))) (PO.out.part.drew nq).holds)
          have F3 := hid (ownsRow_setCell_other (a := ⟨B, 4, none⟩) (ownsRow_setCell_other (a := ⟨g, k * 3 + 2, none⟩) (ownsRow_setCell_other (a := ⟨g, k * 3 + 1, none⟩) (show (wr.drewN nq).ownsRow w.heap.size 31 5 (.slice ai (outQ s k).1.length ci) (outQ s k).1.length ((outQ s k).1.flatMap encFr) from FO.out) HNG.out.1 (.bool true)) HNG.out.1 (.int .i64 s.now)) HNG.out.2 (.int .i64 (max (outQ s k).2.2 (s.acked + 1 + (k : Int)))))
          have T3 := hid ((((TO.out.drew nq).put (a := ⟨g, k * 3 + 1, none⟩) (.inr rfl) (.bool true)).put (a := ⟨g, k * 3 + 2, none⟩) (.inr rfl) (.int .i64 s.now)).put (a := ⟨B, 4, none⟩) (.inl rfl) (.int .i64 (max (outQ s k).2.2 (s.acked + 1 + (k : Int)))))
          have C3 : Hid (((((wr.drewN nq).setCell ⟨g, k * 3 + 1, none⟩ (.bool true)).setCell ⟨g, k * 3 + 2, none⟩ (.int .i64 s.now)).setCell ⟨B, 4, none⟩ (.int .i64 (max (outQ s k).2.2 (s.acked + 1 + (k : Int))))).cell? ⟨g, k * 3, none⟩ = some (.string body)) := hid (by
            obtain ⟨g2, c2', hv2, _, _, cc, _⟩ := row3_at (l := (outQ s k).2.1.set k ⟨body, true, s.now⟩) (v := .slice (some ⟨g, 0, none⟩) s.waits.length cap) (by have := P3.out.own; simpa [outQ_len] using this) k (by rw [List.length_set, outQ_len]; exact hkl)
            simp only [Value.slice.injEq, Option.some.injEq, Addr.mk.injEq, and_true] at hv2
            obtain ⟨rfl, _⟩ := hv2
            rw [List.getElem_set_self] at cc
            exact cc)
          generalize ((((wr.drewN nq).setCell ⟨g, k * 3 + 1, none⟩ (.bool true)).setCell ⟨g, k * 3 + 2, none⟩ (.int .i64 s.now)).setCell ⟨B, 4, none⟩ (.int .i64 (max (outQ s k).2.2 (s.acked + 1 + (k : Int))))) = W3 at *
          clear hgB hBg gf xf x0 x1 x2 x3 x4 x5 x6 c0 c1 c2 c1d c2d x2d hdq
          have z0 : W3.drew.cell? ⟨B, 0, none⟩ = some (.int .i64 s.me) := P3.out.blk.cell (i := 0) rfl
          have z1 : W3.drew.cell? ⟨B, 1, none⟩ = some (.int .i64 s.other) := P3.out.blk.cell (i := 1) rfl
          have z6 : W3.drew.cell? ⟨B, 6, none⟩ = some (.int .i64 s.came) := P3.out.blk.cell (i := 6) rfl
          have zc : W3.drew.cell? ⟨g, k * 3, none⟩ = some (.string body) := C3.out
          have n0 := fun o => cell_alloc o z0
          have n1 := fun o => cell_alloc o z1
          have n6 := fun o => cell_alloc o z6
          have nc := fun o => cell_alloc o zc
          have hsz : w.heap.size ≤ W3.drew.heap.size := T3.out.size
          have hfew : (outQ s k).1.length ≤ 4 := Nat.le_trans (outQ_few s k) (by omega)
          have FD := hid (show W3.drew.ownsRow w.heap.size 31 5 (.slice ai (outQ s k).1.length ci) (outQ s k).1.length ((outQ s k).1.flatMap encFr) from F3.out)
          go_region_held3 (fun w' => w'.cell? ⟨B, 0, none⟩ = some (.int .i64 s.me) ∧ w'.cell? ⟨B, 1, none⟩ = some (.int .i64 s.other) ∧ w'.cell? ⟨B, 6, none⟩ = some (.int .i64 s.came) ∧ w'.cell? ⟨g, k * 3, none⟩ = some (.string body)) (first | exact ⟨z0, z1, z6, zc⟩ | exact ⟨n0 _, n1 _, n6 _, nc _⟩ | exact ⟨y0, y1, y6, yc⟩ | go_keep) (first | (refine step_one1 elem_Fr (base := w.heap.size) (cs := encFr ⟨s.me, s.other, s.acked + 1 + (k : Int), s.came, body⟩) (by rfl) _ _ (by rfl) (by rfl) (by rfl) (by rfl) FD.out (by rfl) (by intro c hc; simp [encFr] at hc; rcases hc with rfl | rfl | rfl | rfl | rfl <;> rfl) (by omega) (by omega) hsz ?_; intro v' w5 ho hb hg; have P5 := hid (P3.out.grow hg.1 FD.out); have y0 := P5.out.blk.cell (i := 0) rfl; have y1 := P5.out.blk.cell (i := 1) rfl; have y6 := P5.out.blk.cell (i := 6) rfl; have yc := Grew.cell hg zc HNG.out.1; have HG := hid (And.intro ho (And.intro hb hg)); obtain ⟨a5, k5, rfl, -⟩ := own_sl ho; clear ho hb hg))
          all_goals
            first | go_wp2_with fail | skip
            go_roundw
            case rel =>
              refine ⟨k + 1, by omega, by go_num, hid ?_, hid ?_, hid ?_⟩
              · rw [HQ.out, List.flatMap_append, List.length_append]
                exact (by simpa [encFr] using HG.out.1)
              · rw [HQ.out]
                exact P5.out
              · exact T3.out.trans' ((Touch.refl (fun j => (Value.slice ai (outQ s k).1.length ci).ownBlock = some j) W3).drew1.trans (Touch.grown (F := fun j => (Value.slice ai (outQ s k).1.length ci).ownBlock = some j) HG.out.2.2.1 (fun _ g => g))) (fun i hi hf => absurd (FO.out.lt i hf).1 (by omega))
            case measure => simp [RowKit.intOf]; omega
        · have hd3 : decide (s.now - time < 3) = false := decide_eq_false h3
          have c1d : wr.drew.cell? ⟨g, k * 3 + 1, none⟩ = some (.bool true) := c1
          go_wp2_with fail
          go_quiet (fail)
          go_wp2_with fail
          have P3 := hid (HSEND.out (wr.drewN nq) (max (outQ s k).2.2 (s.acked + 1 + (k : Int))) (PO.out.part.drew nq).holds)
          have F3 := hid (ownsRow_setCell_other (a := ⟨B, 4, none⟩) (ownsRow_setCell_other (a := ⟨g, k * 3 + 2, none⟩) (ownsRow_setCell_other (a := ⟨g, k * 3 + 1, none⟩) (show (wr.drewN nq).ownsRow w.heap.size 31 5 (.slice ai (outQ s k).1.length ci) (outQ s k).1.length ((outQ s k).1.flatMap encFr) from FO.out) HNG.out.1 (.bool true)) HNG.out.1 (.int .i64 s.now)) HNG.out.2 (.int .i64 (max (outQ s k).2.2 (s.acked + 1 + (k : Int)))))
          have T3 := hid ((((TO.out.drew nq).put (a := ⟨g, k * 3 + 1, none⟩) (.inr rfl) (.bool true)).put (a := ⟨g, k * 3 + 2, none⟩) (.inr rfl) (.int .i64 s.now)).put (a := ⟨B, 4, none⟩) (.inl rfl) (.int .i64 (max (outQ s k).2.2 (s.acked + 1 + (k : Int)))))
          have C3 : Hid (((((wr.drewN nq).setCell ⟨g, k * 3 + 1, none⟩ (.bool true)).setCell ⟨g, k * 3 + 2, none⟩ (.int .i64 s.now)).setCell ⟨B, 4, none⟩ (.int .i64 (max (outQ s k).2.2 (s.acked + 1 + (k : Int))))).cell? ⟨g, k * 3, none⟩ = some (.string body)) := hid (by
            obtain ⟨g2, c2', hv2, _, _, cc, _⟩ := row3_at (l := (outQ s k).2.1.set k ⟨body, true, s.now⟩) (v := .slice (some ⟨g, 0, none⟩) s.waits.length cap) (by have := P3.out.own; simpa [outQ_len] using this) k (by rw [List.length_set, outQ_len]; exact hkl)
            simp only [Value.slice.injEq, Option.some.injEq, Addr.mk.injEq, and_true] at hv2
            obtain ⟨rfl, _⟩ := hv2
            rw [List.getElem_set_self] at cc
            exact cc)
          generalize ((((wr.drewN nq).setCell ⟨g, k * 3 + 1, none⟩ (.bool true)).setCell ⟨g, k * 3 + 2, none⟩ (.int .i64 s.now)).setCell ⟨B, 4, none⟩ (.int .i64 (max (outQ s k).2.2 (s.acked + 1 + (k : Int))))) = W3 at *
          clear hgB hBg gf xf x0 x1 x2 x3 x4 x5 x6 c0 c1 c2 c1d c2d x2d hdq
          have z0 : W3.drew.cell? ⟨B, 0, none⟩ = some (.int .i64 s.me) := P3.out.blk.cell (i := 0) rfl
          have z1 : W3.drew.cell? ⟨B, 1, none⟩ = some (.int .i64 s.other) := P3.out.blk.cell (i := 1) rfl
          have z6 : W3.drew.cell? ⟨B, 6, none⟩ = some (.int .i64 s.came) := P3.out.blk.cell (i := 6) rfl
          have zc : W3.drew.cell? ⟨g, k * 3, none⟩ = some (.string body) := C3.out
          have n0 := fun o => cell_alloc o z0
          have n1 := fun o => cell_alloc o z1
          have n6 := fun o => cell_alloc o z6
          have nc := fun o => cell_alloc o zc
          have hsz : w.heap.size ≤ W3.drew.heap.size := T3.out.size
          have hfew : (outQ s k).1.length ≤ 4 := Nat.le_trans (outQ_few s k) (by omega)
          have FD := hid (show W3.drew.ownsRow w.heap.size 31 5 (.slice ai (outQ s k).1.length ci) (outQ s k).1.length ((outQ s k).1.flatMap encFr) from F3.out)
          go_region_held3 (fun w' => w'.cell? ⟨B, 0, none⟩ = some (.int .i64 s.me) ∧ w'.cell? ⟨B, 1, none⟩ = some (.int .i64 s.other) ∧ w'.cell? ⟨B, 6, none⟩ = some (.int .i64 s.came) ∧ w'.cell? ⟨g, k * 3, none⟩ = some (.string body)) (first | exact ⟨z0, z1, z6, zc⟩ | exact ⟨n0 _, n1 _, n6 _, nc _⟩ | exact ⟨y0, y1, y6, yc⟩ | go_keep) (first | (refine step_one1 elem_Fr (base := w.heap.size) (cs := encFr ⟨s.me, s.other, s.acked + 1 + (k : Int), s.came, body⟩) (by rfl) _ _ (by rfl) (by rfl) (by rfl) (by rfl) FD.out (by rfl) (by intro c hc; simp [encFr] at hc; rcases hc with rfl | rfl | rfl | rfl | rfl <;> rfl) (by omega) (by omega) hsz ?_; intro v' w5 ho hb hg; have P5 := hid (P3.out.grow hg.1 FD.out); have y0 := P5.out.blk.cell (i := 0) rfl; have y1 := P5.out.blk.cell (i := 1) rfl; have y6 := P5.out.blk.cell (i := 6) rfl; have yc := Grew.cell hg zc HNG.out.1; have HG := hid (And.intro ho (And.intro hb hg)); obtain ⟨a5, k5, rfl, -⟩ := own_sl ho; clear ho hb hg))
          all_goals
            first | go_wp2_with fail | skip
            go_roundw
            case rel =>
              refine ⟨k + 1, by omega, by go_num, hid ?_, hid ?_, hid ?_⟩
              · rw [HQ.out, List.flatMap_append, List.length_append]
                exact (by simpa [encFr] using HG.out.1)
              · rw [HQ.out]
                exact P5.out
              · exact T3.out.trans' ((Touch.refl (fun j => (Value.slice ai (outQ s k).1.length ci).ownBlock = some j) W3).drew1.trans (Touch.grown (F := fun j => (Value.slice ai (outQ s k).1.length ci).ownBlock = some j) HG.out.2.2.1 (fun _ g => g))) (fun i hi hf => absurd (FO.out.lt i hf).1 (by omega))
            case measure => simp [RowKit.intOf]; omega
    · obtain rfl : k = N := by omega
      have hnl : ¬ ((k : Int) < (k : Int)) := by omega
      have hfew : (outQ s k).1.length ≤ 4 := Nat.le_trans (outQ_few s k) hN4
      generalize outQ s k = q at *
      obtain ⟨fq, wq, hq⟩ := q
      simp only at FO PO HF0 HS0 hfew
      have HGW := hid (show B < w.heap.size from H.out.blk.lt)
      have x0 := PO.out.blk.cell (i := 0) rfl
      have x1 := PO.out.blk.cell (i := 1) rfl
      have x6 := PO.out.blk.cell (i := 6) rfl
      have x15 := PO.out.blk.cell (i := 15) rfl
      have xf := PO.out.blk.free
      simp only at x0 x1 x6 x15
      have HNG := hid (show (Value.slice ai fq.length ci).ownBlock ≠ some B from fun e => by have h1 := (FO.out.lt _ e).1; have h2 := HGW.out; omega)
      have hsz : w.heap.size ≤ wr.drew.heap.size := TO.out.size
      have HPUT := hid (fun wx (h : PEB wx base B (.slice ao s.waits.length cap) { s with waits := wq, high := hq }) => h.put (s' := { s with waits := wq, high := hq, owed := false }) 15 (.bool false) rfl rfl)
      rcases Classical.em (fq = []) with hfq | hfq
      · subst hfq
        cases how : s.owed with
        | true =>
          have HFR := hid (show FR = [⟨s.me, s.other, 0, s.came, ByteArray.empty⟩] from by rw [HF0.out, if_pos ⟨rfl, how⟩])
          have HSR := hid (show SR = { s with waits := wq, high := hq, owed := false } from by rw [HS0.out, HFR.out]; simp)
          rw [how] at x15
          have z0 : wr.drew.cell? ⟨B, 0, none⟩ = some (.int .i64 s.me) := x0
          have z1 : wr.drew.cell? ⟨B, 1, none⟩ = some (.int .i64 s.other) := x1
          have z6 : wr.drew.cell? ⟨B, 6, none⟩ = some (.int .i64 s.came) := x6
          have n0 := fun o => cell_alloc o z0
          have n1 := fun o => cell_alloc o z1
          have n6 := fun o => cell_alloc o z6
          have FD := hid (show wr.drew.ownsRow w.heap.size 31 5 (.slice ai 0 ci) 0 [] from FO.out)
          clear how
          go_wp2_with fail
          go_region_held3 (fun w' => w'.cell? ⟨B, 0, none⟩ = some (.int .i64 s.me) ∧ w'.cell? ⟨B, 1, none⟩ = some (.int .i64 s.other) ∧ w'.cell? ⟨B, 6, none⟩ = some (.int .i64 s.came)) (first | exact ⟨z0, z1, z6⟩ | exact ⟨n0 _, n1 _, n6 _⟩ | exact ⟨y0, y1, y6⟩ | go_keep) (first | (refine step_one1 elem_Fr (base := w.heap.size) (cs := encFr ⟨s.me, s.other, 0, s.came, ByteArray.empty⟩) (by rfl) _ _ (by rfl) (by rfl) (by rfl) (by rfl) FD.out (by rfl) (by intro c hc; simp [encFr] at hc; rcases hc with rfl | rfl | rfl | rfl | rfl <;> rfl) (by omega) (by omega) hsz ?_; intro v' w5 ho hb hg; have P5 := hid (PO.out.grow hg.1 FD.out); have y0 := P5.out.blk.cell (i := 0) rfl; have y1 := P5.out.blk.cell (i := 1) rfl; have y6 := P5.out.blk.cell (i := 6) rfl; have y15 := P5.out.blk.cell (i := 15) rfl; have yf := P5.out.blk.free; have HG := hid (And.intro ho (And.intro hb hg)); obtain ⟨a5, k5, rfl, -⟩ := own_sl ho; clear ho hb hg))
          all_goals
            go_wp2_with fail
            go_ret
            have P6 := hid (HPUT.out w5 P5.out)
            have O6 := hid (ownsRow_setCell_other (a := ⟨B, 15, none⟩) HG.out.1 (fun e => by have h1 : w.heap.size ≤ B := (HG.out.1.lt _ e).1; have h2 := HGW.out; omega) (.bool false))
            have T6 := hid ((TO.out.trans' ((Touch.refl (fun j => (Value.slice ai 0 ci).ownBlock = some j) wr).drew1.trans (Touch.grown (F := fun j => (Value.slice ai 0 ci).ownBlock = some j) HG.out.2.2.1 (fun _ g => g))) (fun i hi hf => absurd (FO.out.lt i hf).1 (by omega))).put (a := ⟨B, 15, none⟩) (.inl rfl) (.bool false))
            rw [HFR.out, HSR.out]
            exact ⟨_, rfl, O6.out, _, P6.out, T6.out, fun _ hk => .inl hk⟩
        | false =>
          have HFR := hid (show FR = [] from by rw [HF0.out, if_neg (by rw [how]; simp)])
          have HSR := hid (show SR = { s with waits := wq, high := hq } from by rw [HS0.out, HFR.out, how]; cases s; simp at how; subst how; rfl)
          rw [how] at x15
          clear how
          go_wp2_with fail
          go_ret
          rw [HFR.out, HSR.out]
          exact ⟨_, rfl, FO.out, _, PO.out, TO.out, fun _ hk => .inl hk⟩
      · have HFR := hid (show FR = fq from by rw [HF0.out, if_neg (fun g => hfq g.1)])
        have HSR := hid (show SR = { s with waits := wq, high := hq, owed := false } from by rw [HS0.out, HFR.out]; simp [hfq])
        have hl1 : 0 < fq.length := List.length_pos_iff.2 hfq
        have hpos : (0 : Int) < (fq.length : Int) := by omega
        have hne0 : ((fq.length : Int) == 0) = false := beq_eq_false_iff_ne.2 (by omega)
        clear hfq
        go_wp2_with fail
        go_ret
        rw [HFR.out, HSR.out]
        refine ⟨_, rfl, ownsRow_setCell_other (a := ⟨B, 15, none⟩) FO.out HNG.out (.bool false), _, HPUT.out wr PO.out, TO.out.put (a := ⟨B, 15, none⟩) (.inl rfl) (.bool false), fun _ hk => .inl hk⟩
end Go.Proofs.Ytalookaaogiinaa
