/-
  LINKS, the reference's end: Out, the walk. Conditions: the object's own invariant; lengths.
-/
import Derived.Test.YtalookaaogiinaaLkT
namespace Go.Proofs.Ytalookaaogiinaa
open Go.RowKit Go.Lib
attribute [local go_sem ↓] Go.wp_at_zero Go.wp_at_succ

theorem cell_touch {F : Nat → Prop} {w w' : World} (h : Touch F w w') {a : Addr} {v : Value} (hc : w.cell? a = some v) (hF : ¬ F a.block) : w'.cell? a = some v := by
  have hb := h.block a.block (World.block_lt_of_cell? w a hc) hF
  unfold World.cell? at hc ⊢
  rw [hb]
  exact hc
theorem own_apart {w : World} {base g g2 n cap n2 cap2 : Nat} {cs ds : List Value} (h : w.ownsRow base 9 1 (.slice (some ⟨g, 0, none⟩) n cap) n2 cs) {m m2 : Nat} (k : w.ownsRow base 3 1 (.slice (some ⟨g2, 0, none⟩) m cap2) m2 ds) : g ≠ g2 := by
  intro e
  subst e
  obtain ⟨c1, f1, h1⟩ := own_tyL h rfl
  obtain ⟨c2, f2, h2⟩ := own_tyL k rfl
  rw [h1] at h2
  simp only [Option.some.injEq, Obj.cells.injEq] at h2
  exact absurd h2.2.1 (by decide)
def okR (s : RE) : Prop := (0 ≤ s.now ∧ s.now ≤ 1099511627776) ∧ (0 ≤ s.acked ∧ s.acked ≤ 2000000000000) ∧ s.offered.length = s.sent.length ∧ s.sent.length ≤ 2000000000000 ∧ ∀ t ∈ s.sent, -1 ≤ t ∧ t ≤ s.now

set_option maxRecDepth 100000 in
set_option maxHeartbeats 8000000 in
theorem rout_any (w : World) (base B : Nat) (p : RV) (s : RE) (hok : okR s) (h : REB w base B p s) :
    Calls Try.prog 14 #[.pointer (some ⟨B, 0, none⟩)] w fun e w' => ∃ u, e = .returned u ∧ w'.ownsRow w.heap.size 31 5 u (refF s).length ((refF s).flatMap encFr) ∧ RePost w base B p (refS s) w' := by
  obtain ⟨vo, vs, vc, M⟩ := p
  obtain ⟨a4, cs, hvs, -⟩ := own_sl h.rs
  obtain ⟨ac, cc, hvc, -⟩ := own_sl h.rc
  obtain ⟨ao, co, hvo, -⟩ := own_sl h.ro
  simp only at hvs hvc hvo
  subst hvs hvc hvo
  have H := hid h
  have HOK := hid hok
  have x4 := h.blk.cell (i := 4) rfl
  have HF0 := hid (show refF s = (if s.owed = true ∧ (refQ s s.sent.length).1 = [] then [⟨s.me, s.other, 0, s.came.length, ByteArray.empty⟩] else (refQ s s.sent.length).1) from rfl)
  have HS0 := hid (show refS s = { s with sent := (refQ s s.sent.length).2, owed := s.owed && decide (refF s = []) } from rfl)
  generalize refF s = FR at *
  generalize refS s = SR at *
  have H0 := hid (show REB w base B ⟨.slice ao s.offered.length co, .slice a4 s.sent.length cs, .slice ac s.came.length cc, M⟩ { s with sent := (refQ s 0).2 } from h)
  generalize hN : s.sent.length = N at *
  have HN := hid hN
  have hNb : N ≤ 2000000000000 := by have := hok.2.2.2.1; omega
  have hoN : s.offered.length = N := by have := hok.2.2.1; omega
  rw [hoN] at H H0 ⊢
  have HON := hid hoN
  clear h hok hN hoN
  go_enter Try.func14, Try.ntmps14
  go_wp2_with fail
  go_loopw [3, 11] (fun i j wr => ∃ k : Nat, k ≤ N ∧ j = .int .i64 k ∧ Hid (wr.ownsRow w.heap.size 31 5 i (refQ s k).1.length ((refQ s k).1.flatMap encFr)) ∧ Hid (REB wr base B ⟨.slice ao N co, .slice a4 N cs, .slice ac s.came.length cc, M⟩ { s with sent := (refQ s k).2 }) ∧ Hid (Touch (footR B ⟨.slice ao N co, .slice a4 N cs, .slice ac s.came.length cc, M⟩) w wr)) (fun _ j _ => N - (RowKit.intOf j).toNat)
  case atStart => exact ⟨0, Nat.zero_le _, rfl, hid (World.ownsRow_nil _ _ _ _), H0, hid (Touch.refl _ _)⟩
  case round =>
    obtain ⟨k, hk, rfl, FO, PO, TO⟩ := hrel
    obtain ⟨ai, ci, rfl, -⟩ := own_sl FO.out
    by_cases hlt : k < N
    · have hlt2 : (k : Int) < (N : Int) := by omega
      have hkl : k < s.sent.length := by rw [HN.out]; exact hlt
      have hko : k < s.offered.length := by rw [HON.out]; exact hlt
      have hkq : k < (refQ s k).2.length := by rw [refQ_len]; exact hkl
      have hqx : (refQ s k).2[k]? = some s.sent[k] := by rw [refQ_far s k k (Nat.le_refl _), List.getElem?_eq_getElem hkl]
      have hx : s.sent[k]? = some s.sent[k] := List.getElem?_eq_getElem hkl
      obtain ⟨g, cg, hv, -, -, -, hcell, gf, -, -⟩ := OwnI.at (n := N) PO.out.rs (by rw [refQ_len]; exact HN.out) (by omega)
      simp only [Value.slice.injEq] at hv
      obtain ⟨rfl, -, rfl⟩ := hv
      have c0 := hcell k _ hqx
      obtain ⟨go, cgo, hv2, -, -, -, -, hcell2, -, -⟩ := own_at (n := N) (by have := PO.out.ro; simp only [HON.out] at this; exact this) (by omega)
      simp only [Value.slice.injEq] at hv2
      obtain ⟨rfl, -, rfl⟩ := hv2
      have o0 : wr.cell? ⟨go, k, none⟩ = some (.string s.offered[k]) := hcell2 k _ (by simp [hko])
      have hod : s.offered.getD k ByteArray.empty = s.offered[k] := by simp [List.getD, hko]
      have HSK := hid (fun (h : ¬ dueR s k s.sent[k]) => refQ_skip (s := s) (k := k) (t := s.sent[k]) hx h)
      have HSE := hid (fun (h : dueR s k s.sent[k]) => refQ_send (s := s) (k := k) (t := s.sent[k]) hx h)
      rw [hod] at HSE
      have htm := HOK.out.2.2.2.2 s.sent[k] (List.getElem_mem hkl)
      have HSEND := hid (show ∀ wx, REB wx base B ⟨.slice (some ⟨go, 0, none⟩) N co, .slice (some ⟨g, 0, none⟩) N cs, .slice ac s.came.length cc, M⟩ { s with sent := (refQ s k).2 } → REB (wx.setCell ⟨g, k, none⟩ (.int .i64 s.now)) base B ⟨.slice (some ⟨go, 0, none⟩) N co, .slice (some ⟨g, 0, none⟩) N cs, .slice ac s.came.length cc, M⟩ { s with sent := (refQ s k).2.set k s.now } from fun wx h => h.send rfl (by show N = (refQ s k).2.length; rw [refQ_len, HN.out]) k hkq s.now)
      have x0 := PO.out.blk.cell (i := 0) rfl
      have x1 := PO.out.blk.cell (i := 1) rfl
      have x2 := PO.out.blk.cell (i := 2) rfl
      have x3 := PO.out.blk.cell (i := 3) rfl
      have x4 := PO.out.blk.cell (i := 4) rfl
      have x5 := PO.out.blk.cell (i := 5) rfl
      have x6 := PO.out.blk.cell (i := 6) rfl
      simp only at x0 x1 x2 x3 x4 x5 x6
      obtain ⟨hn0, hn1⟩ := HOK.out.1
      obtain ⟨ha0, ha1⟩ := HOK.out.2.1
      have hk0 : (0 : Int) ≤ (k : Int) := by omega
      clear hqx hx hcell hcell2 hod
      generalize s.sent[k] = t at *
      generalize s.offered[k] = body at *
      clear hkq hkl hko
      obtain ⟨ht0, ht1⟩ := htm
      unfold dueR at HSK HSE
      have HH := hid (show g < w.heap.size ∧ go < w.heap.size ∧ go ≠ g from ⟨(World.ownsRow.lt H.out.rs g rfl).2, (World.ownsRow.lt H.out.ro go rfl).2, own_apart H.out.ro H.out.rs⟩)
      have hgg := HH.out
      obtain ⟨hgw, hgow, hgo'⟩ := hgg
      have hgo : ¬ (go = g) := hgo'
      have hog : ¬ (g = go) := fun e => hgo' e.symm
      have HNG := hid (show (Value.slice ai (refQ s k).1.length ci).ownBlock ≠ some g from fun e => by have h1 : w.heap.size ≤ g := (FO.out.lt _ e).1; clear hgo hog; omega)
      have HNO := hid (show (Value.slice ai (refQ s k).1.length ci).ownBlock ≠ some go from fun e => by have h1 : w.heap.size ≤ go := (FO.out.lt _ e).1; clear hgo hog; omega)
      clear hgw hgow hgo'
      rcases Classical.em (s.acked ≤ (k : Int)) with h1 | h1
      · rcases Classical.em ((k : Int) < s.acked + 4) with h2 | h2
        · rcases Classical.em (t < 0) with h3 | h3
          · have HQ := hid (HSE.out ⟨h1, h2, .inl h3⟩)
            clear HSK HSE
            go_wp2_with fail
            go_region_law (fail)
            all_goals
              go_wp2_with fail
              have P3 := hid ((HSEND.out wr PO.out).part.drew1).holds
              have F3 := hid (ownsRow_setCell_other (a := ⟨g, k, none⟩) FO.out HNG.out (.int .i64 s.now))
              have T3 := hid ((TO.out.put (a := ⟨g, k, none⟩) (.inr (.inr (.inl rfl))) (.int .i64 s.now)).drew1)
              have C3 : Hid ((wr.setCell ⟨g, k, none⟩ (.int .i64 s.now)).drew.cell? ⟨go, k, none⟩ = some (.string body)) := hid (cell_touch (Touch.setCell (F := fun j => j = g) (a := ⟨g, k, none⟩) rfl (.int .i64 s.now)) o0 hgo)
              have F3 := hid (show (wr.setCell ⟨g, k, none⟩ (.int .i64 s.now)).drew.ownsRow w.heap.size 31 5 (.slice ai (refQ s k).1.length ci) (refQ s k).1.length ((refQ s k).1.flatMap encFr) from F3.out)
              generalize (wr.setCell ⟨g, k, none⟩ (.int .i64 s.now)).drew = W3 at *
              clear hgo hog gf x0 x1 x2 x3 x4 x5 x6 c0 o0
              have z0 : W3.drew.cell? ⟨B, 0, none⟩ = some (.int .i64 s.me) := P3.out.blk.cell (i := 0) rfl
              have z1 : W3.drew.cell? ⟨B, 1, none⟩ = some (.int .i64 s.other) := P3.out.blk.cell (i := 1) rfl
              have z6 : W3.drew.cell? ⟨B, 6, none⟩ = some (.slice ac s.came.length cc) := P3.out.blk.cell (i := 6) rfl
              have z3 : W3.drew.cell? ⟨B, 3, none⟩ = some (.slice (some ⟨go, 0, none⟩) N co) := P3.out.blk.cell (i := 3) rfl
              have zc : W3.drew.cell? ⟨go, k, none⟩ = some (.string body) := C3.out
              have n0 := fun o => cell_alloc o z0
              have n1 := fun o => cell_alloc o z1
              have n3 := fun o => cell_alloc o z3
              have n6 := fun o => cell_alloc o z6
              have nc := fun o => cell_alloc o zc
              have hsz : w.heap.size ≤ W3.drew.heap.size := T3.out.size
              have hfew : (refQ s k).1.length ≤ 2000000000000 := Nat.le_trans (refQ_few s k) (by omega)
              have FD := hid (show W3.drew.ownsRow w.heap.size 31 5 (.slice ai (refQ s k).1.length ci) (refQ s k).1.length ((refQ s k).1.flatMap encFr) from F3.out)
              have hw1 : IntKind.i64.wrap ((k : Int) + 1) = (k : Int) + 1 := IntWalk.i64_in _ (by omega)
              go_region_held3 (fun w' => w'.cell? ⟨B, 0, none⟩ = some (.int .i64 s.me) ∧ w'.cell? ⟨B, 1, none⟩ = some (.int .i64 s.other) ∧ w'.cell? ⟨B, 6, none⟩ = some (.slice ac s.came.length cc) ∧ w'.cell? ⟨B, 3, none⟩ = some (.slice (some ⟨go, 0, none⟩) N co) ∧ w'.cell? ⟨go, k, none⟩ = some (.string body)) (first | exact ⟨z0, z1, z6, z3, zc⟩ | exact ⟨n0 _, n1 _, n6 _, n3 _, nc _⟩ | exact ⟨y0, y1, y6, y3, yc⟩ | go_keep) (first | (refine step_one1 elem_Fr (base := w.heap.size) (cs := encFr ⟨s.me, s.other, (k : Int) + 1, s.came.length, body⟩) (by rfl) _ _ (by rfl) (by rfl) (by rfl) (by rfl) FD.out (by rfl) (by intro c hc; simp [encFr] at hc; rcases hc with rfl | rfl | rfl | rfl | rfl <;> rfl) (by omega) (by omega) hsz ?_; intro v' w5 ho hb hg; have P5 := hid (P3.out.grow hg.1 FD.out); have y0 := P5.out.blk.cell (i := 0) rfl; have y1 := P5.out.blk.cell (i := 1) rfl; have y6 := P5.out.blk.cell (i := 6) rfl; have y3 := P5.out.blk.cell (i := 3) rfl; have yc := Grew.cell hg zc HNO.out; have HG := hid (And.intro ho (And.intro hb hg)); obtain ⟨a5, k5, rfl, -⟩ := own_sl ho; clear ho hb hg))
              all_goals
                first | go_wp2_with fail | skip
                go_roundw
                case rel =>
                  refine ⟨k + 1, by omega, by go_num, hid ?_, hid ?_, hid ?_⟩
                  · rw [HQ.out, List.flatMap_append, List.length_append]
                    exact (by simpa [encFr] using HG.out.1)
                  · rw [HQ.out]
                    exact P5.out
                  · exact T3.out.trans' ((Touch.refl (fun j => (Value.slice ai (refQ s k).1.length ci).ownBlock = some j) W3).drew1.trans (Touch.grown (F := fun j => (Value.slice ai (refQ s k).1.length ci).ownBlock = some j) HG.out.2.2.1 (fun _ g => g))) (fun i hi hf => absurd (FO.out.lt i hf).1 (by omega))
                case measure => simp [RowKit.intOf]; omega
          · rcases Classical.em (t + 3 ≤ s.now) with h4 | h4
            · have HQ := hid (HSE.out ⟨h1, h2, .inr h4⟩)
              clear HSK HSE
              go_wp2_with fail
              go_region_law (fail)
              all_goals
                go_wp2_with fail
                have P3 := hid ((HSEND.out wr PO.out).part.drew1).holds
                have F3 := hid (ownsRow_setCell_other (a := ⟨g, k, none⟩) FO.out HNG.out (.int .i64 s.now))
                have T3 := hid ((TO.out.put (a := ⟨g, k, none⟩) (.inr (.inr (.inl rfl))) (.int .i64 s.now)).drew1)
                have C3 : Hid ((wr.setCell ⟨g, k, none⟩ (.int .i64 s.now)).drew.cell? ⟨go, k, none⟩ = some (.string body)) := hid (cell_touch (Touch.setCell (F := fun j => j = g) (a := ⟨g, k, none⟩) rfl (.int .i64 s.now)) o0 hgo)
                have F3 := hid (show (wr.setCell ⟨g, k, none⟩ (.int .i64 s.now)).drew.ownsRow w.heap.size 31 5 (.slice ai (refQ s k).1.length ci) (refQ s k).1.length ((refQ s k).1.flatMap encFr) from F3.out)
                generalize (wr.setCell ⟨g, k, none⟩ (.int .i64 s.now)).drew = W3 at *
                clear hgo hog gf x0 x1 x2 x3 x4 x5 x6 c0 o0
                have z0 : W3.drew.cell? ⟨B, 0, none⟩ = some (.int .i64 s.me) := P3.out.blk.cell (i := 0) rfl
                have z1 : W3.drew.cell? ⟨B, 1, none⟩ = some (.int .i64 s.other) := P3.out.blk.cell (i := 1) rfl
                have z6 : W3.drew.cell? ⟨B, 6, none⟩ = some (.slice ac s.came.length cc) := P3.out.blk.cell (i := 6) rfl
                have z3 : W3.drew.cell? ⟨B, 3, none⟩ = some (.slice (some ⟨go, 0, none⟩) N co) := P3.out.blk.cell (i := 3) rfl
                have zc : W3.drew.cell? ⟨go, k, none⟩ = some (.string body) := C3.out
                have n0 := fun o => cell_alloc o z0
                have n1 := fun o => cell_alloc o z1
                have n3 := fun o => cell_alloc o z3
                have n6 := fun o => cell_alloc o z6
                have nc := fun o => cell_alloc o zc
                have hsz : w.heap.size ≤ W3.drew.heap.size := T3.out.size
                have hfew : (refQ s k).1.length ≤ 2000000000000 := Nat.le_trans (refQ_few s k) (by omega)
                have FD := hid (show W3.drew.ownsRow w.heap.size 31 5 (.slice ai (refQ s k).1.length ci) (refQ s k).1.length ((refQ s k).1.flatMap encFr) from F3.out)
                have hw1 : IntKind.i64.wrap ((k : Int) + 1) = (k : Int) + 1 := IntWalk.i64_in _ (by omega)
                go_region_held3 (fun w' => w'.cell? ⟨B, 0, none⟩ = some (.int .i64 s.me) ∧ w'.cell? ⟨B, 1, none⟩ = some (.int .i64 s.other) ∧ w'.cell? ⟨B, 6, none⟩ = some (.slice ac s.came.length cc) ∧ w'.cell? ⟨B, 3, none⟩ = some (.slice (some ⟨go, 0, none⟩) N co) ∧ w'.cell? ⟨go, k, none⟩ = some (.string body)) (first | exact ⟨z0, z1, z6, z3, zc⟩ | exact ⟨n0 _, n1 _, n6 _, n3 _, nc _⟩ | exact ⟨y0, y1, y6, y3, yc⟩ | go_keep) (first | (refine step_one1 elem_Fr (base := w.heap.size) (cs := encFr ⟨s.me, s.other, (k : Int) + 1, s.came.length, body⟩) (by rfl) _ _ (by rfl) (by rfl) (by rfl) (by rfl) FD.out (by rfl) (by intro c hc; simp [encFr] at hc; rcases hc with rfl | rfl | rfl | rfl | rfl <;> rfl) (by omega) (by omega) hsz ?_; intro v' w5 ho hb hg; have P5 := hid (P3.out.grow hg.1 FD.out); have y0 := P5.out.blk.cell (i := 0) rfl; have y1 := P5.out.blk.cell (i := 1) rfl; have y6 := P5.out.blk.cell (i := 6) rfl; have y3 := P5.out.blk.cell (i := 3) rfl; have yc := Grew.cell hg zc HNO.out; have HG := hid (And.intro ho (And.intro hb hg)); obtain ⟨a5, k5, rfl, -⟩ := own_sl ho; clear ho hb hg))
                all_goals
                  first | go_wp2_with fail | skip
                  go_roundw
                  case rel =>
                    refine ⟨k + 1, by omega, by go_num, hid ?_, hid ?_, hid ?_⟩
                    · rw [HQ.out, List.flatMap_append, List.length_append]
                      exact (by simpa [encFr] using HG.out.1)
                    · rw [HQ.out]
                      exact P5.out
                    · exact T3.out.trans' ((Touch.refl (fun j => (Value.slice ai (refQ s k).1.length ci).ownBlock = some j) W3).drew1.trans (Touch.grown (F := fun j => (Value.slice ai (refQ s k).1.length ci).ownBlock = some j) HG.out.2.2.1 (fun _ g => g))) (fun i hi hf => absurd (FO.out.lt i hf).1 (by omega))
                  case measure => simp [RowKit.intOf]; omega
            · have HQ := hid (HSK.out (by rintro ⟨_, _, g | g⟩ <;> omega))
              clear HSK HSE hgo hog
              go_wp2_with fail
              go_roundw
              case rel => exact ⟨k + 1, by omega, by go_num, hid (by rw [HQ.out]; exact FO.out), hid (by rw [HQ.out]; exact PO.out), TO⟩
              case measure => simp [RowKit.intOf]; omega
        · have HQ := hid (HSK.out (by rintro ⟨_, g, _⟩; omega))
          clear HSK HSE hgo hog
          go_wp2_with fail
          go_roundw
          case rel => exact ⟨k + 1, by omega, by go_num, hid (by rw [HQ.out]; exact FO.out), hid (by rw [HQ.out]; exact PO.out), TO⟩
          case measure => simp [RowKit.intOf]; omega
      · have HQ := hid (HSK.out (by rintro ⟨g, _⟩; omega))
        clear HSK HSE hgo hog
        go_wp2_with fail
        go_roundw
        case rel => exact ⟨k + 1, by omega, by go_num, hid (by rw [HQ.out]; exact FO.out), hid (by rw [HQ.out]; exact PO.out), TO⟩
        case measure => simp [RowKit.intOf]; omega
    · obtain rfl : k = N := by omega
      have hnl : ¬ ((k : Int) < (k : Int)) := by omega
      have x0 := PO.out.blk.cell (i := 0) rfl
      have x1 := PO.out.blk.cell (i := 1) rfl
      have x6 := PO.out.blk.cell (i := 6) rfl
      have x8 := PO.out.blk.cell (i := 8) rfl
      have xf := PO.out.blk.free
      simp only at x0 x1 x6 x8
      generalize refQ s k = q at *
      obtain ⟨fq, sq⟩ := q
      simp only at FO PO HF0 HS0
      have HBW := hid (show B < w.heap.size from H.out.blk.lt)
      have HNG := hid (show (Value.slice ai fq.length ci).ownBlock ≠ some B from fun e => by have h1 : w.heap.size ≤ B := (FO.out.lt _ e).1; have h2 := HBW.out; omega)
      have HPUT := hid (fun wx b (h : REB wx base B ⟨.slice ao k co, .slice a4 k cs, .slice ac s.came.length cc, M⟩ { s with sent := sq }) => h.put (s' := { s with sent := sq, owed := b }) 8 (.bool b) rfl rfl rfl rfl rfl rfl)
      cases how : s.owed with
      | false =>
        have HFR := hid (show FR = fq from by rw [HF0.out, if_neg (by rw [how]; simp)])
        have HSR := hid (show SR = { s with sent := sq, owed := false } from by rw [HS0.out, how]; rfl)
        rw [how] at x8
        clear how
        go_wp2_with fail
        go_ret
        rw [HFR.out, HSR.out]
        exact ⟨_, rfl, ownsRow_setCell_other (a := ⟨B, 8, none⟩) FO.out HNG.out (.bool false), _, HPUT.out wr false PO.out, TO.out.put (a := ⟨B, 8, none⟩) (.inl rfl) (.bool false), fun _ hk => .inl hk⟩
      | true =>
        rw [how] at x8
        rcases Classical.em (fq = []) with hfq | hfq
        · subst hfq
          have HFR := hid (show FR = [⟨s.me, s.other, 0, s.came.length, ByteArray.empty⟩] from by rw [HF0.out, if_pos ⟨how, rfl⟩])
          have HSR := hid (show SR = { s with sent := sq, owed := false } from by rw [HS0.out, HFR.out]; simp)
          have z0 : wr.drew.cell? ⟨B, 0, none⟩ = some (.int .i64 s.me) := x0
          have z1 : wr.drew.cell? ⟨B, 1, none⟩ = some (.int .i64 s.other) := x1
          have z6 : wr.drew.cell? ⟨B, 6, none⟩ = some (.slice ac s.came.length cc) := x6
          have n0 := fun o => cell_alloc o z0
          have n1 := fun o => cell_alloc o z1
          have n6 := fun o => cell_alloc o z6
          have hbe := Below.alloc (Below.refl wr.heap.size wr) (Nat.le_refl _) (.cells #[.int .i64 s.me, .int .i64 s.other, .int .i64 0, .int .i64 s.came.length, .string ⟨#[]⟩] 31)
          have hrow : (wr.alloc (.cells #[.int .i64 s.me, .int .i64 s.other, .int .i64 0, .int .i64 s.came.length, .string ⟨#[]⟩] 31)).ownsRow w.heap.size 31 5 (.slice (some ⟨wr.heap.size, 0, none⟩) 1 1) 1 (encFr ⟨s.me, s.other, 0, s.came.length, ByteArray.empty⟩) := ⟨rfl, .inr ⟨_, 1, _, rfl, TO.out.size, Blk.new wr _ _ _ rfl, Nat.le_refl _, by decide, rfl, rfl⟩⟩
          have HROW := hid hrow
          have HBE := hid hbe
          have PA := hid (PO.out.below hbe)
          have p8 : (wr.alloc (.cells #[.int .i64 s.me, .int .i64 s.other, .int .i64 0, .int .i64 s.came.length, .string ⟨#[]⟩] 31)).drew.cell? ⟨B, 8, none⟩ = some (.bool s.owed) := PA.out.blk.cell (i := 8) rfl
          have pf : ∀ i, (wr.alloc (.cells #[.int .i64 s.me, .int .i64 s.other, .int .i64 0, .int .i64 s.came.length, .string ⟨#[]⟩] 31)).drew.frozen? ⟨B, i, none⟩ = false := PA.out.blk.free
          rw [how] at p8
          have hNB : ¬ (wr.heap.size = B) := by have := HBW.out; have := TO.out.size; omega
          clear how hrow hbe
          go_wp2_with fail
          go_region_held3 (fun w' => w'.cell? ⟨B, 0, none⟩ = some (.int .i64 s.me) ∧ w'.cell? ⟨B, 1, none⟩ = some (.int .i64 s.other) ∧ w'.cell? ⟨B, 6, none⟩ = some (.slice ac s.came.length cc)) (first | exact ⟨z0, z1, z6⟩ | exact ⟨n0 _, n1 _, n6 _⟩ | go_keep) (fail)
          all_goals
            go_wp2_with fail
            go_ret
            rw [HFR.out, HSR.out]
            have TA := hid ((TO.out.trans (Touch.of_below HBE.out)).drew1.put (a := ⟨B, 8, none⟩) (.inl rfl) (.bool false))
            exact ⟨_, rfl, ownsRow_setCell_other (a := ⟨B, 8, none⟩) HROW.out (fun e => hNB (by simpa [Value.ownBlock] using e)) (.bool false), _, HPUT.out _ false (PA.out.part.drew1).holds, TA.out, fun _ hk => .inl hk⟩
        · have HFR := hid (show FR = fq from by rw [HF0.out, if_neg (fun g => hfq g.2)])
          have HSR := hid (show SR = { s with sent := sq, owed := false } from by rw [HS0.out, HFR.out]; simp [hfq])
          have hl1 : 0 < fq.length := List.length_pos_iff.2 hfq
          have hne0 : ((fq.length : Int) == 0) = false := beq_eq_false_iff_ne.2 (by omega)
          clear hfq how
          go_wp2_with fail
          go_ret
          rw [HFR.out, HSR.out]
          exact ⟨_, rfl, ownsRow_setCell_other (a := ⟨B, 8, none⟩) FO.out HNG.out (.bool false), _, HPUT.out wr false PO.out, TO.out.put (a := ⟨B, 8, none⟩) (.inl rfl) (.bool false), fun _ hk => .inl hk⟩
end Go.Proofs.Ytalookaaogiinaa
