/-
  BODIES: the reference's all, NestMatch and NestCheck. Condition: the library's variable that strings.Contains reads holds some number.
-/
import Derived.Test.YtakfineljffoaaaGreatDoorGFoldSays47
namespace Go.Proofs.YtakfineljffoaaaGreatDoor
open Go.RowKit Go.Lib
attribute [local go_sem ↓] Go.wp_at_zero Go.wp_at_succ

theorem own_ne_blk {w : World} {base : Nat} {e f : TypeId} {v : Value} {n : Nat} {xs cs : List Value} {M : Nat} (h : w.ownsRow base e 1 v n xs) (hb : Blk w M f cs) (hne : e ≠ f) : v.ownBlock ≠ some M := by
  obtain ⟨_, h2⟩ := h
  rcases h2 with ⟨rfl, _⟩ | ⟨g, cap, cur, rfl, _, hh, _⟩
  · simp [Value.ownBlock]
  · intro he
    have hg : g = M := by simpa [Value.ownBlock] using he
    subst hg
    have hb2 : Blk w g e cur.toList := hh
    exact blk_diff hb2 hb hne rfl
theorem own_repl {w : World} {base k : Nat} {v : Value} (h : w.ownsRow base 3 1 v (k + 1) ((List.replicate k (-1)).map (Value.int .i64) ++ [.int .i64 (-1)])) : OwnI w base .i64 3 v (List.replicate (k + 1) (-1)) := by
  show World.ownsRow _ _ _ _ _ (List.replicate (k + 1) (-1)).length ((List.replicate (k + 1) (-1)).map _)
  rw [List.length_replicate, List.replicate_succ', List.map_append]
  exact h
theorem at_blk {w : World} {b : Nat} {ty : TypeId} {cs : List Value} (h : Blk w b ty cs) : At w b 0 cs := fun j hj => by
  rw [Nat.zero_add]
  exact h.cell (List.getElem?_eq_getElem hj)
theorem fresh_ne {w : World} {v v' u : Value} (h : Fresh w v v') (j : Nat) (hj : v'.ownBlock = some j) (_hu : u.ownBlock = some j) (h1 : v.ownBlock = some j → False) (h2 : j < w.heap.size) : False := by
  rcases h with h | ⟨k, h, hk⟩
  · rw [h] at hj; exact h1 hj
  · rw [h] at hj
    injection hj with hj
    omega
set_option maxRecDepth 100000 in
set_option maxHeartbeats 1000000 in
theorem rseq_nil (w : World) (M : Nat) (ao : Option Addr) (cap : Nat) (va vb : Value) (hblk : Blk w M 158 [.slice ao 0 cap, va, vb]) :
    Calls Tryz.prog 139 #[.pointer (some ⟨M, 0, none⟩), .int .i64 0, .int .i64 0] w fun e w' => e = .returned (.tuple #[.int .i64 0, .int .i64 3]) ∧ w = w' := by
  have m0 := hblk.cell (i := 0) rfl
  clear hblk
  go_enter Tryz.func139, Tryz.ntmps139
  go_wp2_with fail
  go_loopw [1] (fun iv wr => iv = .int .i64 0 ∧ wr = w) (fun _ _ => 0)
  case atStart => exact ⟨rfl, rfl⟩
  case round =>
    obtain ⟨rfl, rfl⟩ := hrel
    go_wp2_with fail
    go_ret2
    exact ⟨rfl, rfl⟩
set_option maxRecDepth 100000 in
set_option maxHeartbeats 4000000 in
theorem rall_nil (w : World) (M : Nat) (ao : Option Addr) (cap : Nat) (hblk : Blk w M 158 [.slice ao 0 cap, .slice none 0 0, .slice none 0 0]) :
    Calls Tryz.prog 106 #[.pointer (some ⟨M, 0, none⟩)] w fun e w' => e = .returned (.int .i64 3) ∧ w = w' := by
  have HS := hid (rseq_nil w M ao cap _ _ hblk)
  have m0 := hblk.cell (i := 0) rfl
  clear hblk
  go_enter Tryz.func106, Tryz.ntmps106
  go_wp2_with fail
  go_loopw [11] (fun iv wr => iv = .int .i64 0 ∧ wr = w) (fun _ _ => 0)
  case atStart => exact ⟨rfl, rfl⟩
  case round =>
    obtain ⟨rfl, rfl⟩ := hrel
    go_wp2_with fail
    refine HS.out.mono ?_
    rintro r w1 ⟨rfl, rfl⟩
    go_wp2_with fail
    go_ret
    exact ⟨rfl, rfl⟩
set_option maxRecDepth 100000 in
set_option maxHeartbeats 4000000 in
theorem rall_any (W0 : World) (l : List It) (hok : ∀ x ∈ l, ItOk x) (h200 : l.length ≤ 200) (h0 : 0 < l.length) (hM : MaxL W0) (b off cap : Nat) (_hcap : l.length ≤ cap) (hrow : RowsAt W0 l b off) (w : World) (hb : Below W0.heap.size W0 w) (M : Nat)
    (hblk : Blk w M 158 [.slice (some ⟨b, off, none⟩) l.length cap, .slice none 0 0, .slice none 0 0]) (hbase : W0.heap.size ≤ M) (hq : ∀ E cE S cS, SeqC W0 l b off cap M E cE S cS 0) :
    Calls Tryz.prog 106 #[.pointer (some ⟨M, 0, none⟩)] w fun e w' => e = .returned (.int .i64 (allM itC It.op l).1) ∧ (∃ E cE S cS, MkB w' M W0.heap.size (.slice (some ⟨b, off, none⟩) l.length cap) E cE S cS l.length (allM itC It.op l).2) ∧ Below W0.heap.size W0 w' := by
  have HQ := hid hq
  generalize hfin : allM itC It.op l = fin at *
  have HA := hid hfin
  have HBK := hid hblk
  have HB0 := hid hb
  have HRW := hid hrow
  have HOK := hid hok
  have HMX := hid hM
  have m0 := hblk.cell (i := 0) rfl
  clear hblk hb hrow hok hM hq hfin
  go_enter Tryz.func106, Tryz.ntmps106
  go_wp2_with fail
  go_loopw [11] (fun iv wr => ∃ (k : Nat) (ve vs : Value), k ≤ l.length ∧ iv = .int .i64 k ∧ Hid (Blk wr M 158 [.slice (some ⟨b, off, none⟩) l.length cap, ve, vs]) ∧ Hid (OwnI wr W0.heap.size .i64 3 ve (List.replicate k (-1))) ∧ Hid (OwnI wr W0.heap.size .i64 3 vs (List.replicate k (-1))) ∧ Hid (∀ j, ve.ownBlock = some j → vs.ownBlock ≠ some j) ∧ Hid (Below W0.heap.size W0 wr)) (fun iv _ => l.length - (RowKit.intOf iv).toNat)
  case atStart => exact ⟨0, _, _, Nat.zero_le _, rfl, HBK, hid (OwnI.nil _ _ _ _), hid (OwnI.nil _ _ _ _), hid (fun j h => by simp [Value.ownBlock] at h), HB0⟩
  case round =>
    obtain ⟨k, ve, vs, hk, rfl, BK, PE, PS, NE, BB⟩ := hrel
    by_cases hlt : k < l.length
    · have hlt2 : (k : Int) < (l.length : Int) := by omega
      obtain ⟨ae, ce, rfl, _⟩ := own_sl PE.out
      obtain ⟨aq, cq, rfl, _⟩ := own_sl PS.out
      simp only [List.length_replicate] at *
      have hn : k + 1 ≤ 201 := by omega
      have HSB := hid BB.out.size
      have P1 := hid (show World.ownsRow (wr.alloc (.cells #[.int .i64 (-1)] 3)).drew W0.heap.size 3 1 (.slice ae k ce) k ((List.replicate k (-1)).map (Value.int .i64)) from by have := PE.out.alloc (.cells #[.int .i64 (-1)] 3); unfold OwnI at this; rw [List.length_replicate] at this; exact this)
      have P2 := hid (show World.ownsRow ((wr.alloc (.cells #[.int .i64 (-1)] 3)).alloc (.cells #[.int .i64 (-1)] 3)).drew W0.heap.size 3 1 (.slice ae k ce) k ((List.replicate k (-1)).map (Value.int .i64)) from P1.out.alloc (.cells #[.int .i64 (-1)] 3))
      have Q1 := hid (show World.ownsRow (wr.alloc (.cells #[.int .i64 (-1)] 3)).drew W0.heap.size 3 1 (.slice aq k cq) k ((List.replicate k (-1)).map (Value.int .i64)) from by have := PS.out.alloc (.cells #[.int .i64 (-1)] 3); rw [List.length_replicate] at this; exact this)
      have Q2 := hid (show World.ownsRow ((wr.alloc (.cells #[.int .i64 (-1)] 3)).alloc (.cells #[.int .i64 (-1)] 3)).drew W0.heap.size 3 1 (.slice aq k cq) k ((List.replicate k (-1)).map (Value.int .i64)) from Q1.out.alloc (.cells #[.int .i64 (-1)] 3))
      have mk1 := BK.out.cell (i := 1) rfl
      have mk2 := BK.out.cell (i := 2) rfl
      have mk1d : wr.drew.cell? ⟨M, 1, none⟩ = some (.slice ae k ce) := mk1
      have mk2d : wr.drew.cell? ⟨M, 2, none⟩ = some (.slice aq k cq) := mk2
      have mk1a := fun o => cell_alloc o mk1
      have mk2a := fun o => cell_alloc o mk2
      have mk1b := fun o oo => cell_alloc oo (mk1a o)
      have mk2b := fun o oo => cell_alloc oo (mk2a o)
      have NMA := hid (own_ne_blk PE.out BK.out (by decide))
      have NMB := hid (own_ne_blk PS.out BK.out (by decide))
      have LTA := hid (fun j hj => (World.ownsRow.lt PE.out j hj).2)
      have LTB := hid (fun j hj => (World.ownsRow.lt PS.out j hj).2)
      have BM1 := hid (show Blk (wr.alloc (.cells #[.int .i64 (-1)] 3)).drew M _ _ from BK.out.alloc _)
      have BM2 := hid (show Blk ((wr.alloc (.cells #[.int .i64 (-1)] 3)).alloc (.cells #[.int .i64 (-1)] 3)).drew M _ _ from (BK.out.alloc _).alloc _)
      have BA1 := hid (show Blk (wr.alloc (.cells #[.int .i64 (-1)] 3)).drew wr.heap.size 3 [.int .i64 (-1)] from Blk.new wr _ _ _ rfl)
      have BA2 := hid (show Blk ((wr.alloc (.cells #[.int .i64 (-1)] 3)).alloc (.cells #[.int .i64 (-1)] 3)).drew wr.heap.size 3 [.int .i64 (-1)] from (Blk.new wr _ _ _ rfl).alloc _)
      have BB2 := hid (show Blk ((wr.alloc (.cells #[.int .i64 (-1)] 3)).alloc (.cells #[.int .i64 (-1)] 3)).drew (wr.heap.size + 1) 3 [.int .i64 (-1)] from Blk.new (wr.alloc (.cells #[.int .i64 (-1)] 3)) _ _ _ (by simp))
      have BL1 := hid (show Below W0.heap.size W0 (wr.alloc (.cells #[.int .i64 (-1)] 3)).drew from drew_bel' (n := 1) (BB.out.alloc BB.out.size (.cells #[.int .i64 (-1)] 3)))
      have BL2 := hid (show Below W0.heap.size W0 ((wr.alloc (.cells #[.int .i64 (-1)] 3)).alloc (.cells #[.int .i64 (-1)] 3)).drew from drew_bel' (n := 1) ((BB.out.alloc BB.out.size (.cells #[.int .i64 (-1)] 3)).alloc (Nat.le_trans BB.out.size (by simp)) (.cells #[.int .i64 (-1)] 3)))
      go_wp2_with fail
      go_region_law (first | (have hfst := FSTB; refine step_one elem_intv (base := W0.heap.size) (v := (Value.slice ae k ce)) (n := k) (xs := ((List.replicate k (-1)).map (Value.int .i64))) (cs := [.int .i64 (-1)]) (by rfl) _ _ (by rfl) (by rfl) (by rfl) (by first | exact at_blk AT4a.out | exact at_blk AT4b.out | exact at_blk (Blk.new w4 _ _ _ rfl)) (by first | exact OA4.out | exact OA4.out.alloc _) (by rfl) (by intro c hc; simp at hc; subst hc; rfl) (by omega) (by omega) (by first | exact BL4.out.size | exact (BL4.out.alloc BL4.out.size _).size) ?_; intro v5 w5 ho hb hg; have OA5 := hid ho; obtain ⟨a5, c5, rfl, _⟩ := own_sl ho; have TG5 := hid (Touch.grown (F := fun j => ((Value.slice ae k ce)).ownBlock = some j) hg.1 (fun j e => e)); have OB5 := hid (own_touch (by first | exact OB4.out | exact OB4.out.alloc _) TG5.out (fun j hj hf => NE4.out j hj hf)); have BM5 := hid (Blk.touch (by first | exact BM4.out | exact BM4.out.alloc _) TG5.out NMA.out); have NE5 := hid (fun j (hj : (Value.slice a5 (k + 1) c5).ownBlock = some j) (hj2 : (Value.slice a4 (k + 1) c4).ownBlock = some j) => fresh_ne hg.2 j hj hj2 (fun h1 => NE4.out j hj2 h1) (by have := (World.ownsRow.lt OB4.out j hj2).2; simp; omega)); have BL5 := hid (Below.trans (by first | exact BL4.out | exact BL4.out.alloc BL4.out.size _) hb); have y1 := BM5.out.cell (i := 1) rfl; have y2 := BM5.out.cell (i := 2) rfl; have yf := BM5.out.free; clear ho hb hg) | (have hfst := FSTA; refine step_one elem_intv (base := W0.heap.size) (v := (Value.slice aq k cq)) (n := k) (xs := ((List.replicate k (-1)).map (Value.int .i64))) (cs := [.int .i64 (-1)]) (by rfl) _ _ (by rfl) (by rfl) (by rfl) (by first | exact at_blk AT4a.out | exact at_blk AT4b.out | exact at_blk (Blk.new w4 _ _ _ rfl)) (by first | exact OB4.out | exact OB4.out.alloc _) (by rfl) (by intro c hc; simp at hc; subst hc; rfl) (by omega) (by omega) (by first | exact BL4.out.size | exact (BL4.out.alloc BL4.out.size _).size) ?_; intro v5 w5 ho hb hg; have OB5 := hid ho; obtain ⟨a5, c5, rfl, _⟩ := own_sl ho; have TG5 := hid (Touch.grown (F := fun j => ((Value.slice aq k cq)).ownBlock = some j) hg.1 (fun j e => e)); have OA5 := hid (own_touch (by first | exact OA4.out | exact OA4.out.alloc _) TG5.out (fun j hj hf => NE4.out j hj hf)); have BM5 := hid (Blk.touch (by first | exact BM4.out | exact BM4.out.alloc _) TG5.out NMB.out); have NE5 := hid (fun j (hj : (Value.slice a5 (k + 1) c5).ownBlock = some j) (hj2 : (Value.slice a4 (k + 1) c4).ownBlock = some j) => fresh_ne hg.2 j hj hj2 (fun h1 => NE4.out j hj2 h1) (by have := (World.ownsRow.lt OA4.out j hj2).2; simp; omega)); have BL5 := hid (Below.trans (by first | exact BL4.out | exact BL4.out.alloc BL4.out.size _) hb); have y1 := BM5.out.cell (i := 1) rfl; have y2 := BM5.out.cell (i := 2) rfl; have yf := BM5.out.free; clear ho hb hg) | (refine step_one elem_intv (base := W0.heap.size) (v := (Value.slice ae k ce)) (n := k) (xs := ((List.replicate k (-1)).map (Value.int .i64))) (cs := [.int .i64 (-1)]) (by rfl) _ _ (by rfl) (by rfl) (by rfl) (by first | exact at_blk BA1.out | exact at_blk BA2.out | exact at_blk BB2.out) (by first | exact P1.out | exact P2.out) (by rfl) (by intro c hc; simp at hc; subst hc; rfl) (by omega) (by omega) (by first | exact BL1.out.size | exact BL2.out.size) ?_; intro v4 w4 ho hb hg; have OA4 := hid ho; obtain ⟨a4, c4, rfl, _⟩ := own_sl ho; have TG4 := hid (Touch.grown (F := fun j => ((Value.slice ae k ce)).ownBlock = some j) hg.1 (fun j e => e)); have OB4 := hid (own_touch (by first | exact Q1.out | exact Q2.out) TG4.out (fun j hj hf => NE.out j hf hj)); have BM4 := hid (Blk.touch (by first | exact BM1.out | exact BM2.out) TG4.out NMA.out); have NE4 := hid (fun j (hj : (Value.slice a4 (k + 1) c4).ownBlock = some j) (hj2 : ((Value.slice aq k cq)).ownBlock = some j) => fresh_ne hg.2 j hj hj2 (fun h1 => by have h2 := hj2; exact NE.out j h1 h2) (by have := LTB.out j hj2; simp; omega)); have BL4 := hid (Below.trans (by first | exact BL1.out | exact BL2.out) hb); have AT4a := hid (Blk.touch (by first | exact BA1.out | exact BA2.out) TG4.out (fun h => by have := LTA.out _ h; omega)); (try have AT4b := hid (Blk.touch BB2.out TG4.out (fun h => by have := LTA.out _ h; omega))); have FSTA := hid True.intro; have z1 := BM4.out.cell (i := 1) rfl; have z2 := BM4.out.cell (i := 2) rfl; have zf := BM4.out.free; have z1a := fun o => cell_alloc o z1; have z2a := fun o => cell_alloc o z2; clear ho hb hg) | (refine step_one elem_intv (base := W0.heap.size) (v := (Value.slice aq k cq)) (n := k) (xs := ((List.replicate k (-1)).map (Value.int .i64))) (cs := [.int .i64 (-1)]) (by rfl) _ _ (by rfl) (by rfl) (by rfl) (by first | exact at_blk BA1.out | exact at_blk BA2.out | exact at_blk BB2.out) (by first | exact Q1.out | exact Q2.out) (by rfl) (by intro c hc; simp at hc; subst hc; rfl) (by omega) (by omega) (by first | exact BL1.out.size | exact BL2.out.size) ?_; intro v4 w4 ho hb hg; have OB4 := hid ho; obtain ⟨a4, c4, rfl, _⟩ := own_sl ho; have TG4 := hid (Touch.grown (F := fun j => ((Value.slice aq k cq)).ownBlock = some j) hg.1 (fun j e => e)); have OA4 := hid (own_touch (by first | exact P1.out | exact P2.out) TG4.out (fun j hj hf => NE.out j hj hf)); have BM4 := hid (Blk.touch (by first | exact BM1.out | exact BM2.out) TG4.out NMB.out); have NE4 := hid (fun j (hj : (Value.slice a4 (k + 1) c4).ownBlock = some j) (hj2 : ((Value.slice ae k ce)).ownBlock = some j) => fresh_ne hg.2 j hj hj2 (fun h1 => by have h2 := hj2; exact NE.out j h2 h1) (by have := LTA.out j hj2; simp; omega)); have BL4 := hid (Below.trans (by first | exact BL1.out | exact BL2.out) hb); have AT4a := hid (Blk.touch (by first | exact BA1.out | exact BA2.out) TG4.out (fun h => by have := LTB.out _ h; omega)); (try have AT4b := hid (Blk.touch BB2.out TG4.out (fun h => by have := LTB.out _ h; omega))); have FSTB := hid True.intro; have z1 := BM4.out.cell (i := 1) rfl; have z2 := BM4.out.cell (i := 2) rfl; have zf := BM4.out.free; have z1a := fun o => cell_alloc o z1; have z2a := fun o => cell_alloc o z2; clear ho hb hg))
      all_goals
        go_wp2_with fail
        go_roundw
        case rel =>
          first
            | exact ⟨k + 1, .slice a4 (k + 1) c4, .slice a5 (k + 1) c5, by omega, by go_num, hid ((BM5.out.set 1 _).set 2 _), hid (own_repl ((KT.set (BM5.out.set 1 _) _ (i := 2)).own ((KT.set BM5.out _ (i := 1)).own OA5.out rfl) rfl)), hid (own_repl ((KT.set (BM5.out.set 1 _) _ (i := 2)).own ((KT.set BM5.out _ (i := 1)).own OB5.out rfl) rfl)), hid (fun j h h2 => NE5.out j h2 h), hid ((BL5.out.setCell hbase _).setCell hbase _)⟩
            | exact ⟨k + 1, .slice a5 (k + 1) c5, .slice a4 (k + 1) c4, by omega, by go_num, hid ((BM5.out.set 1 _).set 2 _), hid (own_repl ((KT.set (BM5.out.set 1 _) _ (i := 2)).own ((KT.set BM5.out _ (i := 1)).own OA5.out rfl) rfl)), hid (own_repl ((KT.set (BM5.out.set 1 _) _ (i := 2)).own ((KT.set BM5.out _ (i := 1)).own OB5.out rfl) rfl)), hid (fun j h h2 => NE5.out j h h2), hid ((BL5.out.setCell hbase _).setCell hbase _)⟩
        case measure => simp [RowKit.intOf]; omega
    · obtain rfl : k = l.length := by omega
      have hlt2 : ¬ ((l.length : Int) < (l.length : Int)) := by omega
      obtain ⟨E, cE, rfl, hE1, _, -, _, _, _, _⟩ := PE.out.at (n := l.length) (by simp) h0
      obtain ⟨S, cS, rfl, hS1, _, -, _, _, _, _⟩ := PS.out.at (n := l.length) (by simp) h0
      have KM := hid (show MkB wr M W0.heap.size (.slice (some ⟨b, off, none⟩) l.length cap) E cE S cS l.length (List.replicate l.length (-1), List.replicate l.length (-1)) from ⟨BK.out, PE.out, PS.out, ⟨by simp, by simp⟩, fun e => NE.out E rfl (by rw [e]; rfl)⟩)
      have HI := hid (show Calls _ _ #[.pointer (some ⟨M, 0, none⟩), .int .i64 0, .int .i64 0] _ _ from HQ.out E cE S cS l.length 0 (List.replicate l.length (-1), List.replicate l.length (-1)) wr (by omega) (by omega) BB.out KM.out)
      have hok1 := seq_ok l l.length 0 0 (List.replicate l.length (-1), List.replicate l.length (-1)) (by omega) (by omega)
      have hA := HA.out
      unfold allM at hA
      generalize seqM itC It.op l l.length 0 0 (List.replicate l.length (-1), List.replicate l.length (-1)) = r1 at *
      obtain ⟨j, e1, m1⟩ := r1
      simp only at HI hok1 hA
      have HO := hid hok1
      have HA1 := hid hA
      clear hok1 hA hE1 hS1
      go_wp2_with fail
      refine HI.out.mono ?_
      rintro r w2 ⟨rfl, g1, g2, _⟩
      have K2 := hid g1
      have B2 := hid g2
      clear g1 g2 m0
      have m0 := K2.out.blk.cell (i := 0) rfl
      by_cases he : e1 = 0
      · obtain ⟨_, h2, h3⟩ := HO.out he
        have hA := HA1.out
        rw [if_neg (fun h => h he), opAt_get l j h2] at hA
        rw [opAt_get l j h2] at h3
        subst he
        have hj : (j : Int) < (l.length : Int) := by omega
        obtain ⟨au', cu', d0, -⟩ := HRW.out w2 B2.out j h2
        generalize l[j].op = o1 at *
        have HJ := hid h2
        clear h2
        by_cases h5 : o1 = 5
        · rw [if_pos h5] at hA
          have HF2 := hid hA
          have f5 : ((o1 : Int) == 5) = true := by simp; omega
          clear hA h5 h3
          go_wp2_with fail
          go_ret
          rw [← HF2.out]
          exact ⟨rfl, ⟨_, _, _, _, K2.out⟩, B2.out⟩
        · rw [if_neg h5] at hA
          have f5 : ((o1 : Int) == 5) = false := by simp; omega
          clear h5 h3
          by_cases hl : j + 1 < l.length
          · have hx : l[j + 1]? = some l[j + 1] := List.getElem?_eq_getElem hl
            rw [hx] at hA
            simp only at hA
            clear hx
            have hxok := HOK.out l[j + 1] (List.getElem_mem hl)
            obtain ⟨au, cu, c0, c1, c2, c3, hto⟩ := HRW.out w2 B2.out (j + 1) hl
            generalize l[j + 1] = x at *
            obtain ⟨op, A, C, xs⟩ := x
            simp only at c0 c1 c2 c3 hto hxok
            have HC := hid (rchk_any op hxok.1 A C xs (.slice au xs.length cu) w2 (HMX.out.below B2.out) hto)
            rw [show itC ⟨op, A, C, xs⟩ = chkI (tB op) A C xs from rfl] at hA
            generalize chkI (tB op) A C xs = Q at *
            have hq1 : ((j : Int) == (l.length : Int) - 1) = false := by simp; omega
            have hq2 : (j : Int) + 1 < (l.length : Int) := by omega
            have HHA := hid hA
            clear hto hxok hA
            by_cases hQ : Q = 0
            · have HF2 := hid (by have := HHA.out; rw [if_neg (fun h => h hQ)] at this; exact this)
              subst hQ
              go_wp2_with fail
              refine HC.out.mono ?_
              rintro r w3 ⟨rfl, g1⟩
              have K3 := hid (K2.out.below g1)
              have B3 := hid (B2.out.trans (g1.mono B2.out.size))
              clear g1
              go_wp2_with fail
              go_ret
              rw [← HF2.out]
              exact ⟨rfl, ⟨_, _, _, _, K3.out⟩, B3.out⟩
            · have HF2 := hid (by have := HHA.out; rw [if_pos hQ] at this; exact this)
              have hQ2 : (Q != 0) = true := by simpa using hQ
              clear hQ
              go_wp2_with fail
              refine HC.out.mono ?_
              rintro r w3 ⟨rfl, g1⟩
              have K3 := hid (K2.out.below g1)
              have B3 := hid (B2.out.trans (g1.mono B2.out.size))
              clear g1
              go_wp2_with fail
              go_ret
              rw [← HF2.out]
              exact ⟨rfl, ⟨_, _, _, _, K3.out⟩, B3.out⟩
          · rw [List.getElem?_eq_none (by omega)] at hA
            have HF2 := hid hA
            have hq1 : ((j : Int) == (l.length : Int) - 1) = true := by have := HJ.out; simp; omega
            clear hA
            go_wp2_with fail
            go_ret
            rw [← HF2.out]
            exact ⟨rfl, ⟨_, _, _, _, K2.out⟩, B2.out⟩
      · have HF2 := hid (by have := HA1.out; rw [if_pos he] at this; exact this)
        have he2 : (e1 != 0) = true := by simpa using he
        clear he
        go_wp2_with fail
        go_ret
        rw [← HF2.out]
        exact ⟨rfl, ⟨_, _, _, _, K2.out⟩, B2.out⟩
end Go.Proofs.YtakfineljffoaaaGreatDoor
