/-
  BODIES: the reference's seq. Conditions: the library's variable that strings.Contains reads holds some number.
-/
import Derived.Test.YtakfineljffoaaaGreatDoorGFoldSays47
import Derived.BigRegion
namespace Go.Proofs.YtakfineljffoaaaGreatDoor
open Go.RowKit Go.Lib
attribute [local go_sem ↓] Go.wp_at_zero Go.wp_at_succ

set_option maxRecDepth 100000 in
set_option maxHeartbeats 8000000 in
theorem rseq_step (W0 : World) (l : List It) (hok : ∀ x ∈ l, ItOk x) (h200 : l.length ≤ 200) (hM : MaxL W0) (b off cap : Nat) (_hcap : l.length ≤ cap) (M E cE S cS : Nat)
  (hrow : RowsAt W0 l b off) (deep : Nat) (hd : deep ≤ 12) (ih : deep < 12 → SeqC W0 l b off cap M E cE S cS (deep + 1)) : SeqC W0 l b off cap M E cE S cS deep := by
 have HOK := hid hok
 have HRW := hid hrow
 have HMX := hid hM
 clear hok hrow hM
 intro f i m w hf hi hB hK
 have IH := hid ih
 clear ih
 have HF0 := hid (show seqM itC It.op l f deep i m = seqM itC It.op l f deep i m from rfl)
 have K0 := hid hK
 have B0 := hid hB
 have HFU := hid hf
 generalize hfin : seqM itC It.op l f deep i m = fin at *
 have HF1 := hid hfin
 clear HF0 hK hB hf hfin
 go_enter Tryz.func139, Tryz.ntmps139
 go_wp2_with fail
 go_loopw [1] (fun iv wr => ∃ (k f : Nat) (m : AB), k ≤ l.length ∧ iv = .int .i64 k ∧ Hid (l.length ≤ k + f) ∧ Hid (MkB wr M W0.heap.size (.slice (some ⟨b, off, none⟩) l.length cap) E cE S cS l.length m) ∧ Hid (Below W0.heap.size W0 wr) ∧ Hid (ToM E S w wr) ∧ Hid (seqM itC It.op l f deep k m = fin)) (fun iv _ => l.length - (RowKit.intOf iv).toNat)
 case atStart => exact ⟨i, f, m, hi, rfl, HFU, K0, B0, hid (Touch.refl _ _), HF1⟩
 case round =>
  obtain ⟨k, f, m, hk, rfl, HFU, KK, BB, TT, HF⟩ := hrel
  have mc0 := KK.out.blk.cell (i := 0) rfl
  by_cases hlt : k < l.length
  ·obtain ⟨f, rfl⟩ : ∃ f', f = f' + 1 := ⟨f - 1, by have := HFU.out; omega⟩
   have hlt2 : (k : Int) < (l.length : Int) := by omega
   obtain ⟨au, cu, c0, c1, c2, c3, hto⟩ := HRW.out wr BB.out k hlt
   have hx : l[k]? = some l[k] := List.getElem?_eq_getElem hlt
   have hxok := HOK.out l[k] (List.getElem_mem hlt)
   have HFS := HF.out
   rw [seqM, hx] at HFS
   simp only at HFS
   clear hx
   generalize l[k] = x at *
   obtain ⟨op, A, C, xs⟩ := x
   simp only at c0 c1 c2 c3 hto HFS
   obtain ⟨hop, hA⟩ := hxok
   simp only at hop hA
   have X2 := hid (Blk.new wr #[.int .u8 op, .int .i64 A, .int .i64 C, .slice au xs.length cu] 97 _ rfl)
   have K2 := hid (KK.out.below (Below.alloc (Below.refl _ _) (Nat.le_refl _) (.cells #[.int .u8 op, .int .i64 A, .int .i64 C, .slice au xs.length cu] 97)))
   have B2 := hid (BB.out.alloc BB.out.size (.cells #[.int .u8 op, .int .i64 A, .int .i64 C, .slice au xs.length cu] 97))
   have T2 := hid (TT.out.alloc (.cells #[.int .u8 op, .int .i64 A, .int .i64 C, .slice au xs.length cu] 97))
   have HC := hid (rchk_any op hop A C xs (.slice au xs.length cu) (wr.alloc (.cells #[.int .u8 op, .int .i64 A, .int .i64 C, .slice au xs.length cu] 97)) (HMX.out.below B2.out) (L1.below hto (Below.alloc (Below.refl _ _) (Nat.le_refl _) _)))
   rw [show itC ⟨op, A, C, xs⟩ = chkI (tB op) A C xs from rfl] at HFS
   generalize chkI (tB op) A C xs = Q at *
   have x0 := X2.out.cell (i := 0) rfl
   have x1 := X2.out.cell (i := 1) rfl
   have x2 := X2.out.cell (i := 2) rfl
   have x3 := X2.out.cell (i := 3) rfl
   have HXE : Hid (wr.heap.size ≠ E ∧ wr.heap.size ≠ S) := hid (by
    have a1 := (KK.out.en.typ KK.out.len.1 (by omega)).2.2
    have a2 := (KK.out.el.typ KK.out.len.2 (by omega)).2.2
    omega)
   clear hto
   by_cases hQ : Q = 0
   ·subst hQ
    rw [if_neg (fun h => h rfl)] at HFS
    have HFQ := hid HFS
    clear HFS
    go_wp2_with fail
    refine HC.out.mono ?_
    rintro r w3 ⟨rfl, g1⟩
    have X3 := hid (X2.out.below g1)
    have K3 := hid (K2.out.below g1)
    have B3 := hid (B2.out.trans (g1.mono B2.out.size))
    have T3 := hid (T2.out.trans (Touch.of_below g1))
    clear g1 x0 x1 x2 x3
    have x0 := X3.out.cell (i := 0) rfl
    by_cases h511 : op = 5 ∨ op = 11
    ·have HF2 := hid (by have := HFQ.out; rw [if_pos h511] at this; exact this)
     have hs : ((op : Int) == 5) = true ∨ ((op : Int) == 5) = false ∧ ((op : Int) == 11) = true := by rcases h511 with rfl | rfl <;> simp
     clear h511
     rcases hs with e5 | ⟨e5, e11⟩
     all_goals
      go_wp2_with fail
      go_ret2
      rw [← HF2.out]
      exact ⟨rfl, K3.out, B3.out, T3.out⟩
    ·have HFR := hid (by have := HFQ.out; rw [if_neg h511] at this; exact this)
     have e5 : ((op : Int) == 5) = false := by simp; omega
     have e11 : ((op : Int) == 11) = false := by simp; omega
     clear HFQ
     by_cases hb24 : op < 2 ∨ 4 < op
     ·have HF2 := hid (by have := HFR.out; rw [if_pos hb24] at this; exact this)
      have hs : ((op : Int) < 2) ∨ ¬ ((op : Int) < 2) ∧ ((4 : Int) < op) := by omega
      clear hb24 h511
      rcases hs with e2 | ⟨e2, e4⟩
      all_goals
       go_wp2_with fail
       go_roundw
       case rel => exact ⟨k + 1, f, m, by omega, by go_num, hid (by have := HFU.out; omega), K3, B3, T3, HF2⟩
       case measure => simp [RowKit.intOf]; omega
     ·have HFR2 := hid (by have := HFR.out; rw [if_neg hb24] at this; exact this)
      have e2 : ¬ ((op : Int) < 2) := by omega
      have e4 : ¬ ((4 : Int) < op) := by omega
      clear HFR hb24 h511
      by_cases hd12 : deep = 12
      ·have hd1 : ((deep : Int) == 12) = true := by simp; omega
       have HF2 := hid (by have := HFR2.out; rw [if_pos hd12] at this; exact this)
       clear hd12 HFR2
       go_wp2_with fail
       go_ret2
       rw [← HF2.out]
       exact ⟨rfl, K3.out, B3.out, T3.out⟩
      ·have hde : deep < 12 := by omega
       have hd1 : ((deep : Int) == 12) = false := by simp; omega
       have HFT := hid (by have := HFR2.out; rw [if_neg hd12] at this; exact this)
       have HI := hid (show Calls _ _ #[.pointer (some ⟨M, 0, none⟩), .int .i64 ((k : Int) + 1), .int .i64 ((deep : Int) + 1)] _ _ from IH.out hde f (k + 1) m w3 (by have := HFU.out; omega) (by omega) B3.out K3.out)
       have hok1 := seq_ok l f (deep + 1) (k + 1) m (by have := HFU.out; omega) (by omega)
       clear hd12 HFR2
       generalize seqM itC It.op l f (deep + 1) (k + 1) m = r1 at *
       obtain ⟨j1, e1, m1⟩ := r1
       simp only at HI HFT hok1
       have HO1 := hid hok1
       clear hok1
       go_wp2_with fail
       refine HI.out.mono ?_
       rintro r w4 ⟨rfl, g1, g2, g3⟩
       have K4 := hid g1
       have B4 := hid g2
       have T4 := hid (T3.out.trans g3)
       have X4 := hid (X3.out.touch g3 (fun hf => by rcases hf with hf | hf; exact HXE.out.1 hf; exact HXE.out.2 hf))
       clear g1 g2 g3 x0 mc0 c0 c1 c2 c3
       have x0 := X4.out.cell (i := 0) rfl
       have mc0 := K4.out.blk.cell (i := 0) rfl
       by_cases he : e1 = 0
       ·obtain ⟨h1, h2, h3⟩ := HO1.out he
        subst he
        have hj1 : (j1 : Int) < (l.length : Int) := by omega
        obtain ⟨au', cu', d0, -⟩ := HRW.out w4 B4.out j1 h2
        rw [opAt_get l j1 h2] at HFT h3
        generalize l[j1].op = o1 at *
        have HJ1 := hid (And.intro h1 h2)
        clear h1 h2
        by_cases h5 : o1 = 5
        ·have f5 : ((o1 : Int) == 5) = true := by simp; omega
         by_cases h4 : op = 4
         ·have f4 : ((op : Int) == 4) = true := by simp; omega
          have HFV := hid (by have := HFT.out; rw [if_pos ⟨rfl, h5, h4⟩] at this; exact this)
          have HI2 := hid (show Calls _ _ #[.pointer (some ⟨M, 0, none⟩), .int .i64 ((j1 : Int) + 1), .int .i64 ((deep : Int) + 1)] _ _ from IH.out hde f (j1 + 1) m1 w4 (by have := HFU.out; have := HJ1.out; omega) (by have := HJ1.out; omega) B4.out K4.out)
          have hok2 := seq_ok l f (deep + 1) (j1 + 1) m1 (by have := HFU.out; have := HJ1.out; omega) (by omega)
          clear h5 h4 h3 HFT
          generalize seqM itC It.op l f (deep + 1) (j1 + 1) m1 = r2 at *
          obtain ⟨j2, e2, m2⟩ := r2
          simp only at HI2 HFV hok2
          have HO2 := hid hok2
          clear hok2
          go_wp2_with fail
          refine HI2.out.mono ?_
          rintro r w5 ⟨rfl, g1, g2, g3⟩
          have K5 := hid g1
          have B5 := hid g2
          have T5 := hid (T4.out.trans g3)
          clear g1 g2 g3 x0 mc0 d0
          have mc0 := K5.out.blk.cell (i := 0) rfl
          by_cases he : e2 = 0
          ·obtain ⟨h1, h2, h3⟩ := HO2.out he
           subst he
           have hj2 : (j2 : Int) < (l.length : Int) := by omega
           obtain ⟨au', cu', d0, -⟩ := HRW.out w5 B5.out j2 h2
           rw [opAt_get l j2 h2] at HFV h3
           generalize l[j2].op = o2 at *
           have HJ2 := hid (And.intro h1 h2)
           clear h1 h2
           by_cases h5 : o2 = 5
           ·have g5 : ((o2 : Int) == 5) = true := by simp; omega
            have HF2 := hid (by have := HFV.out; rw [if_neg (fun h => h rfl), if_pos h5] at this; exact this)
            clear h5 h3
            go_wp2_with fail
            go_ret2
            rw [← HF2.out]
            exact ⟨rfl, K5.out, B5.out, T5.out⟩
           ·have g5 : ((o2 : Int) == 5) = false := by simp; omega
            have HF2 := hid (by have := HFV.out; rw [if_neg (fun h => h rfl), if_neg h5] at this; exact this)
            clear h5 h3
            have HKJ := hid (show k < j1 ∧ j1 < j2 ∧ j2 < l.length by have := HJ1.out; have := HJ2.out; omega)
            have n1 : ¬ (k = j2) := by have := HKJ.out; omega
            have n2 : ¬ (j2 = k) := fun e => n1 e.symm
            have n3 : ¬ (k = j1) := by have := HKJ.out; omega
            have n4 : ¬ (j1 = k) := fun e => n3 e.symm
            have hj1l : j1 < l.length := by have := HKJ.out; omega
            obtain ⟨ga, hga⟩ : ∃ ga, l.length = j2 + 1 + ga := ⟨l.length - (j2 + 1), by have := HKJ.out; omega⟩
            obtain ⟨gb, hgb⟩ : ∃ gb, j2 = k + 1 + gb := ⟨j2 - (k + 1), by have := HKJ.out; omega⟩
            have HGA := hid hga
            have HGB := hid hgb
            clear hga hgb
            obtain ⟨v0, t0, tf⟩ := K5.out.en.at2 K5.out.len.1 k hlt
            obtain ⟨v1, t1, _⟩ := K5.out.en.at2 K5.out.len.1 j2 HKJ.out.2.2
            have K6 := hid (K5.out.putE k (j2 : Int) hlt)
            have K7 := hid (K6.out.putE j2 (k : Int) HKJ.out.2.2)
            have HEB := hid (K5.out.en.typ K5.out.len.1 (by have := HKJ.out; omega)).2.1
            have HSB := hid (K5.out.el.typ K5.out.len.2 (by have := HKJ.out; omega)).2.1
            have B7 := hid (show Below W0.heap.size W0 ((w5.setCell ⟨E, k, none⟩ (.int .i64 (j2 : Int))).setCell ⟨E, j2, none⟩ (.int .i64 (k : Int))) from (B5.out.setCell HEB.out _).setCell HEB.out _)
            have T7 := hid ((T5.out.trans (Touch.setCell (F := fun j => j = E ∨ j = S) (a := ⟨E, k, none⟩) (Or.inl rfl) (.int .i64 (j2 : Int)))).trans (Touch.setCell (F := fun j => j = E ∨ j = S) (a := ⟨E, j2, none⟩) (Or.inl rfl) (.int .i64 (k : Int))))
            have mk1 := K5.out.blk.cell (i := 1) rfl
            have mk1d : w5.drew.cell? ⟨M, 1, none⟩ = some (.slice (some ⟨E, 0, none⟩) l.length cE) := mk1
            have t0d : w5.drew.cell? ⟨E, k, none⟩ = some v0 := t0
            have t1d : w5.drew.cell? ⟨E, j2, none⟩ = some v1 := t1
            have tfd : ∀ i, w5.drew.frozen? ⟨E, i, none⟩ = false := tf
            have K8 := hid K7.out.drew
            have B8 := hid (show Below W0.heap.size W0 ((w5.setCell ⟨E, k, none⟩ (.int .i64 (j2 : Int))).setCell ⟨E, j2, none⟩ (.int .i64 (k : Int))).drew from drew_bel' (n := 1) B7.out)
            have T8 := hid (show ToM E S w ((w5.setCell ⟨E, k, none⟩ (.int .i64 (j2 : Int))).setCell ⟨E, j2, none⟩ (.int .i64 (k : Int))).drew from T7.out.drew1)
            clear K6 K7 B7 T7
            go_wp2_with fail
            go_region
            all_goals
             clear t0 t1 tf t0d t1d tfd mk1 mk1d mc0 d0
             generalize ((w5.setCell ⟨E, k, none⟩ (.int .i64 (j2 : Int))).setCell ⟨E, j2, none⟩ (.int .i64 (k : Int))).drew = w6 at *
             obtain ⟨v0, t0, tf⟩ := K8.out.el.at2 K8.out.len.2 k hlt
             obtain ⟨v1, t1, _⟩ := K8.out.el.at2 K8.out.len.2 j1 hj1l
             obtain ⟨v2, t2, tf2⟩ := K8.out.en.at2 K8.out.len.1 j1 hj1l
             have hES : ¬ (E = S) := K8.out.ne
             have hSE : ¬ (S = E) := fun e => K8.out.ne e.symm
             have mk1 := K8.out.blk.cell (i := 1) rfl
             have mk2 := K8.out.blk.cell (i := 2) rfl
             have mk1d : w6.drew.cell? ⟨M, 1, none⟩ = some (.slice (some ⟨E, 0, none⟩) l.length cE) := mk1
             have mk2d : w6.drew.cell? ⟨M, 2, none⟩ = some (.slice (some ⟨S, 0, none⟩) l.length cS) := mk2
             have t0d : w6.drew.cell? ⟨S, k, none⟩ = some v0 := t0
             have t1d : w6.drew.cell? ⟨S, j1, none⟩ = some v1 := t1
             have t2d : w6.drew.cell? ⟨E, j1, none⟩ = some v2 := t2
             have tfd : ∀ i, w6.drew.frozen? ⟨S, i, none⟩ = false := tf
             have tf2d : ∀ i, w6.drew.frozen? ⟨E, i, none⟩ = false := tf2
             have KS1 := hid (K8.out.putS k (j1 : Int) hlt)
             have KS2 := hid (KS1.out.putS j1 (k : Int) hj1l)
             obtain ⟨v1', t1e, t1f⟩ := KS1.out.el.at2 KS1.out.len.2 j1 hj1l
             obtain ⟨v2', t2e, t2f⟩ := KS2.out.en.at2 KS2.out.len.1 j1 hj1l
             have t1ed : (w6.setCell ⟨S, k, none⟩ (.int .i64 (j1 : Int))).drew.cell? ⟨S, j1, none⟩ = some v1' := t1e
             have t2ed : ((w6.setCell ⟨S, k, none⟩ (.int .i64 (j1 : Int))).setCell ⟨S, j1, none⟩ (.int .i64 (k : Int))).drew.cell? ⟨E, j1, none⟩ = some v2' := t2e
             have K9 := hid (((K8.out.putS k (j1 : Int) hlt).putS j1 (k : Int) hj1l).putE j1 (j2 : Int) hj1l)
             have B9 := hid (show Below W0.heap.size W0 (((w6.setCell ⟨S, k, none⟩ (.int .i64 (j1 : Int))).setCell ⟨S, j1, none⟩ (.int .i64 (k : Int))).setCell ⟨E, j1, none⟩ (.int .i64 (j2 : Int))) from ((B8.out.setCell HSB.out _).setCell HSB.out _).setCell HEB.out _)
             have T9 := hid (((T8.out.trans (Touch.setCell (F := fun j => j = E ∨ j = S) (a := ⟨S, k, none⟩) (Or.inr rfl) (.int .i64 (j1 : Int)))).trans (Touch.setCell (F := fun j => j = E ∨ j = S) (a := ⟨S, j1, none⟩) (Or.inr rfl) (.int .i64 (k : Int)))).trans (Touch.setCell (F := fun j => j = E ∨ j = S) (a := ⟨E, j1, none⟩) (Or.inl rfl) (.int .i64 (j2 : Int))))
             go_wp2_with fail
             clear n1 n2 n3 n4 hj1 hj2 e2 e4 hd1
             go_region
             all_goals
              have hj2b : (j2 : Int) < (l.length : Int) := by have := HGA.out; omega
              go_wp2_with fail
              go_roundw
              case rel => exact ⟨j2 + 1, f, setH k j2 j1 (setE k j2 m2), by have := HGA.out; omega, by go_num, hid (by have := HFU.out; have := HGB.out; omega), hid K9.out.drew, hid (drew_bel' (n := 1) B9.out), hid T9.out.drew1, HF2⟩
              case measure => have := HGA.out; have := HGB.out; simp [RowKit.intOf]; omega
          ·have hq2 : (e2 == 0) = false := by simpa using he
           have hq3 : (e2 != 0) = true := by simpa using he
           have HF2 := hid (by have := HFV.out; rw [if_pos he] at this; exact this)
           clear he
           go_wp2_with fail
           go_ret2
           rw [← HF2.out]
           exact ⟨rfl, K5.out, B5.out, T5.out⟩
         ·have f4 : ((op : Int) == 4) = false := by simp; omega
          have HF2 := hid (by have := HFT.out; rw [if_neg (fun h => h4 h.2.2), if_neg (fun h => h rfl), if_pos h5] at this; exact this)
          clear h5 h4 h3
          go_wp2_with fail
          go_ret2
          rw [← HF2.out]
          exact ⟨rfl, K4.out, B4.out, T4.out⟩
        ·have f5 : ((o1 : Int) == 5) = false := by simp; omega
         have HF2 := hid (by have := HFT.out; rw [if_neg (fun h => h5 h.2.1), if_neg (fun h => h rfl), if_neg h5] at this; exact this)
         clear h5 h3
         have HKJ := hid (show k < j1 ∧ j1 < l.length ∧ k < l.length by have := HJ1.out; omega)
         have n1 : ¬ (k = j1) := by have := HKJ.out; omega
         have n2 : ¬ (j1 = k) := fun e => n1 e.symm
         obtain ⟨v0, t0, tf⟩ := K4.out.en.at2 K4.out.len.1 k hlt
         obtain ⟨v1, t1, _⟩ := K4.out.en.at2 K4.out.len.1 j1 HKJ.out.2.1
         have K5 := hid (K4.out.putE k (j1 : Int) hlt)
         obtain ⟨v2, t2, tf2⟩ := K5.out.en.at2 K5.out.len.1 j1 HKJ.out.2.1
         have K6 := hid (K5.out.putE j1 (k : Int) HKJ.out.2.1)
         have HEB := hid (K4.out.en.typ K4.out.len.1 (by have := HKJ.out; omega)).2.1
         have B6 := hid (show Below W0.heap.size W0 ((w4.setCell ⟨E, k, none⟩ (.int .i64 (j1 : Int))).setCell ⟨E, j1, none⟩ (.int .i64 (k : Int))) from (B4.out.setCell HEB.out _).setCell HEB.out _)
         have T6 := hid ((T4.out.trans (Touch.setCell (F := fun j => j = E ∨ j = S) (a := ⟨E, k, none⟩) (Or.inl rfl) (.int .i64 (j1 : Int)))).trans (Touch.setCell (F := fun j => j = E ∨ j = S) (a := ⟨E, j1, none⟩) (Or.inl rfl) (.int .i64 (k : Int))))
         have mk1 := K4.out.blk.cell (i := 1) rfl
         have m1d : w4.drew.cell? ⟨M, 1, none⟩ = some (.slice (some ⟨E, 0, none⟩) l.length cE) := mk1
         have t0d : w4.drew.cell? ⟨E, k, none⟩ = some v0 := t0
         have t1d : w4.drew.cell? ⟨E, j1, none⟩ = some v1 := t1
         have tfd : ∀ i, w4.drew.frozen? ⟨E, i, none⟩ = false := tf
         go_wp2_with fail
         go_region
         all_goals
          go_wp2_with fail
          go_roundw
          case rel => exact ⟨j1 + 1, f, setE k j1 m1, by have := HKJ.out; omega, by go_num, hid (by have := HFU.out; have := HKJ.out; omega), hid K6.out.drew, hid (drew_bel' (n := 1) B6.out), hid T6.out.drew1, HF2⟩
          case measure => have := HKJ.out; simp [RowKit.intOf]; omega
       ·have hq2 : (e1 == 0) = false := by simpa using he
        have hq3 : (e1 != 0) = true := by simpa using he
        have HF2 := hid (by have := HFT.out; rw [if_neg (fun h => he h.1), if_pos he] at this; exact this)
        clear he
        go_wp2_with fail
        go_ret2
        rw [← HF2.out]
        exact ⟨rfl, K4.out, B4.out, T4.out⟩
   ·have hQ2 : (Q != 0) = true := by simpa using hQ
    rw [if_pos hQ] at HFS
    have HF2 := hid HFS
    clear HFS hQ
    go_wp2_with fail
    refine HC.out.mono ?_
    rintro r w3 ⟨rfl, g1⟩
    have K3 := hid (K2.out.below g1)
    have B3 := hid (B2.out.trans (g1.mono B2.out.size))
    have T3 := hid (T2.out.trans (Touch.of_below g1))
    clear g1 x0 x1 x2 x3
    go_wp2_with fail
    go_ret2
    rw [← HF2.out]
    exact ⟨rfl, K3.out, B3.out, T3.out⟩
  ·have HF2 := hid (show (0, 3, m) = fin by rw [← HF.out, seq_end l f deep k m (by omega)])
   have hlt2 : ¬ (k : Int) < (l.length : Int) := by omega
   go_wp2_with fail
   go_ret2
   rw [← HF2.out]
   exact ⟨rfl, KK.out, BB.out, TT.out⟩
theorem rseq_any (W0 : World) (l : List It) (hok : ∀ x ∈ l, ItOk x) (h200 : l.length ≤ 200) (hM : MaxL W0) (b off cap : Nat) (hcap : l.length ≤ cap) (M E cE S cS : Nat)
  (hrow : RowsAt W0 l b off) (d : Nat) : ∀ deep, deep + d = 12 → SeqC W0 l b off cap M E cE S cS deep := by
 induction d with
 | zero => intro deep h; exact rseq_step W0 l hok h200 hM b off cap hcap M E cE S cS hrow deep (by omega) (fun h2 => by omega)
 | succ d ih => intro deep h; exact rseq_step W0 l hok h200 hM b off cap hcap M E cE S cS hrow deep (by omega) (fun _ => ih (deep + 1) (by omega))
end Go.Proofs.YtakfineljffoaaaGreatDoor
