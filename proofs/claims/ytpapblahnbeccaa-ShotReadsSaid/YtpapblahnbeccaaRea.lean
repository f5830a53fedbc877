/-
  SHOTS: the walk of the program's Read. Condition: the text's length in the form's reach.
-/
import Derived.Test.YtpapblahnbeccaaRsA
import Derived.Deep.CutBlock
namespace Go.Proofs.Ytpapblahnbeccaa
open Go.RowKit Go.Lib
attribute [local go_sem ↓] Go.wp_at_zero Go.wp_at_succ

def W4 (w : World) : World := (((w.alloc (.cells #[.string ⟨#[]⟩, .slice none 0 0, .slice none 0 0] 114)).alloc (.cells #[.slice none 0 0, .int .i64 0] 117)).alloc (.cells #[.string ⟨#[]⟩, .slice none 0 0, .slice none 0 0] 114)).alloc (.cells #[.slice none 0 0, .int .i64 0] 117)
theorem W4_size (w : World) : (W4 w).heap.size = w.heap.size + 1 + 1 + 1 + 1 := by simp [W4]
theorem W4_below (w : World) : Below w.heap.size w (W4 w) := ((((Below.refl _ _).alloc (Nat.le_refl _) _).alloc (by simp) _).alloc (by simp; omega) _).alloc (by simp; omega) _
theorem W4_bk (w : World) : ShBk (W4 w) w.heap.size [.string ⟨#[]⟩, .slice none 0 0, .slice none 0 0] [.slice none 0 0, .int .i64 0] :=
  ⟨(((Blk.new w _ _ _ rfl).alloc _).alloc _).alloc _, ((Blk.new _ _ _ _ (by simp)).alloc _).alloc _, (Blk.new _ _ _ _ (by simp)).alloc _, Blk.new _ _ _ _ (by simp)⟩
theorem ShBk.below {w w' : World} {H : Nat} {xs ys : List Value} (h : ShBk w H xs ys) (k : Below w.heap.size w w') : ShBk w' H xs ys := ⟨h.r2.below k, h.r3.below k, h.xb.below k, h.sb.below k⟩
theorem below_set {H b i : Nat} {w w1 : World} (h : Below H w w1) (hb : H ≤ b) (v : Value) : Below H w (w1.setCell ⟨b, i, none⟩ v) := h.setCell hb v
theorem elem_intT : Elem Try.prog 51 3 (.int .i64 0) 1 8 := ⟨Try.underlying51, by kernel_rfl, rfl, by decide⟩
theorem elem_Call : Elem Try.prog 115 216 (.agg #[.int .i64 0, .int .i64 0, .slice none 0 0, .slice none 0 0]) 4 64 := ⟨Try.underlying115, by kernel_rfl, rfl, by decide⟩

set_option maxRecDepth 100000 in
set_option maxHeartbeats 8000000 in
theorem read_any (w : World) (t : ByteArray) (ht : t.size ≤ 140737488351232) :
    Calls Try.prog 64 #[.string t] w fun e w' => ReadP w t e w' := by
  have hr0 : RdB ((W4 w).alloc (.cells #[.string t, .int .i64 0] 212)) (w.heap.size + 1 + 1 + 1 + 1) (t, 0) := Blk.new _ _ _ _ (W4_size w).symm
  have hb0 : Below (W4 w).heap.size (W4 w) ((W4 w).alloc (.cells #[.string t, .int .i64 0] 212)) := (Below.refl _ _).alloc (Nat.le_refl _) _
  have BK := hid ((W4_bk w).below hb0)
  have HB := hid ((W4_below w).trans (hb0.mono (by rw [W4_size]; omega)))
  have HC := hid (rcount_any _ _ (t, 0) 2048 hr0 ht)
  have HR := hid hr0
  have W4s := hid (show ((W4 w).alloc (.cells #[.string t, .int .i64 0] 212)).heap.size = w.heap.size + 5 from by rw [World.size_alloc, W4_size])
  clear hr0 hb0
  unfold W4 at *
  have hcf := cntM_facts 2048 (by decide) (t, 0)
  have HM := hid (fun N s => readM_eq t N s)
  generalize cntM 2048 (t, 0) = q0 at *
  obtain ⟨n, s⟩ := q0
  simp only at HC hcf ⊢
  obtain ⟨N, rfl⟩ := Int.eq_ofNat_of_zero_le hcf.1
  have HM := hid (HM.out N s rfl)
  have hs : okSz s := by unfold okSz; omega
  go_enter Try.func64, Try.ntmps64
  go_wp2_with fail
  refine HC.out.mono ?_
  rintro r w1 ⟨rfl, h1, h2⟩
  have BK := hid (BK.out.kt (KT.touch HR.out h2) rfl rfl)
  have HB := hid (HB.out.trans (h2.below (by rw [W4s.out]; omega) (fun k hk => by omega)))
  have hsz1 : w.heap.size + 5 ≤ w1.heap.size := by have := h1.lt; omega
  have HR := hid h1
  clear h1 h2 HC W4s
  have r0 := HR.out.cell (i := 0) rfl
  have r1 := HR.out.cell (i := 1) rfl
  have rf := fun i => HR.out.free i
  have t0 := BK.out.r2.cell (i := 0) rfl
  have t1 := BK.out.r2.cell (i := 1) rfl
  have t2 := BK.out.r2.cell (i := 2) rfl
  have tf := fun i => BK.out.r2.free i
  have u0 := BK.out.r3.cell (i := 0) rfl
  have u1 := BK.out.r3.cell (i := 1) rfl
  have uf := fun i => BK.out.r3.free i
  have x0 := BK.out.xb.cell (i := 0) rfl
  have xf := fun i => BK.out.xb.free i
  by_cases hlt : (s.1.size : Int) < N
  · have HM := hid (HM.out.1 hlt)
    go_wp2_with fail
    obtain ⟨y1, y2, _, y4⟩ := BK.out.res (.string ⟨#[]⟩) (.slice none 0 0) (.slice none 0 0) (.slice none 0 0) (.int .i64 0)
    have z0 := y1.cell (i := 0) rfl
    have z1 := y1.cell (i := 1) rfl
    have z2 := y1.cell (i := 2) rfl
    have z3 := y2.cell (i := 0) rfl
    have z4 := y2.cell (i := 1) rfl
    refine bodyPost_ret (v := .tuple #[.agg #[.string ⟨#[]⟩, .slice none 0 0, .slice none 0 0], .agg #[.slice none 0 0, .int .i64 0], .int .i64 3]) (by simp [results, Try.results64, go_sem, z0, z1, z2, z3, z4]) rfl ?_
    unfold ReadP
    rw [HM.out]
    exact ⟨_, _, _, rfl, OwnI.ints (ShRw.nil _ 0).tab, OwnI.ints (ShRw.nil _ 0).glob, (CallsO.nil _ 0).calls, HB.out.trans y4⟩
  · have hN2 : N ≤ s.1.size := by omega
    have hN3 : (N : Int) ≤ s.1.size := by omega
    have HM := hid (HM.out.2 hN3)
    go_wp2_with fail
    go_cut [] (fun wx => ShBk wx w.heap.size [.string (s.1.extract 0 N), .slice none 0 0, .slice none 0 0] [.slice none 0 0, .int .i64 0] ∧ RdB wx (w.heap.size + 1 + 1 + 1 + 1) (s.1.extract N s.1.size, s.2) ∧ Below w.heap.size w wx ∧ w.heap.size + 5 ≤ wx.heap.size)
    case first =>
      go_region_law (fail)
      all_goals
        go_wp2_with fail
        go_meet
        exact ⟨((BK.out.setX 0 (.string (s.1.extract 0 N))).kt (KT.set ((HR.out.drew 1).other (by simp) _) _) rfl rfl), ((HR.out.drew 1).other (by simp) _).set 0 _, ((HB.out.trans (drew_bel' (n := 1) (Below.refl _ _))).setCell (by simp; omega) _).setCell (by simp; omega) _, by simp; omega⟩
    case rest =>
    obtain ⟨h1, h2, h3, hsz2⟩ := hcut
    clear BK HR HB r0 r1 rf t0 t1 t2 tf u0 u1 uf x0 xf hsz1
    have BK := hid h1
    have HR := hid h2
    have HB := hid h3
    have RW := hid (ShRw.nil wc w.heap.size)
    clear h1 h2 h3
    have hS0 : okSz (s.1.extract N s.1.size, s.2) := by unfold okSz at hs ⊢; rw [ByteArray.size_extract]; omega
    have hmem : (s.1.extract 0 N).size ≤ 2048 := by rw [ByteArray.size_extract]; omega
    have HOK := hid (tail_ok _ hmem (s.1.extract N s.1.size, s.2))
    unfold finM at HM
    generalize hmm : s.1.extract 0 N = mem at *
    generalize (s.1.extract N s.1.size, s.2) = S0 at *
    obtain ⟨q1, hq1⟩ : ∃ q, q = cntM 16 S0 := ⟨_, rfl⟩
    obtain ⟨q2, hq2⟩ : ∃ q, q = valsN 32 q1.1.toNat q1.2 := ⟨_, rfl⟩
    obtain ⟨q3, hq3⟩ : ∃ q, q = listM 8 q2.2 := ⟨_, rfl⟩
    obtain ⟨q4, hq4⟩ : ∃ q, q = numM q3.2 := ⟨_, rfl⟩
    obtain ⟨q5, hq5⟩ : ∃ q, q = cntM 40 q4.2 := ⟨_, rfl⟩
    obtain ⟨q6, hq6⟩ : ∃ q, q = callsN q5.1.toNat q5.2 := ⟨_, rfl⟩
    have hT : tailM S0 = ((q2.1, q3.1, q4.1, q6.1), q6.2) := by subst hq6 hq5 hq4 hq3 hq2 hq1; rfl
    rw [hT] at HM HOK
    have f1 := cntM_facts 16 (by decide) S0
    have f2 := valsN_facts (bits := 32) (.inl rfl) q1.1.toNat q1.2
    have f3 := listM_facts (most := 8) (by decide) q2.2
    have f4 := numM_facts q3.2
    have f5 := cntM_facts 40 (by decide) q4.2
    have f6 := callsN_facts q5.1.toNat q5.2
    rw [← hq1] at f1
    rw [← hq2] at f2
    rw [← hq3] at f3
    rw [← hq4] at f4
    rw [← hq5] at f5
    rw [← hq6] at f6
    have HC := hid (rcount_any wc _ S0 16 HR.out hS0)
    rw [← hq1] at HC
    have Q2 := hid hq2
    have Q3 := hid hq3
    have Q4 := hid hq4
    have Q5 := hid hq5
    have Q6 := hid hq6
    clear hq1 hq2 hq3 hq4 hq5 hq6 hT
    obtain ⟨n1, s1⟩ := q1
    obtain ⟨N1, rfl⟩ := Int.eq_ofNat_of_zero_le f1.1
    go_wp2_with fail
    refine HC.out.mono ?_
    rintro r w2 ⟨rfl, h1, h2⟩
    have KK := KT.touch HR.out h2
    have BK := hid (BK.out.kt KK rfl rfl)
    have RW := hid (RW.out.kt KK rfl rfl rfl)
    have HB := hid (HB.out.trans (h2.below (by omega) (fun k hk => by omega)))
    have HR := hid h1
    clear HC h1 h2 KK
    go_wp2_with fail
    go_loopw [44] (fun i wr => ∃ (k : Nat) (vt : Value), k ≤ N1 ∧ i = .int .i64 k ∧ Hid (ShBk wr w.heap.size [.string mem, vt, .slice none 0 0] [.slice none 0 0, .int .i64 0]) ∧ Hid (ShRw wr w.heap.size vt (.slice none 0 0) (.slice none 0 0) (valsN 32 k s1).1 [] []) ∧ Hid (RdB wr (w.heap.size + 1 + 1 + 1 + 1) (valsN 32 k s1).2) ∧ Hid (Below w.heap.size w wr)) (fun i _ => N1 - (RowKit.intOf i).toNat)
    case atStart => exact ⟨0, _, Nat.zero_le _, rfl, BK, RW, HR, HB⟩
    case round =>
      obtain ⟨k, vt, hk, rfl, BK1, RW1, HR1, HB1⟩ := hrel
      clear BK RW HR HB
      by_cases hlt1 : k < N1
      ·
        have hvf := valsN_facts (bits := 32) (.inl rfl) k s1
        have HSG := hid (rsigned_any wr.drew _ _ 32 (.inl rfl) HR1.out (by unfold okSz at *; omega))
        rw [show ((32 : Nat) : Int) = 32 from rfl] at HSG
        have HST : Hid (valsN 32 (k + 1) s1 = ((valsN 32 k s1).1 ++ [(sgnM 32 (valsN 32 k s1).2).1], (sgnM 32 (valsN 32 k s1).2).2)) := hid rfl
        have hln := hvf.1
        clear hvf
        generalize valsN 32 k s1 = Q at *
        generalize sgnM 32 Q.2 = z at *
        have x1 : wr.drew.cell? ⟨w.heap.size + 1 + 1, 1, none⟩ = some vt := BK1.out.xb.cell (i := 1) rfl
        have x1f : wr.drew.frozen? ⟨w.heap.size + 1 + 1, 1, none⟩ = false := BK1.out.xb.free 1
        go_wp2_with fail
        go_region_law (first | (go_simp; go_at_call 118; go_loud ((with_reducible refine HSG.out.mono ?_); rintro r w3 ⟨rfl, h1, h2⟩; have KK : KT 212 wr w3 := KT.touch (w := wr.drew) HR1.out h2; have BK := hid (BK1.out.kt KK rfl rfl); have RW := hid (RW1.out.kt KK rfl rfl rfl); have HB := hid ((HB1.out.trans (drew_bel' (n := 1) (Below.refl _ _))).trans (h2.below HB1.out.size (fun k hk => by omega))); have HR := hid h1; have y1 := BK.out.xb.cell (i := 1) rfl; have y1a := (fun o => cell_alloc o y1); clear h1 h2 KK)) | (refine step_one1 elem_intT (cs := [.int .i64 z.1]) (by rfl) _ _ (by rfl) (by rfl) (by rfl) rfl RW.out.tab (by rfl) (by intro c hc; simp at hc; subst hc; rfl) (by omega) (by omega) HB.out.size ?_; intro v' w4 ho hb hg; obtain ⟨ao2, cap2, rfl, _⟩ := own_sl ho; have K4 := hid (KT.grown hg.1 RW.out.tab); have BK4 := hid (BK.out.kt K4.out rfl rfl); have z1 := BK4.out.xb.cell (i := 1) rfl; have zf := BK4.out.xb.free 1; have HG := hid (And.intro ho hb); clear ho hb hg))
        all_goals
          go_wp2_with fail
          go_roundw
          case rel =>
            have KI := KT.set (i := 1) BK4.out.xb (.slice ao2 (k + 1) cap2)
            have G1 := HG.out.1
            rw [hln] at G1
            refine ⟨k + 1, .slice ao2 (k + 1) cap2, by omega, by go_num, hid (BK4.out.setX 1 _), hid ⟨?_, KI.own (K4.out.own RW.out.glob rfl) rfl, KI.calls (K4.out.calls RW.out.calls rfl rfl) rfl rfl⟩, hid (by rw [HST.out]; exact KI.blk (K4.out.blk HR.out rfl) rfl), hid ((HB.out.trans HG.out.2).setCell (by simp; omega) _)⟩
            rw [HST.out]
            show World.ownsRow _ _ _ _ _ (Q.1 ++ [z.1]).length ((Q.1 ++ [z.1]).map _)
            rw [List.length_append, List.map_append, hln]
            exact KI.own G1 rfl
          case measure => simp [RowKit.intOf]; omega
      · obtain rfl : k = N1 := by omega
        have e2 : valsN 32 k s1 = q2 := Q2.out.symm
        rw [e2] at RW1 HR1
        have HV := hid (rvalues_any wr _ q2.2 8 HR1.out (by unfold okSz at *; omega) (by decide))
        rw [← Q3.out] at HV
        go_wp2_with fail
        refine HV.out.mono ?_
        rintro r w3 ⟨vg, rfl, ho, h1, h2⟩
        obtain ⟨aog, capg, rfl, _⟩ := own_sl ho
        have KK := KT.touch HR1.out h2
        have BK2 := hid (BK1.out.kt KK rfl rfl)
        have RW2 : Hid (ShRw w3 w.heap.size vt (.slice aog q3.1.length capg) (.slice none 0 0) q2.1 q3.1 []) := hid ⟨(RW1.out.kt KK rfl rfl rfl).tab, own_mono' ho HB1.out.size, CallsO.nil _ _⟩
        have HB2 := hid (HB1.out.trans (h2.below HB1.out.size (fun k hk => by omega)))
        have HR2 := hid h1
        clear HV ho h1 h2 KK BK1 RW1 HR1 HB1
        have y2 := BK2.out.xb.cell (i := 2) rfl
        have y2f := BK2.out.xb.free 2
        have KI := KT.set (i := 2) BK2.out.xb (.slice aog q3.1.length capg)
        have BK3 := hid (BK2.out.setX 2 (.slice aog q3.1.length capg))
        have RW3 := hid (RW2.out.kt KI rfl rfl rfl)
        have HR3 := hid (KI.blk HR2.out rfl)
        have HB3 := hid (below_set (b := w.heap.size + 1 + 1) (i := 2) HB2.out (by omega) (.slice aog q3.1.length capg))
        have HC := hid (rplain_any _ _ q3.2 HR3.out (by unfold okSz at *; omega))
        rw [← Q4.out] at HC
        go_wp2_with fail
        refine HC.out.mono ?_
        rintro r w4 ⟨rfl, h1, h2⟩
        have KK := KT.touch HR3.out h2
        have BK4 := hid (BK3.out.kt KK rfl rfl)
        have RW4 := hid (RW3.out.kt KK rfl rfl rfl)
        have HB4 := hid (HB3.out.trans (h2.below HB3.out.size (fun k hk => by omega)))
        have HR4 := hid h1
        clear HC h1 h2 KK BK2 RW2 HR2 HB2 BK3 RW3 HR3 HB3 KI y2 y2f
        have y2 := BK4.out.sb.cell (i := 1) rfl
        have y2f := BK4.out.sb.free 1
        have KI := KT.set (i := 1) BK4.out.sb (.int .i64 q4.1)
        have BK3 := hid (BK4.out.setS 1 (.int .i64 q4.1))
        have RW3 := hid (RW4.out.kt KI rfl rfl rfl)
        have HR3 := hid (KI.blk HR4.out rfl)
        have HB3 := hid (below_set (b := w.heap.size + 1 + 1 + 1) (i := 1) HB4.out (by omega) (.int .i64 q4.1))
        have HC := hid (rcount_any _ _ q4.2 40 HR3.out (by unfold okSz at *; omega))
        rw [← Q5.out] at HC
        obtain ⟨n2, s2⟩ := q5
        obtain ⟨N2, rfl⟩ := Int.eq_ofNat_of_zero_le f5.1
        go_wp2_with fail
        refine HC.out.mono ?_
        rintro r w5 ⟨rfl, h1, h2⟩
        have KK := KT.touch HR3.out h2
        have BK5 := hid (BK3.out.kt KK rfl rfl)
        have RW5 := hid (RW3.out.kt KK rfl rfl rfl)
        have HB5 := hid (HB3.out.trans (h2.below HB3.out.size (fun k hk => by omega)))
        have HR5 := hid h1
        clear HC h1 h2 KK BK4 RW4 HR4 HB4 BK3 RW3 HR3 HB3 KI y2 y2f
        go_wp2_with fail
        have ho : RtOk 212 := ⟨rfl, rfl, rfl, rfl, rfl⟩
        have A5 := hid (SA.mk BK5.out RW5.out HR5.out HB5.out)
        clear BK5 RW5 HR5 HB5
        go_loopw [62] (fun i wr => ∃ (k2 : Nat) (vc : Value), k2 ≤ N2 ∧ i = .int .i64 k2 ∧ Hid (SA w wr 212 [.string mem, vt, .slice aog q3.1.length capg] [vc, .int .i64 q4.1] [.string (callsN k2 s2).2.1, .int .i64 (callsN k2 s2).2.2] vt (.slice aog q3.1.length capg) vc q2.1 q3.1 (callsN k2 s2).1)) (fun i _ => N2 - (RowKit.intOf i).toNat)
        case atStart => exact ⟨0, _, Nat.zero_le _, rfl, A5⟩
        case round =>
          obtain ⟨k2, vc, hk2, rfl, A1⟩ := hrel
          clear A5
          by_cases hlt2 : k2 < N2
          · have hcf2 := callsN_facts k2 s2
            have HST : Hid (callsN (k2 + 1) s2 = ((callsN k2 s2).1 ++ [(callM (callsN k2 s2).2).1], (callM (callsN k2 s2).2).2)) := hid rfl
            have hln := hcf2.1
            have hsz3 := hcf2.2.2
            clear hcf2
            generalize callsN k2 s2 = Q at *
            obtain ⟨p1, hp1⟩ : ∃ q, q = numM Q.2 := ⟨_, rfl⟩
            obtain ⟨p2, hp2⟩ : ∃ q, q = numM p1.2 := ⟨_, rfl⟩
            obtain ⟨p3, hp3⟩ : ∃ q, q = listM 20 p2.2 := ⟨_, rfl⟩
            obtain ⟨p4, hp4⟩ : ∃ q, q = listM 200 p3.2 := ⟨_, rfl⟩
            have hT : callM Q.2 = (⟨p1.1, p2.1, p3.1, p4.1⟩, p4.2) := by subst hp4 hp3 hp2 hp1; rfl
            rw [hT] at HST
            have g1 := numM_facts Q.2
            have g2 := numM_facts p1.2
            have g3 := listM_facts (most := 20) (by decide) p2.2
            have g4 := listM_facts (most := 200) (by decide) p3.2
            rw [← hp1] at g1
            rw [← hp2] at g2
            rw [← hp3] at g3
            rw [← hp4] at g4
            have z1 : okSz Q.2 := by unfold okSz at *; omega
            have z2 : okSz p1.2 := by unfold okSz at *; omega
            have z3 : okSz p2.2 := by unfold okSz at *; omega
            have z4 : okSz p3.2 := by unfold okSz at *; omega
            have HC := hid (rplain_any wr _ Q.2 A1.out.rd z1)
            rw [← hp1] at HC
            have P2 := hid hp2
            have P3 := hid hp3
            have P4 := hid hp4
            have hl3 := hid g3.2.1
            have hl4 := hid g4.2.1
            clear hp1 hp2 hp3 hp4 hT g3 g4
            have hvc : ∀ k, vc.ownBlock = some k → k < wr.heap.size := by
              obtain ⟨css, h1, h2, h3⟩ := A1.out.rows.calls
              exact fun k hk => (h2.lt k hk).2
            have HVC := hid hvc
            clear hvc
            go_wp2_with fail
            refine HC.out.mono ?_
            rintro r w6 ⟨rfl, h1, h2⟩
            have A6 := hid (A1.out.read ho h2 h1)
            have s6 := h2.size
            clear HC h1 h2 A1
            have c6 : Hid (Blk (w6.alloc (.cells #[.int .i64 p1.1, .int .i64 0, .slice none 0 0, .slice none 0 0] 216)) w6.heap.size 216 [.int .i64 p1.1, .int .i64 0, .slice none 0 0, .slice none 0 0]) := hid (Blk.new w6 _ _ _ rfl)
            have A7 := hid (A6.out.below ((Below.refl _ _).alloc (Nat.le_refl _) (.cells #[.int .i64 p1.1, .int .i64 0, .slice none 0 0, .slice none 0 0] 216)))
            have HC := hid (rplain_any _ _ p1.2 A7.out.rd z2)
            rw [← P2.out] at HC
            have hne : w6.heap.size ≠ w.heap.size + 1 + 1 + 1 + 1 := by have := A6.out.size; omega
            have hge : w.heap.size ≤ w6.heap.size := by have := A6.out.size; omega
            clear A6
            go_wp2_with fail
            refine HC.out.mono ?_
            rintro r w7 ⟨rfl, h1, h2⟩
            have A8 := hid (A7.out.read ho h2 h1)
            have c8 := hid (c6.out.touch h2 hne)
            have s7 := h2.size
            clear HC h1 h2 A7 c6
            have b1 := c8.out.cell (i := 1) rfl
            have b1f := c8.out.free 1
            have hvc : ∀ k, vc.ownBlock = some k → k < w6.heap.size := fun k hk => Nat.lt_of_lt_of_le (HVC.out k hk) s6
            have HVC := hid hvc
            clear hvc
            have A9 := hid (A8.out.setC ho c8.out hge HVC.out 1 (.int .i64 p2.1))
            have c9 := hid (c8.out.set 1 (.int .i64 p2.1))
            have HV := hid (rvalues_any _ _ p2.2 20 A9.out.rd z3 (by decide))
            rw [← P3.out] at HV
            clear A8 c8
            go_wp2_with fail
            refine HV.out.mono ?_
            rintro r w8 ⟨vl, rfl, hol, h1, h2⟩
            have A10 := hid (A9.out.read ho h2 h1)
            have c10 := hid (c9.out.touch h2 hne)
            have ol := hid (own_mono' hol (b := w.heap.size) (by simp at s7 ⊢; omega))
            clear HV hol h1 h2 A9 c9 b1 b1f
            obtain ⟨aol, capl, rfl, _⟩ := own_sl ol.out
            have b2 := c10.out.cell (i := 2) rfl
            have b2f := c10.out.free 2
            have s8 : w6.heap.size < w8.heap.size := c10.out.lt
            have K11 := KT.set (i := 2) c10.out (.slice aol p3.1.length capl)
            have A11 := hid (A10.out.setC ho c10.out hge HVC.out 2 (.slice aol p3.1.length capl))
            have c11 := hid (c10.out.set 2 (.slice aol p3.1.length capl))
            have ol11 := hid (K11.own ol.out rfl)
            have HV := hid (rvalues_any _ _ p3.2 200 A11.out.rd z4 (by decide))
            rw [← P4.out] at HV
            clear A10 c10 ol K11
            go_wp2_with fail
            refine HV.out.mono ?_
            rintro r w9 ⟨vs, rfl, hos, h1, h2⟩
            have ol12 := hid ((KT.touch A11.out.rd h2).own ol11.out rfl)
            have A12 := hid (A11.out.read ho h2 h1)
            have c12 := hid (c11.out.touch h2 hne)
            have os := hid (own_mono' hos (b := w.heap.size) (by simp; omega))
            clear HV hos h1 h2 A11 c11 b2 b2f ol11
            obtain ⟨aos, caps, rfl, _⟩ := own_sl os.out
            have b3 := c12.out.cell (i := 3) rfl
            have b3f := c12.out.free 3
            have K13 := KT.set (i := 3) c12.out (.slice aos p4.1.length caps)
            have A13 := hid (A12.out.setC ho c12.out hge HVC.out 3 (.slice aos p4.1.length caps))
            have c13 := hid (c12.out.set 3 (.slice aos p4.1.length caps))
            have ol13 := hid (K13.own ol12.out rfl)
            have os13 := hid (K13.own os.out rfl)
            clear A12 c12 ol12 os K13
            have d0 := c13.out.cell (i := 0) rfl
            have d1 := c13.out.cell (i := 1) rfl
            have d2 := c13.out.cell (i := 2) rfl
            have d3 := c13.out.cell (i := 3) rfl
            have e0 := A13.out.bk.sb.cell (i := 0) rfl
            have e0f := A13.out.bk.sb.free 0
            obtain ⟨css, hc1, hc2, hc3⟩ := id A13.out.rows.calls
            have HC3 := hid hc3
            have HC2 := hid hc2
            have hHS : w.heap.size ≤ (w9.setCell ⟨w6.heap.size, 3, none⟩ (.slice aos p4.1.length caps)).heap.size := by have := A13.out.size; omega
            clear hc3 hc2
            go_wp2_with (at_builtin; go_loud (refine app_one elem_Call (cs := [.int .i64 p1.1, .int .i64 p2.1, .slice aol p3.1.length capl, .slice aos p4.1.length caps]) rfl _ _ rfl rfl rfl (by simp) HC2.out rfl (by intro c hc; simp at hc; rcases hc with rfl | rfl | rfl | rfl <;> rfl) (by omega) (by omega) hHS ?_); intro v' w10 ho' hb' hg'; obtain ⟨ao2, cap2, rfl, _⟩ := own_sl ho'; have A14 := hid (A13.out.push (c := ⟨p1.1, p2.1, p3.1, p4.1⟩) ho ol13.out os13.out hg'.1 hc1 HC2.out HC3.out ho'); clear ho' hb' hg'; have f0 := A14.out.bk.sb.cell (i := 0) rfl; have f0f := A14.out.bk.sb.free 0)
            go_roundw
            case rel =>
              refine ⟨k2 + 1, .slice ao2 (k2 + 1) cap2, by omega, by go_num, ?_⟩
              rw [HST.out]
              have A15 := A14.out.setS 0 (.slice ao2 (Q.1.length + 1) cap2)
              rw [hln] at A15
              exact hid A15
            case measure => simp [RowKit.intOf]; omega
          · obtain rfl : k2 = N2 := by omega
            have e6 : callsN k2 s2 = q6 := Q6.out.symm
            rw [e6] at A1
            clear Q6 e6 f5 f6 Q5
            have r1 := A1.out.rd.cell (i := 1) rfl
            have r0 := A1.out.rd.cell (i := 0) rfl
            have rf := fun i => A1.out.rd.free i
            have x0 := A1.out.bk.xb.cell (i := 0) rfl
            have x1 := A1.out.bk.xb.cell (i := 1) rfl
            have x2 := A1.out.bk.xb.cell (i := 2) rfl
            have y0 := A1.out.bk.sb.cell (i := 0) rfl
            have y1 := A1.out.bk.sb.cell (i := 1) rfl
            by_cases hbad : q6.2.2 = 0
            · rw [hbad] at r1
              have hx : ShotOk (shotOf mem (q2.1, q3.1, q4.1, q6.1)) := HOK.out
              obtain ⟨E, hE⟩ := shotV_S (shotOf mem (q2.1, q3.1, q4.1, q6.1))
              have HW := hid (swrite_any wr (shotOf mem (q2.1, q3.1, q4.1, q6.1)) vt _ vc (OwnI.ints A1.out.rows.tab) (OwnI.ints A1.out.rows.glob) A1.out.rows.calls.calls HOK.out)
              rw [hE] at HW
              clear hE hx
              go_wp2_with fail
              refine HW.out.mono ?_
              rintro r w11 ⟨rfl, hb⟩
              have A2 := hid (A1.out.below hb)
              clear hb A1 r0 r1 rf x0 x1 x2 y0 y1
              have r1 := A2.out.rd.cell (i := 1) rfl
              rw [hbad] at r1
              have r0 := A2.out.rd.cell (i := 0) rfl
              have rf := fun i => A2.out.rd.free i
              go_wp2_with fail
              · have A3 := hid (A2.out.setR ho 1 (.int .i64 4))
                have q1 := A3.out.rd.cell (i := 1) rfl
                have t0 := A3.out.bk.r2.cell (i := 0) rfl
                have t1 := A3.out.bk.r2.cell (i := 1) rfl
                have t2 := A3.out.bk.r2.cell (i := 2) rfl
                have tf := fun i => A3.out.bk.r2.free i
                have u0 := A3.out.bk.r3.cell (i := 0) rfl
                have u1 := A3.out.bk.r3.cell (i := 1) rfl
                have uf := fun i => A3.out.bk.r3.free i
                have HM := hid (HM.out.trans (by rw [endE_other hbad (by assumption)]; rfl) : readM t = (zeroShot, 4))
                obtain ⟨y1, y2, _, y4⟩ := A3.out.bk.res (.string ⟨#[]⟩) (.slice none 0 0) (.slice none 0 0) (.slice none 0 0) (.int .i64 0)
                have z0 := y1.cell (i := 0) rfl
                have z1 := y1.cell (i := 1) rfl
                have z2 := y1.cell (i := 2) rfl
                have z3 := y2.cell (i := 0) rfl
                have z4 := y2.cell (i := 1) rfl
                go_region_law (fail)
                all_goals
                  go_wp2_with fail
                  refine bodyPost_ret (v := .tuple #[.agg #[.string ⟨#[]⟩, .slice none 0 0, .slice none 0 0], .agg #[.slice none 0 0, .int .i64 0], .int .i64 4]) (by simp [results, Try.results64, go_sem, z0, z1, z2, z3, z4]) rfl ?_
                  exact read_err HM.out (below_drew (A3.out.bl.trans y4))
              · have HM := hid (HM.out.trans (by rw [endE_good hbad (by assumption) (by assumption)]; rfl) : readM t = (shotOf mem (q2.1, q3.1, q4.1, q6.1), 0))
                have A3 := A2
                clear f2
                obtain ⟨aot, capt, rfl, _⟩ := own_sl A3.out.rows.tab
                obtain ⟨css, _, hcs2, _⟩ := id A3.out.rows.calls
                obtain ⟨aoc, capc, rfl, _⟩ := own_sl hcs2
                clear hcs2
                have q1 := A3.out.rd.cell (i := 1) rfl
                have t0 := A3.out.bk.r2.cell (i := 0) rfl
                have t1 := A3.out.bk.r2.cell (i := 1) rfl
                have t2 := A3.out.bk.r2.cell (i := 2) rfl
                have tf := fun i => A3.out.bk.r2.free i
                have u0 := A3.out.bk.r3.cell (i := 0) rfl
                have u1 := A3.out.bk.r3.cell (i := 1) rfl
                have uf := fun i => A3.out.bk.r3.free i
                have x0 := A3.out.bk.xb.cell (i := 0) rfl
                have x1 := A3.out.bk.xb.cell (i := 1) rfl
                have x2 := A3.out.bk.xb.cell (i := 2) rfl
                have v0 := A3.out.bk.sb.cell (i := 0) rfl
                have v1 := A3.out.bk.sb.cell (i := 1) rfl
                obtain ⟨y1, y2, y3, y4⟩ := A3.out.bk.res (.string mem) (.slice aot q2.1.length capt) (.slice aog q3.1.length capg) (.slice aoc q6.1.length capc) (.int .i64 q4.1)
                have z0 := y1.cell (i := 0) rfl
                have z1 := y1.cell (i := 1) rfl
                have z2 := y1.cell (i := 2) rfl
                have z3 := y2.cell (i := 0) rfl
                have z4 := y2.cell (i := 1) rfl
                go_region_law (fail)
                all_goals
                  go_wp2_with fail
                  refine bodyPost_ret (v := .tuple #[.agg #[.string mem, .slice aot q2.1.length capt, .slice aog q3.1.length capg], .agg #[.slice aoc q6.1.length capc, .int .i64 q4.1], .int .i64 0]) (by simp [results, Try.results64, go_sem, z0, z1, z2, z3, z4]) rfl ?_
                  exact read_good HM.out (ShRw.drew (y3 _ _ _ _ _ _ A3.out.rows)) (below_drew (A3.out.bl.trans y4))
              · have A3 := hid (A2.out.setR ho 1 (.int .i64 4))
                have q1 := A3.out.rd.cell (i := 1) rfl
                have t0 := A3.out.bk.r2.cell (i := 0) rfl
                have t1 := A3.out.bk.r2.cell (i := 1) rfl
                have t2 := A3.out.bk.r2.cell (i := 2) rfl
                have tf := fun i => A3.out.bk.r2.free i
                have u0 := A3.out.bk.r3.cell (i := 0) rfl
                have u1 := A3.out.bk.r3.cell (i := 1) rfl
                have uf := fun i => A3.out.bk.r3.free i
                have HM := hid (HM.out.trans (by rw [endE_rest hbad (by assumption)]; rfl) : readM t = (zeroShot, 4))
                obtain ⟨y1, y2, _, y4⟩ := A3.out.bk.res (.string ⟨#[]⟩) (.slice none 0 0) (.slice none 0 0) (.slice none 0 0) (.int .i64 0)
                have z0 := y1.cell (i := 0) rfl
                have z1 := y1.cell (i := 1) rfl
                have z2 := y1.cell (i := 2) rfl
                have z3 := y2.cell (i := 0) rfl
                have z4 := y2.cell (i := 1) rfl
                go_region_law (fail)
                all_goals
                  go_wp2_with fail
                  refine bodyPost_ret (v := .tuple #[.agg #[.string ⟨#[]⟩, .slice none 0 0, .slice none 0 0], .agg #[.slice none 0 0, .int .i64 0], .int .i64 4]) (by simp [results, Try.results64, go_sem, z0, z1, z2, z3, z4]) rfl ?_
                  exact read_err HM.out (below_drew (A3.out.bl.trans y4))
            · have hbad2 : (q6.2.2 == 0) = false := by simpa using hbad
              have hbad3 : (q6.2.2 != 0) = true := by simpa using hbad
              go_wp2_with fail
              · have A3 := A1
                have q1 := A3.out.rd.cell (i := 1) rfl
                have t0 := A3.out.bk.r2.cell (i := 0) rfl
                have t1 := A3.out.bk.r2.cell (i := 1) rfl
                have t2 := A3.out.bk.r2.cell (i := 2) rfl
                have tf := fun i => A3.out.bk.r2.free i
                have u0 := A3.out.bk.r3.cell (i := 0) rfl
                have u1 := A3.out.bk.r3.cell (i := 1) rfl
                have uf := fun i => A3.out.bk.r3.free i
                have HM := hid (HM.out.trans (by rw [endE_bad hbad, if_neg hbad]) : readM t = (zeroShot, q6.2.2))
                obtain ⟨y1, y2, _, y4⟩ := A3.out.bk.res (.string ⟨#[]⟩) (.slice none 0 0) (.slice none 0 0) (.slice none 0 0) (.int .i64 0)
                have z0 := y1.cell (i := 0) rfl
                have z1 := y1.cell (i := 1) rfl
                have z2 := y1.cell (i := 2) rfl
                have z3 := y2.cell (i := 0) rfl
                have z4 := y2.cell (i := 1) rfl
                go_region_law (fail)
                all_goals
                  go_wp2_with fail
                  refine bodyPost_ret (v := .tuple #[.agg #[.string ⟨#[]⟩, .slice none 0 0, .slice none 0 0], .agg #[.slice none 0 0, .int .i64 0], .int .i64 q6.2.2]) (by simp [results, Try.results64, go_sem, z0, z1, z2, z3, z4]) rfl ?_
                  exact read_err HM.out (below_drew (A3.out.bl.trans y4))
end Go.Proofs.Ytpapblahnbeccaa
