/-
  SHOTS: the walk of the reference's Read. Condition: the text's length in the form's reach.
-/
import Derived.Test.YtpapblahnbeccaaRsB
import Derived.Test.YtpapblahnbeccaaRea
import Derived.Test.YtpapblahnbeccaaSwg
import Derived.Deep.CutBlock
namespace Go.Proofs.Ytpapblahnbeccaa
open Go.RowKit Go.Lib
attribute [local go_sem ↓] Go.wp_at_zero Go.wp_at_succ

theorem say_fst (b : Bool) (e : Int) (s : ByteArray × Int) : (sayM b e s).1 = s.1 := by unfold sayM; split <;> rfl
theorem say_if {N : Nat} {s : ByteArray × Int} (h0 : s.2 ≠ 0 → N = 0) : (skipM N 0 (sayM (decide (s.1.size < N)) 3 s)).2 = stR N s ∧ (skipM N 0 (sayM (decide (s.1.size < N)) 3 s)).1 = decide (s.2 = 0 ∧ N ≤ s.1.size) := by
  obtain ⟨r, b⟩ := s
  simp only at h0
  by_cases hb : b = 0
  · subst hb
    by_cases hlt : (r.size : Int) < N
    · have e : sayM (decide (r.size < N)) 3 (r, 0) = (r, 3) := by unfold sayM; rw [if_pos ⟨decide_eq_true (by omega), rfl⟩]
      rw [e]
      unfold skipM stR
      rw [if_pos (by show (3 : Int) ≠ 0; decide), if_pos hlt]
      exact ⟨rfl, by symm; simp; omega⟩
    · have e : sayM (decide (r.size < N)) 3 (r, 0) = (r, 0) := by unfold sayM; rw [if_neg (by simp; omega)]
      rw [e]
      unfold skipM stR
      rw [if_neg (by simp), if_neg (by simp), if_neg hlt]
      exact ⟨rfl, by symm; simp; omega⟩
  · have hN := h0 hb
    subst hN
    have e : sayM (decide (r.size < 0)) 3 (r, b) = (r, b) := by unfold sayM; rw [if_neg (by rintro ⟨h1, h2⟩; exact hb h2)]
    rw [e]
    unfold skipM stR
    have hnn : ¬ ((r.size : Int) < ((0 : Nat) : Int)) := by omega
    rw [if_pos hb, if_neg hnn]
    refine ⟨?_, by symm; simp [hb]⟩
    simp only
    rw [ByteArray.extract_zero_size]

set_option maxRecDepth 100000 in
set_option maxHeartbeats 8000000 in
theorem rread_any (w : World) (t : ByteArray) (ht : t.size ≤ 140737488351232) :
    Calls Try.prog 65 #[.string t] w fun e w' => ReadP w t e w' := by
  have hc := cover_any t (W4 w)
  rw [W4_size] at hc
  have HC := hid hc
  have BK := hid (W4_bk w)
  have HB := hid (W4_below w)
  have HSZ := hid (W4_size w)
  clear hc
  unfold W4 at *
  have hsuf : Suf t (cntM 2048 (t, 0)).2 := cnt_suf ⟨0, Nat.zero_le _, ByteArray.extract_zero_size.symm⟩
  have hcf := cntM_facts 2048 (by decide) (t, 0)
  have HM := hid (fun N s => readM_ref (t := t) (N := N) (s := s))
  have HSU := hid hsuf
  have HCC := hid (fun w' B h => ccount_any w' B t.size (t, 0) 2048 h ht)
  clear hsuf
  generalize cntM 2048 (t, 0) = q0 at *
  obtain ⟨n, s⟩ := q0
  simp only at HCC hcf ⊢
  obtain ⟨N, rfl⟩ := Int.eq_ofNat_of_zero_le hcf.1
  have HM := hid (HM.out N s rfl)
  have hs : okSc s := by unfold okSc; omega
  go_enter Try.func65, Try.ntmps65
  go_wp2_with fail
  refine HC.out.mono ?_
  rintro r w1 ⟨rfl, h1, h2⟩
  have hsz1 : w.heap.size + 5 ≤ w1.heap.size := by have := h1.lt; omega
  have a1 : SB w1.heap.size w (w1.alloc (.cells #[.pointer (some ⟨w.heap.size + 1 + 1 + 1 + 1, 0, none⟩)] 218)) t.size [.string ⟨#[]⟩, .slice none 0 0, .slice none 0 0] [.slice none 0 0, .int .i64 0] (t, 0) (.slice none 0 0) (.slice none 0 0) (.slice none 0 0) [] [] [] := by
    refine ⟨SA.below ⟨BK.out.belowW (h2.mono (by rw [HSZ.out]; omega)), ShRw.nil _ _, h1, HB.out.trans (h2.mono (by omega))⟩ ((Below.refl _ _).alloc (Nat.le_refl _) _), hsz1, Blk.new _ _ _ _ rfl⟩
  have A1 := hid a1
  clear a1 h1 h2 HC BK HB HSZ
  have c0 := A1.out.cells
  have HC := hid (HCC.out _ _ A1.out.a.rd)
  go_wp2_with fail
  refine HC.out.mono ?_
  rintro r w2 ⟨rfl, h1, h2⟩
  have A2 := hid (A1.out.read h2 h1)
  clear h1 h2 HC HCC A1 c0
  have c0 := A2.out.cells
  have r0 := A2.out.a.rd.cell (i := 0) rfl
  have HS := hid (csay_any w2.drew _ t.size s (decide (s.1.size < N)) 3 A2.out.drew.a.rd)
  have hss : (s.1.size : Int) ≤ 140737488351232 := by unfold okSc at hs; omega
  go_wp2_with fail
  go_region_held3 (fun w' => w'.cell? ⟨w1.heap.size, 0, none⟩ = some (.pointer (some ⟨w.heap.size + 1 + 1 + 1 + 1, 0, none⟩)) ∧ w'.cell? ⟨w.heap.size + 1 + 1 + 1 + 1, 0, none⟩ = some (.string s.1)) (first | exact ⟨c0, r0⟩ | go_keep) (first | (go_at_call 124; (with_reducible refine HS.out.mono ?_); rintro r w3 ⟨rfl, h1, h2⟩; have A3 := hid ((A2.out.drew).read h2 h1); clear h1 h2; have d0 := A3.out.cells; have d1 := A3.out.a.rd.cell (i := 0) rfl; rw [say_fst] at d1))
  all_goals
    clear A2 c0 r0 HS
    have hsi := say_if (N := N) (s := s) (fun h => by have := hcf.2.2.2 h; omega)
    have HK := hid (cskip_any w3 _ t.size (sayM (decide (s.1.size < N)) 3 s) N 0 A3.out.a.rd (fun g _ => by
      rw [say_fst]
      unfold sayM at g
      split at g
      · exact absurd g (by show ¬ (3 : Int) = 0; decide)
      · rename_i hn
        have h0 : ¬ (decide (s.1.size < N) = true) := fun e => hn ⟨e, g⟩
        have := of_decide_eq_false (by simpa using h0 : decide (s.1.size < N) = false)
        omega) (by unfold okSc; rw [say_fst]; exact hs))
    have HSI := hid hsi
    clear hsi
    rw [HSI.out.2] at HK
    clear d1
    have d0 := A3.out.cells
    obtain ⟨gg, hgg⟩ : ∃ gg, gg = decide (s.2 = 0 ∧ N ≤ s.1.size) := ⟨_, rfl⟩
    rw [← hgg] at HK
    have HGG := hid hgg
    clear hgg
    go_wp2_with fail
    refine HK.out.mono ?_
    rintro r w4 ⟨rfl, h1, h2⟩
    rw [HSI.out.1] at h1
    have A4 := hid (A3.out.read h2 h1)
    clear h1 h2 HK A3 HSI d0
    go_upto_if 28 with (fail)
    go_cut [] (fun wx => SB w1.heap.size w wx t.size [.string (memR N s), .slice none 0 0, .slice none 0 0] [.slice none 0 0, .int .i64 0] (stR N s) (.slice none 0 0) (.slice none 0 0) (.slice none 0 0) [] [] [])
    case first =>
      by_cases hok : s.2 = 0 ∧ N ≤ s.1.size
      · rw [decide_eq_true hok] at HGG
        obtain rfl := HGG.out
        clear HGG
        have hsuf := suf_mem HSU.out hok.2
        have hst : stR N s = (s.1.extract N s.1.size, s.2) := by unfold stR; rw [if_neg (by omega)]
        have hme : memR N s = s.1.extract 0 N := by unfold memR; rw [if_neg (by omega)]
        have A5 := A4
        rw [hst] at A4
        have HME := hid hme
        have hes : (s.1.extract N s.1.size).size = s.1.size - N := by rw [ByteArray.size_extract]; omega
        have e0 : ((t.size : Int) - ((s.1.extract N s.1.size).size : Int)) = ((t.size - (s.1.size - N) : Nat) : Int) := by rw [hes]; omega
        have HA : ∀ w', Below w4.heap.size w4 w' → Calls Try.prog 126 #[.pointer (some ⟨w.heap.size + 1 + 1 + 1 + 1, 0, none⟩)] w' fun r w2 => r = .returned (.int .i64 ((t.size - (s.1.size - N) : Nat) : Int)) ∧ Below w'.heap.size w' w2 := by
          intro w' hb
          have := cat_any w' _ t.size (s.1.extract N s.1.size, s.2) (A4.out.below hb).a.rd (by simp only; omega)
          rw [e0] at this
          exact this
        have HA := hid HA
        have c0 := A4.out.cells
        have x0 := A4.out.a.bk.xb.cell (i := 0) rfl
        have xf := A4.out.a.bk.xb.free 0
        have hX := hid hsuf.2
        have hN4 := hok.2
        have hN5 := hsuf.1
        clear hst hme hes e0 hsuf hok
        obtain ⟨lo, hlo⟩ : ∃ lo, lo = t.size - (s.1.size - N) - N := ⟨_, rfl⟩
        rw [← hlo] at hX
        have u5 : IntKind.i64.wrap (((t.size - (s.1.size - N) : Nat) : Int) - (N : Int)) = (lo : Int) := by rw [IntKind.wrap_i64]; omega
        have u6 : IntKind.i64.wrap (lo : Int) = (lo : Int) := by rw [IntKind.wrap_i64]; omega
        have u1 : (lo : Int) ≤ ((t.size - (s.1.size - N) : Nat) : Int) := by omega
        have u3 : ((t.size - (s.1.size - N) : Nat) : Int) ≤ (t.size : Int) := by omega
        have u0 : (0 : Int) ≤ (lo : Int) := by omega
        have v1 : lo ≤ t.size - (s.1.size - N) := by omega
        have v3 : t.size - (s.1.size - N) ≤ t.size := by omega
        have v0 : (0 : Int) ≤ ((t.size - (s.1.size - N) : Nat) : Int) := by omega
        have HLO := hid hlo
        clear hlo
        have hlt63 : ¬ (9223372036854775807 < t.size) := by omega
        have hlt64 : ¬ (9223372036854775807 < t.size - (s.1.size - N)) := by omega
        have hlt65 : ¬ (9223372036854775807 < lo) := by omega
        have HX3 : Hid (∀ w', Below w4.heap.size w4 w' → w'.cell? ⟨w1.heap.size, 0, none⟩ = some (.pointer (some ⟨w.heap.size + 1 + 1 + 1 + 1, 0, none⟩)) ∧ w'.cell? ⟨w.heap.size + 1 + 1, 0, none⟩ = some (.string ⟨#[]⟩) ∧ w'.frozen? ⟨w.heap.size + 1 + 1, 0, none⟩ = false) := hid (fun w' hb => ⟨(A4.out.below hb).cells, (A4.out.below hb).a.bk.xb.cell (i := 0) rfl, (A4.out.below hb).a.bk.xb.free 0⟩)
        generalize t.size - (s.1.size - N) = aa at *
        have hsl : ∀ w', (Instr.slice 9 (.string t) (some (.int .i64 (lo : Int))) (some (.int .i64 (aa : Int))) none).run Try.prog w' = .ok (.string (t.extract lo aa)) w' := fun w' => by
          rw [run_slice_string w' 9 t .i64 .i64 (lo : Int) (aa : Int) Try.underlying9 u0 u1 u3]
          simp
        have c0d : w4.drew.cell? ⟨w1.heap.size, 0, none⟩ = some (.pointer (some ⟨w.heap.size + 1 + 1 + 1 + 1, 0, none⟩)) := c0
        go_wp2_with fail
        go_region_held3 (fun w' => w'.cell? ⟨w1.heap.size, 0, none⟩ = some (.pointer (some ⟨w.heap.size + 1 + 1 + 1 + 1, 0, none⟩))) (first | exact c0 | exact (HX3.out _ HB5.out).1 | exact (HX3.out _ HB6.out).1 | exact ((A4.out.below HB6.out).setX 0 _).cells | go_keep) (first | (go_at_call 126; (with_reducible refine (HA.out w4.drew (drew_bel' (n := 1) (Below.refl _ _))).mono ?_); rintro r w5 ⟨rfl, h1⟩; have HB5 := hid ((drew_bel' (n := 1) (Below.refl w4.heap.size w4)).trans h1); clear h1) | (go_at_call 126; (with_reducible refine (HA.out _ HB5.out).mono ?_); rintro r w6 ⟨rfl, h1⟩; have HB6 := hid (HB5.out.trans (h1.mono HB5.out.size)); clear h1; have k1 := (HX3.out _ HB6.out).2.1; have k2 := (HX3.out _ HB6.out).2.2))
        all_goals
          go_wp2_with fail
          go_meet
          rw [HME.out, ← hX.out]
          exact (A5.out.below HB6.out).setX 0 _
      · rw [decide_eq_false hok] at HGG
        obtain rfl := HGG.out
        clear HGG
        have hme : memR N s = ⟨#[]⟩ := by
          unfold memR
          by_cases hlt : (s.1.size : Int) < N
          · rw [if_pos hlt]
          · rw [if_neg hlt]
            have h0 : s.2 ≠ 0 := fun e => hok ⟨e, by omega⟩
            have := hcf.2.2.2 h0
            have hN : N = 0 := by omega
            rw [hN]
            apply ByteArray.ext
            simp
        have HME := hid hme
        clear hme
        go_wp2_with fail
        go_meet
        rw [HME.out]
        exact A4.out
    case rest =>
      have A := hid hcut
      have hS0 : okSc (stR N s) := by
        unfold stR okSc at *
        split
        · simp only; omega
        · simp only; rw [ByteArray.size_extract]; omega
      have hmem : (memR N s).size ≤ 2048 := by
        unfold memR
        split
        · show (0 : Nat) ≤ 2048; omega
        · rw [ByteArray.size_extract]; omega
      have HOK := hid (tail_ok _ hmem (stR N s))
      unfold finB at HM
      clear hcut d0
      generalize memR N s = mem at *
      generalize stR N s = S0 at *
      obtain ⟨q1, hq1⟩ : ∃ q, q = cntM 16 S0 := ⟨_, rfl⟩
      obtain ⟨q2, hq2⟩ : ∃ q, q = valsN 32 q1.1.toNat q1.2 := ⟨_, rfl⟩
      obtain ⟨q3, hq3⟩ : ∃ q, q = listM 8 q2.2 := ⟨_, rfl⟩
      obtain ⟨q4, hq4⟩ : ∃ q, q = numM q3.2 := ⟨_, rfl⟩
      obtain ⟨q5, hq5⟩ : ∃ q, q = cntM 40 q4.2 := ⟨_, rfl⟩
      obtain ⟨q6, hq6⟩ : ∃ q, q = callsN q5.1.toNat q5.2 := ⟨_, rfl⟩
      have hT : tailM S0 = ((q2.1, q3.1, q4.1, q6.1), q6.2) := by subst hq6 hq5 hq4 hq3 hq2 hq1; rfl
      rw [hT] at HM HOK
      have f1 := cntM_facts 16 (by decide) S0
      have f2 := valsN_facts (bits := 32) (.inl rfl) q1.1.toNat q1.2
      have f3 := listM_facts (most := 8) (by decide) q2.2
      have f4 := numM_facts q3.2
      have f5 := cntM_facts 40 (by decide) q4.2
      have f6 := callsN_facts q5.1.toNat q5.2
      rw [← hq1] at f1
      rw [← hq2] at f2
      rw [← hq3] at f3
      rw [← hq4] at f4
      rw [← hq5] at f5
      rw [← hq6] at f6
      have HC := hid (ccount_any wc _ t.size S0 16 A.out.a.rd hS0)
      rw [← hq1] at HC
      have Q2 := hid hq2
      have Q3 := hid hq3
      have Q4 := hid hq4
      have Q5 := hid hq5
      have Q6 := hid hq6
      clear hq1 hq2 hq3 hq4 hq5 hq6 hT HSU
      obtain ⟨n1, s1⟩ := q1
      obtain ⟨N1, rfl⟩ := Int.eq_ofNat_of_zero_le f1.1
      simp only at f1 f2
      have o1 : okSc s1 := by unfold okSc at *; omega
      have o2 : okSc q2.2 := by unfold okSc at *; omega
      have o3 : okSc q3.2 := by unfold okSc at *; omega
      have o4 : okSc q4.2 := by unfold okSc at *; omega
      have o5 : okSc q5.2 := by unfold okSc at *; omega
      have HL3 := hid f3.2.1
      clear f3 f4
      have c0 := A.out.cells
      go_wp2_with fail
      refine HC.out.mono ?_
      rintro r w5 ⟨rfl, h1, h2⟩
      have B := hid (A.out.read h2 h1)
      clear HC h1 h2 A c0
      have c0 := B.out.cells
      go_wp2_with fail
      go_loopw [40] (fun i wr => ∃ (k : Nat) (vt : Value), k ≤ N1 ∧ i = .int .i64 k ∧ Hid (SB w1.heap.size w wr t.size [.string mem, vt, .slice none 0 0] [.slice none 0 0, .int .i64 0] (valsN 32 k s1).2 vt (.slice none 0 0) (.slice none 0 0) (valsN 32 k s1).1 [] [])) (fun i _ => N1 - (RowKit.intOf i).toNat)
      case atStart => exact ⟨0, _, Nat.zero_le _, rfl, B⟩
      case round =>
        obtain ⟨k, vt, hk, rfl, A⟩ := hrel
        clear B c0
        by_cases hlt1 : k < N1
        · have hvf := valsN_facts (bits := 32) (.inl rfl) k s1
          have HSG := hid (csigned_any wr.drew _ t.size _ 32 (.inl rfl) A.out.drew.a.rd (by unfold okSc at *; omega))
          rw [show ((32 : Nat) : Int) = 32 from rfl] at HSG
          have HST : Hid (valsN 32 (k + 1) s1 = ((valsN 32 k s1).1 ++ [(sgnM 32 (valsN 32 k s1).2).1], (sgnM 32 (valsN 32 k s1).2).2)) := hid rfl
          have hln := hvf.1
          clear hvf
          generalize valsN 32 k s1 = Q at *
          generalize sgnM 32 Q.2 = z at *
          have x1 : wr.drew.cell? ⟨w.heap.size + 1 + 1, 1, none⟩ = some vt := A.out.a.bk.xb.cell (i := 1) rfl
          have x1f : wr.drew.frozen? ⟨w.heap.size + 1 + 1, 1, none⟩ = false := A.out.a.bk.xb.free 1
          have c0 : wr.drew.cell? ⟨w1.heap.size, 0, none⟩ = some (.pointer (some ⟨w.heap.size + 1 + 1 + 1 + 1, 0, none⟩)) := A.out.cells
          go_wp2_with fail
          go_region_law (first | (go_simp; go_at_call 127; go_loud ((with_reducible refine HSG.out.mono ?_); rintro r w3 ⟨rfl, h1, h2⟩; have A3 := hid (A.out.drew.read h2 h1); have y1 := A3.out.a.bk.xb.cell (i := 1) rfl; have y1a := (fun o => cell_alloc o y1); have c1 := A3.out.cells; clear h1 h2)) | (refine step_one1 elem_intT (cs := [.int .i64 z.1]) (by rfl) _ _ (by rfl) (by rfl) (by rfl) rfl A3.out.a.rows.tab (by rfl) (by intro c hc; simp at hc; subst hc; rfl) (by omega) (by omega) A3.out.a.bl.size ?_; intro v' w4 ho hb hg; obtain ⟨ao2, cap2, rfl, _⟩ := own_sl ho; have A4 := hid (A3.out.pushT (n := z.1) hg.1 (by show World.ownsRow _ _ _ _ _ (Q.1 ++ [z.1]).length ((Q.1 ++ [z.1]).map _); rw [List.length_append, List.map_append]; exact ho)); have z1 := A4.out.a.bk.xb.cell (i := 1) rfl; have zf := A4.out.a.bk.xb.free 1; clear ho hb hg))
          all_goals
            go_wp2_with fail
            go_roundw
            case rel =>
              refine ⟨k + 1, .slice ao2 (k + 1) cap2, by omega, by go_num, ?_⟩
              rw [HST.out]
              have A5 := A4.out.setX 1 (.slice ao2 (Q.1.length + 1) cap2)
              rw [hln] at A5
              exact hid A5
            case measure => simp [RowKit.intOf]; omega
        · obtain rfl : k = N1 := by omega
          have e2 : valsN 32 k s1 = q2 := Q2.out.symm
          rw [e2] at A
          have c0 := A.out.cells
          have HV := hid (fun (w' : World) (A : SB w1.heap.size w w' t.size [.string mem, vt, .slice none 0 0] [.slice none 0 0, .int .i64 0] q2.2 vt (.slice none 0 0) (.slice none 0 0) q2.1 [] []) => clist_any w' _ w1.heap.size t.size q2.2 8 A.a.rd o2 (by decide) A.p (by omega))
          have HV := hid (HV.out wr A.out)
          rw [← Q3.out] at HV
          go_wp2_with fail
          refine HV.out.mono ?_
          rintro r w3 ⟨vg, rfl, hog, h1, h2⟩
          have A2 := hid ((A.out.read h2 h1).putG (own_mono' hog A.out.a.bl.size))
          obtain ⟨aog, capg, rfl, _⟩ := own_sl A2.out.a.rows.glob
          clear HV hog h1 h2 A c0
          have c0 := A2.out.cells
          have y2 := A2.out.a.bk.xb.cell (i := 2) rfl
          have y2f := A2.out.a.bk.xb.free 2
          have A3 := hid (A2.out.setX 2 (.slice aog q3.1.length capg))
          have c1 := A3.out.cells
          have HC := hid (cnum_any _ _ _ q3.2 A3.out.a.rd o3)
          rw [← Q4.out] at HC
          clear A2
          go_wp2_with fail
          refine HC.out.mono ?_
          rintro r w4 ⟨rfl, h1, h2⟩
          have A4 := hid (A3.out.read h2 h1)
          clear HC h1 h2 A3 c0 c1 y2 y2f
          have c0 := A4.out.cells
          have y2 := A4.out.a.bk.sb.cell (i := 1) rfl
          have y2f := A4.out.a.bk.sb.free 1
          have A5 := hid (A4.out.setS 1 (.int .i64 q4.1))
          have c1 := A5.out.cells
          have HC := hid (ccount_any _ _ _ q4.2 40 A5.out.a.rd o4)
          rw [← Q5.out] at HC
          clear A4
          obtain ⟨n2, s2⟩ := q5
          obtain ⟨N2, rfl⟩ := Int.eq_ofNat_of_zero_le f5.1
          go_wp2_with fail
          refine HC.out.mono ?_
          rintro r w5 ⟨rfl, h1, h2⟩
          have A6 := hid (A5.out.read h2 h1)
          clear HC h1 h2 A5 c0 c1 y2 y2f
          have c0 := A6.out.cells
          go_wp2_with fail
          go_loopw [59] (fun i wr => ∃ (k2 : Nat) (vc : Value), k2 ≤ N2 ∧ i = .int .i64 k2 ∧ Hid (SB w1.heap.size w wr t.size [.string mem, vt, .slice aog q3.1.length capg] [vc, .int .i64 q4.1] (callsN k2 s2).2 vt (.slice aog q3.1.length capg) vc q2.1 q3.1 (callsN k2 s2).1)) (fun i _ => N2 - (RowKit.intOf i).toNat)
          case atStart => exact ⟨0, _, Nat.zero_le _, rfl, A6⟩
          case round =>
            obtain ⟨k2, vc, hk2, rfl, A1⟩ := hrel
            clear A6 c0
            by_cases hlt2 : k2 < N2
            · have hcf2 := callsN_facts k2 s2
              have HST : Hid (callsN (k2 + 1) s2 = ((callsN k2 s2).1 ++ [(callM (callsN k2 s2).2).1], (callM (callsN k2 s2).2).2)) := hid rfl
              have hln := hcf2.1
              have hsz3 := hcf2.2.2
              clear hcf2
              generalize callsN k2 s2 = Q at *
              obtain ⟨p1, hp1⟩ : ∃ q, q = numM Q.2 := ⟨_, rfl⟩
              obtain ⟨p2, hp2⟩ : ∃ q, q = numM p1.2 := ⟨_, rfl⟩
              obtain ⟨p3, hp3⟩ : ∃ q, q = listM 20 p2.2 := ⟨_, rfl⟩
              obtain ⟨p4, hp4⟩ : ∃ q, q = listM 200 p3.2 := ⟨_, rfl⟩
              have hT : callM Q.2 = (⟨p1.1, p2.1, p3.1, p4.1⟩, p4.2) := by subst hp4 hp3 hp2 hp1; rfl
              rw [hT] at HST
              have g1 := numM_facts Q.2
              have g2 := numM_facts p1.2
              have g3 := listM_facts (most := 20) (by decide) p2.2
              have g4 := listM_facts (most := 200) (by decide) p3.2
              rw [← hp1] at g1
              rw [← hp2] at g2
              rw [← hp3] at g3
              rw [← hp4] at g4
              have z1 : okSc Q.2 := by unfold okSc at *; omega
              have z2 : okSc p1.2 := by unfold okSc at *; omega
              have z3 : okSc p2.2 := by unfold okSc at *; omega
              have z4 : okSc p3.2 := by unfold okSc at *; omega
              have HC := hid (cnum_any wr _ t.size Q.2 A1.out.a.rd z1)
              rw [← hp1] at HC
              have P2 := hid hp2
              have P3 := hid hp3
              have P4 := hid hp4
              clear hp1 hp2 hp3 hp4 hT g3 g4
              have hvc : ∀ k, vc.ownBlock = some k → k < wr.heap.size := by
                obtain ⟨css, h1, h2, h3⟩ := A1.out.a.rows.calls
                exact fun k hk => (h2.lt k hk).2
              have HVC := hid hvc
              clear hvc
              have c0 := A1.out.cells
              go_wp2_with fail
              refine HC.out.mono ?_
              rintro r w6 ⟨rfl, h1, h2⟩
              have A6 := hid (A1.out.read h2 h1)
              have s6 := h2.size
              clear HC h1 h2 A1 c0
              have c6 : Hid (Blk (w6.alloc (.cells #[.int .i64 p1.1, .int .i64 0, .slice none 0 0, .slice none 0 0] 216)) w6.heap.size 216 [.int .i64 p1.1, .int .i64 0, .slice none 0 0, .slice none 0 0]) := hid (Blk.new w6 _ _ _ rfl)
              have A7 := hid (A6.out.below ((Below.refl _ _).alloc (Nat.le_refl _) (.cells #[.int .i64 p1.1, .int .i64 0, .slice none 0 0, .slice none 0 0] 216)))
              have HC := hid (cnum_any _ _ _ p1.2 A7.out.a.rd z2)
              rw [← P2.out] at HC
              have hne : w6.heap.size ≠ w.heap.size + 1 + 1 + 1 + 1 := by have := A6.out.size; omega
              have hge : w.heap.size ≤ w6.heap.size := by have := A6.out.size; omega
              have c0 := A6.out.cells
              have c1 := A7.out.cells
              clear A6
              go_wp2_with fail
              refine HC.out.mono ?_
              rintro r w7 ⟨rfl, h1, h2⟩
              have A8 := hid (A7.out.read h2 h1)
              have c8 := hid (c6.out.touch h2 hne)
              have s7 := h2.size
              clear HC h1 h2 A7 c6 c0 c1
              have b1 := c8.out.cell (i := 1) rfl
              have b1f := c8.out.free 1
              have hvc : ∀ k, vc.ownBlock = some k → k < w6.heap.size := fun k hk => Nat.lt_of_lt_of_le (HVC.out k hk) s6
              have HVC := hid hvc
              clear hvc
              have A9 := hid (A8.out.setC c8.out hge HVC.out 1 (.int .i64 p2.1))
              have c9 := hid (c8.out.set 1 (.int .i64 p2.1))
              have HV := hid (clist_any _ _ _ _ p2.2 20 A9.out.a.rd z3 (by decide) A9.out.p (by omega))
              rw [← P3.out] at HV
              have c0 := A8.out.cells
              have c1 := A9.out.cells
              clear A8 c8
              go_wp2_with fail
              refine HV.out.mono ?_
              rintro r w8 ⟨vl, rfl, hol, h1, h2⟩
              have A10 := hid (A9.out.read h2 h1)
              have c10 := hid (c9.out.touch h2 hne)
              have ol := hid (own_mono' hol (b := w.heap.size) (by simp at s7 ⊢; omega))
              clear HV hol h1 h2 A9 c9 b1 b1f c0 c1
              obtain ⟨aol, capl, rfl, _⟩ := own_sl ol.out
              have b2 := c10.out.cell (i := 2) rfl
              have b2f := c10.out.free 2
              have s8 : w6.heap.size < w8.heap.size := c10.out.lt
              have K11 := KT.set (i := 2) c10.out (.slice aol p3.1.length capl)
              have A11 := hid (A10.out.setC c10.out hge HVC.out 2 (.slice aol p3.1.length capl))
              have c11 := hid (c10.out.set 2 (.slice aol p3.1.length capl))
              have ol11 := hid (K11.own ol.out rfl)
              have HV := hid (clist_any _ _ _ _ p3.2 200 A11.out.a.rd z4 (by decide) A11.out.p (by omega))
              rw [← P4.out] at HV
              have c0 := A10.out.cells
              have c1 := A11.out.cells
              clear A10 c10 ol K11
              go_wp2_with fail
              refine HV.out.mono ?_
              rintro r w9 ⟨vs, rfl, hos, h1, h2⟩
              have ol12 := hid ((KT.touch A11.out.a.rd h2).own ol11.out rfl)
              have A12 := hid (A11.out.read h2 h1)
              have c12 := hid (c11.out.touch h2 hne)
              have os := hid (own_mono' hos (b := w.heap.size) (by simp; omega))
              clear HV hos h1 h2 A11 c11 b2 b2f ol11 c0 c1
              obtain ⟨aos, caps, rfl, _⟩ := own_sl os.out
              have b3 := c12.out.cell (i := 3) rfl
              have b3f := c12.out.free 3
              have K13 := KT.set (i := 3) c12.out (.slice aos p4.1.length caps)
              have A13 := hid (A12.out.setC c12.out hge HVC.out 3 (.slice aos p4.1.length caps))
              have c13 := hid (c12.out.set 3 (.slice aos p4.1.length caps))
              have ol13 := hid (K13.own ol12.out rfl)
              have os13 := hid (K13.own os.out rfl)
              clear A12 c12 ol12 os K13
              have d0 := c13.out.cell (i := 0) rfl
              have d1 := c13.out.cell (i := 1) rfl
              have d2 := c13.out.cell (i := 2) rfl
              have d3 := c13.out.cell (i := 3) rfl
              have e0 := A13.out.a.bk.sb.cell (i := 0) rfl
              have e0f := A13.out.a.bk.sb.free 0
              obtain ⟨css, hc1, hc2, hc3⟩ := id A13.out.a.rows.calls
              have HC3 := hid hc3
              have HC2 := hid hc2
              have hHS : w.heap.size ≤ (w9.setCell ⟨w6.heap.size, 3, none⟩ (.slice aos p4.1.length caps)).heap.size := by have := A13.out.size; omega
              clear hc3 hc2
              go_wp2_with (at_builtin; go_loud (refine app_one elem_Call (cs := [.int .i64 p1.1, .int .i64 p2.1, .slice aol p3.1.length capl, .slice aos p4.1.length caps]) rfl _ _ rfl rfl rfl (by simp) HC2.out rfl (by intro c hc; simp at hc; rcases hc with rfl | rfl | rfl | rfl <;> rfl) (by omega) (by omega) hHS ?_); intro v' w10 ho' hb' hg'; obtain ⟨ao2, cap2, rfl, _⟩ := own_sl ho'; have A14 := hid (A13.out.push (c := ⟨p1.1, p2.1, p3.1, p4.1⟩) ol13.out os13.out hg'.1 hc1 HC2.out HC3.out ho'); clear ho' hb' hg'; have f0 := A14.out.a.bk.sb.cell (i := 0) rfl; have f0f := A14.out.a.bk.sb.free 0)
              go_roundw
              case rel =>
                refine ⟨k2 + 1, .slice ao2 (k2 + 1) cap2, by omega, by go_num, ?_⟩
                rw [HST.out]
                have A15 := A14.out.setS 0 (.slice ao2 (Q.1.length + 1) cap2)
                rw [hln] at A15
                exact hid A15
              case measure => simp [RowKit.intOf]; omega
            · obtain rfl : k2 = N2 := by omega
              have e6 : callsN k2 s2 = q6 := Q6.out.symm
              rw [e6] at A1
              clear Q6 e6 f5 f6 Q5
              have HS := hid (fun b => csay_any wr.drew _ t.size q6.2 b 4 A1.out.drew.a.rd)
              have c0 : wr.drew.cell? ⟨w1.heap.size, 0, none⟩ = some (.pointer (some ⟨w.heap.size + 1 + 1 + 1 + 1, 0, none⟩)) := A1.out.cells
              have r0 : wr.drew.cell? ⟨w.heap.size + 1 + 1 + 1 + 1, 0, none⟩ = some (.string q6.2.1) := A1.out.a.rd.cell (i := 0) rfl
              go_wp2_with fail
              go_region_held3 (fun w' => w'.cell? ⟨w1.heap.size, 0, none⟩ = some (.pointer (some ⟨w.heap.size + 1 + 1 + 1 + 1, 0, none⟩)) ∧ w'.cell? ⟨w.heap.size + 1 + 1 + 1 + 1, 0, none⟩ = some (.string q6.2.1)) (first | exact ⟨c0, r0⟩ | go_keep) (first | (go_at_call 124; (with_reducible refine (HS.out _).mono ?_); rintro r w8 ⟨rfl, h1, h2⟩; have A2 := hid ((A1.out.drew).read h2 h1); clear h1 h2; have d0 := A2.out.cells; have d1 := A2.out.a.rd.cell (i := 0) rfl; rw [say_fst] at d1))
              have hfix : ∀ b, (sayM b 4 q6.2) = (q6.2.1, (sayM b 4 q6.2).2) := fun b => Prod.ext (say_fst b 4 q6.2) rfl
              have HF := hid hfix
              clear hfix HS c0 r0 A1
              obtain ⟨bb, hbb⟩ : ∃ bb, bb = (!q6.2.1.toList.isEmpty) := ⟨_, rfl⟩
              rw [← hbb] at A2
              have HBB := hid hbb
              clear hbb d1
              have c2 := A2.out.a.rd.cell (i := 2) rfl
              by_cases hbad : (sayM bb 4 q6.2).2 = 0
              · obtain ⟨hq0, hbf⟩ := say_zero (by decide) hbad
                have hS : sayM bb 4 q6.2 = q6.2 := by rw [hbf]; unfold sayM; rw [if_neg (by simp)]
                rw [hS] at A2 c2 hbad
                rw [hq0] at c2
                have HE := hid (HBB.out.symm.trans hbf)
                have hE : endE t (shotOf mem (q2.1, q3.1, q4.1, q6.1)) q6.2 = (sayM (!(shotS (shotOf mem (q2.1, q3.1, q4.1, q6.1))).toList == t.toList) 4 q6.2).2 := endE_say2 hq0 HE.out
                have HE2 := hid hE
                clear hE hS hbf HE HBB HF
                obtain ⟨E, hE⟩ := shotV_S (shotOf mem (q2.1, q3.1, q4.1, q6.1))
                have x0 := A2.out.a.bk.xb.cell (i := 0) rfl
                have x1 := A2.out.a.bk.xb.cell (i := 1) rfl
                have x2 := A2.out.a.bk.xb.cell (i := 2) rfl
                have y0 := A2.out.a.bk.sb.cell (i := 0) rfl
                have y1 := A2.out.a.bk.sb.cell (i := 1) rfl
                have HW := hid (rswrite_any w8 (shotOf mem (q2.1, q3.1, q4.1, q6.1)) vt _ vc (OwnI.ints A2.out.a.rows.tab) (OwnI.ints A2.out.a.rows.glob) A2.out.a.rows.calls.calls HOK.out)
                rw [hE] at HW
                clear hE
                go_wp2_with fail
                refine HW.out.mono ?_
                rintro r w11 ⟨rfl, hb⟩
                have A3 := hid (A2.out.below hb)
                clear hb A2 x0 x1 x2 y0 y1 d0 c2
                have c0 := A3.out.cells
                have HS := hid (fun b => csay_any w11 _ t.size q6.2 b 4 A3.out.a.rd)
                generalize hSS : shotS (shotOf mem (q2.1, q3.1, q4.1, q6.1)) = SS at *
                go_wp2_with fail
                refine (HS.out _).mono ?_
                rintro r w12 ⟨rfl, h1, h2⟩
                have A4 := hid (A3.out.read h2 h1)
                clear HS h1 h2 A3 c0
                have d0 := A4.out.cells
                have d2 := A4.out.a.rd.cell (i := 2) rfl
                generalize (!SS.toList == t.toList) = nn at *
                by_cases hn : (sayM nn 4 q6.2).2 = 0
                · rw [hn] at d2
                  have HM := hid (HM.out.trans (by rw [HE2.out, hn]; rfl) : readM t = (shotOf mem (q2.1, q3.1, q4.1, q6.1), 0))
                  clear f2 HE2 hn
                  obtain ⟨aot, capt, rfl, _⟩ := own_sl A4.out.a.rows.tab
                  obtain ⟨css, _, hcs2, _⟩ := id A4.out.a.rows.calls
                  obtain ⟨aoc, capc, rfl, _⟩ := own_sl hcs2
                  clear hcs2
                  have AE := A4
                  clear A4
                  have t0 := AE.out.a.bk.r2.cell (i := 0) rfl
                  have t1 := AE.out.a.bk.r2.cell (i := 1) rfl
                  have t2 := AE.out.a.bk.r2.cell (i := 2) rfl
                  have tf := fun i => AE.out.a.bk.r2.free i
                  have u0 := AE.out.a.bk.r3.cell (i := 0) rfl
                  have u1 := AE.out.a.bk.r3.cell (i := 1) rfl
                  have uf := fun i => AE.out.a.bk.r3.free i
                  have x0 := AE.out.a.bk.xb.cell (i := 0) rfl
                  have x1 := AE.out.a.bk.xb.cell (i := 1) rfl
                  have x2 := AE.out.a.bk.xb.cell (i := 2) rfl
                  have v0 := AE.out.a.bk.sb.cell (i := 0) rfl
                  have v1 := AE.out.a.bk.sb.cell (i := 1) rfl
                  obtain ⟨y1, y2, y3, y4⟩ := AE.out.a.bk.res (.string mem) (.slice aot q2.1.length capt) (.slice aog q3.1.length capg) (.slice aoc q6.1.length capc) (.int .i64 q4.1)
                  have z0 := y1.cell (i := 0) rfl
                  have z1 := y1.cell (i := 1) rfl
                  have z2 := y1.cell (i := 2) rfl
                  have z3 := y2.cell (i := 0) rfl
                  have z4 := y2.cell (i := 1) rfl
                  go_wp2_with fail
                  go_region_law (fail)
                  all_goals
                    go_wp2_with fail
                    refine bodyPost_ret (v := .tuple #[.agg #[.string mem, .slice aot q2.1.length capt, .slice aog q3.1.length capg], .agg #[.slice aoc q6.1.length capc, .int .i64 q4.1], .int .i64 0]) (by simp [results, Try.results65, go_sem, z0, z1, z2, z3, z4]) rfl ?_
                    exact read_good HM.out (ShRw.drew (y3 _ _ _ _ _ _ AE.out.a.rows)) (below_drew (AE.out.a.bl.trans y4))
                · have hn2 : ((sayM nn 4 q6.2).2 != 0) = true := by simpa using hn
                  have HM := hid (HM.out.trans (by rw [HE2.out, if_neg hn]) : readM t = (zeroShot, (sayM nn 4 q6.2).2))
                  have AE := A4
                  clear A4 HE2
                  generalize (sayM nn 4 q6.2).2 = E at *
                  go_wp2_with fail
                  have t0 := AE.out.a.bk.r2.cell (i := 0) rfl
                  have t1 := AE.out.a.bk.r2.cell (i := 1) rfl
                  have t2 := AE.out.a.bk.r2.cell (i := 2) rfl
                  have tf := fun i => AE.out.a.bk.r2.free i
                  have u0 := AE.out.a.bk.r3.cell (i := 0) rfl
                  have u1 := AE.out.a.bk.r3.cell (i := 1) rfl
                  have uf := fun i => AE.out.a.bk.r3.free i
                  obtain ⟨y1, y2, _, y4⟩ := AE.out.a.bk.res (.string ⟨#[]⟩) (.slice none 0 0) (.slice none 0 0) (.slice none 0 0) (.int .i64 0)
                  have z0 := y1.cell (i := 0) rfl
                  have z1 := y1.cell (i := 1) rfl
                  have z2 := y1.cell (i := 2) rfl
                  have z3 := y2.cell (i := 0) rfl
                  have z4 := y2.cell (i := 1) rfl
                  go_region_law (fail)
                  all_goals
                    go_wp2_with fail
                    refine bodyPost_ret (v := .tuple #[.agg #[.string ⟨#[]⟩, .slice none 0 0, .slice none 0 0], .agg #[.slice none 0 0, .int .i64 0], .int .i64 E]) (by simp [results, Try.results65, go_sem, z0, z1, z2, z3, z4]) rfl ?_
                    exact read_err HM.out (below_drew (AE.out.a.bl.trans y4))
              · have hn2 : ((sayM bb 4 q6.2).2 != 0) = true := by simpa using hbad
                have hn3 : ((sayM bb 4 q6.2).2 == 0) = false := by simpa using hbad
                have hE : endE t (shotOf mem (q2.1, q3.1, q4.1, q6.1)) q6.2 = (sayM bb 4 q6.2).2 := by rw [HBB.out] at hbad ⊢; exact endE_say1 hbad
                have HM := hid (HM.out.trans (by rw [hE, if_neg hbad]) : readM t = (zeroShot, (sayM bb 4 q6.2).2))
                have AE := A2
                clear A2 hE
                generalize (sayM bb 4 q6.2).2 = E at *
                go_wp2_with fail
                have t0 := AE.out.a.bk.r2.cell (i := 0) rfl
                have t1 := AE.out.a.bk.r2.cell (i := 1) rfl
                have t2 := AE.out.a.bk.r2.cell (i := 2) rfl
                have tf := fun i => AE.out.a.bk.r2.free i
                have u0 := AE.out.a.bk.r3.cell (i := 0) rfl
                have u1 := AE.out.a.bk.r3.cell (i := 1) rfl
                have uf := fun i => AE.out.a.bk.r3.free i
                obtain ⟨y1, y2, _, y4⟩ := AE.out.a.bk.res (.string ⟨#[]⟩) (.slice none 0 0) (.slice none 0 0) (.slice none 0 0) (.int .i64 0)
                have z0 := y1.cell (i := 0) rfl
                have z1 := y1.cell (i := 1) rfl
                have z2 := y1.cell (i := 2) rfl
                have z3 := y2.cell (i := 0) rfl
                have z4 := y2.cell (i := 1) rfl
                go_region_law (fail)
                all_goals
                  go_wp2_with fail
                  refine bodyPost_ret (v := .tuple #[.agg #[.string ⟨#[]⟩, .slice none 0 0, .slice none 0 0], .agg #[.slice none 0 0, .int .i64 0], .int .i64 E]) (by simp [results, Try.results65, go_sem, z0, z1, z2, z3, z4]) rfl ?_
                  exact read_err HM.out (below_drew (AE.out.a.bl.trans y4))
end Go.Proofs.Ytpapblahnbeccaa
