/-
  LINES OF INSTRUCTIONS: the reference's AsmWrite. Condition: the variable that strings.Split reads holds some number.
-/
import Derived.Test.YtnifgmijjggjjaaDoorGAsmSays5
import Derived.Test.YtnifgmijjggjjaaDoorGAsmSays12
import Derived.Test.YtnifgmijjggjjaaDoorGAsmSays13
import Derived.Test.YtnifgmijjggjjaaDoorNsV
namespace Go.Proofs.YtnifgmijjggjjaaDoor
open Go.RowKit Go.Lib
attribute [local go_sem ↓] Go.wp_at_zero Go.wp_at_succ

/-- what stands behind the name -/
def flL (k : Nat) (A B : Int) (xs : List Int) : List UInt8 := ((wdM k A B xs).map (fun w => (32 : UInt8) :: w)).flatten
theorem flL_some (A B : Int) (xs : List Int) : (∀ k, k = 1 ∨ k = 7 → flL k A B xs = []) ∧ (∀ k, k = 3 ∨ k = 5 ∨ k = 8 ∨ k = 9 → flL k A B xs = 32 :: itL A) ∧ flL 6 A B xs = 32 :: itL A ++ 32 :: itL B ∧ flL 4 A B xs = ((xs ++ [A]).map (fun z => 32 :: itL z)).flatten ∧ flL 2 64 B xs = [] ∧ flL 2 127 B xs = [32, 105, 51, 50] ∧ flL 2 126 B xs = [32, 105, 54, 52] := by
  unfold flL wdM
  refine ⟨?_, ?_, ?_, ?_, rfl, rfl, rfl⟩
  · rintro k (rfl | rfl) <;> rfl
  · rintro k (rfl | rfl | rfl | rfl) <;> simp
  · simp
  · simp [List.map_map, Function.comp_def]
theorem kidx_64 (w : World) : (Instr.index 56 (.agg ((Tryd.zeroCells56.setIfInBounds 126 (.string ⟨#[32, 105, 54, 52]⟩)).setIfInBounds 127 (.string ⟨#[32, 105, 51, 50]⟩))) (.int .i64 64)).run Tryd.prog w = .ok (.string ⟨#[]⟩) w := by kernel_rfl
theorem kidx_126 (w : World) : (Instr.index 56 (.agg ((Tryd.zeroCells56.setIfInBounds 126 (.string ⟨#[32, 105, 54, 52]⟩)).setIfInBounds 127 (.string ⟨#[32, 105, 51, 50]⟩))) (.int .i64 126)).run Tryd.prog w = .ok (.string ⟨#[32, 105, 54, 52]⟩) w := by kernel_rfl
theorem kidx_127 (w : World) : (Instr.index 56 (.agg ((Tryd.zeroCells56.setIfInBounds 126 (.string ⟨#[32, 105, 54, 52]⟩)).setIfInBounds 127 (.string ⟨#[32, 105, 51, 50]⟩))) (.int .i64 127)).run Tryd.prog w = .ok (.string ⟨#[32, 105, 51, 50]⟩) w := by kernel_rfl
set_option maxRecDepth 100000 in
set_option maxHeartbeats 16000000 in
theorem rawrite_any (w : World) (v : Value) (l : List It) (hok : ∀ x ∈ l, ItOk x) (h : BodS w v l) (hM : MaxL w) :
    Calls Tryd.prog 7 #[v] w fun e w' => e = .returned (.tuple #[.string (S (wrM l).1), .int .i64 (wrM l).2]) ∧ Below w.heap.size w w' := by
  have HC := hid (rncheck_any w v l hok h hM)
  have HG := hid (ncM_good hok)
  have HCK := hid (fun (h0 : ncM l = 0) x hx => (show itC x = 0 from by unfold ncM at h0; split at h0; (exact absurd h0 (by decide)); exact chk_zero _ _ _ h0 x hx))
  have H := hid h
  have HM := hid hM
  obtain ⟨ao, cap, rfl⟩ : ∃ ao cap, v = .slice ao l.length cap := by
    obtain ⟨_, _, ⟨ao, cap, e, _⟩, _⟩ := h
    exact ⟨ao, cap, e⟩
  obtain ⟨E, hE⟩ : ∃ E, ncM l = E := ⟨_, rfl⟩
  have HW := hid (show wrM l = if E ≠ 0 then ([], E) else if 6000 < (textL l).length then ([], 2) else (textL l, 0) from by unfold wrM; rw [hE])
  rw [hE] at HC HG HCK
  clear hM hok hE h
  by_cases h0 : E = 0
  · obtain ⟨g1, g2⟩ := HG.out h0
    have HGG := hid g2
    have HCK2 := hid (HCK.out h0)
    have HTL := hid (text_len l g2)
    rw [h0] at HC HW
    rw [HW.out, if_neg (by simp)]
    obtain ⟨X, Y, hXY⟩ : ∃ X Y, (if 6000 < (textL l).length then (([] : List UInt8), (2 : Int)) else (textL l, 0)) = (X, Y) := ⟨_, _, rfl⟩
    rw [hXY]
    have HXY := hid hXY
    clear hXY g2 HG HW HCK
    generalize hn : l.length = n at *
    have HN := hid hn
    clear hn
    go_enter Tryd.func7, Tryd.ntmps7
    go_wp2_with fail
    refine HC.out.mono ?_
    rintro r w1 ⟨rfl, hb1⟩
    have B1 := hid hb1
    clear hb1
    go_wp2_with fail
    go_loopw [20, 5] (fun i o wr => ∃ k : Nat, k ≤ n ∧ i = .int .i64 k ∧ o = .string (S (textL (l.take k))) ∧ Hid (Below w.heap.size w wr)) (fun i _ _ => n - (RowKit.intOf i).toNat)
    case atStart => exact ⟨0, Nat.zero_le _, rfl, rfl, B1⟩
    case round =>
      obtain ⟨k, hk, rfl, rfl, HB⟩ := hrel
      by_cases hlt0 : k < n
      · have hlt : k < l.length := by rw [HN.out]; exact hlt0
        have hltI : (k : Int) < n := by omega
        have HTK := hid (show textL (l.take (k + 1)) = textL (l.take k) ++ lineL l[k] from by unfold textL; rw [List.take_succ_eq_append_getElem hlt, List.flatMap_append]; simp)
        have HTS := hid (text_len (l.take k) (fun x hx => HGG.out x (List.mem_of_mem_take hx)))
        have HLT := hid (show (l.take k).length ≤ 200 from by rw [List.length_take]; omega)
        obtain ⟨lb, lo, cap', u, hv, hu, y0, y1, y2, y3⟩ := bod_cells (H.out.below HB.out) k hlt
        simp only [Value.slice.injEq] at hv
        obtain ⟨rfl, hnn, rfl⟩ := hv
        clear hnn
        have hx := HGG.out _ (List.getElem_mem hlt)
        have HCX := hid (HCK2.out _ (List.getElem_mem hlt))
        generalize textL (l.take k) = T at *
        generalize l[k] = x at *
        obtain ⟨op, A, C, xs⟩ := x
        have HX := hid hx
        have HU := hid hu
        obtain ⟨au, cu, rfl, _⟩ := id hu
        simp only at y0 y1 y2 y3
        have HNL := hid (show (nmM op).1.length ≤ 20 from nm_len ⟨op, hx.op⟩)
        have HLL := hid (show lineL ⟨op, A, C, xs⟩ = ((nmM op).1 ++ flL (tB op) A C xs) ++ [10] from rfl)
        have HLN := hid (line_len _ hx)
        have BA := hid ((Below.refl wr.heap.size wr).alloc (Nat.le_refl _) (.cells #[.int .u8 op, .int .i64 A, .int .i64 C, .slice au xs.length cu] 45))
        have b0 := Blk.new wr #[.int .u8 op, .int .i64 A, .int .i64 C, .slice au xs.length cu] 45 _ rfl
        have z0 := b0.cell (i := 0) rfl
        have XB := hid b0
        have HNM := hid (rname_any op hx.op _ ((HM.out.below HB.out).below BA.out))
        have HBS := hid (fun wx (hb : Below wr.heap.size wr wx) => rbeside_any op hx.op wx ((HM.out.below HB.out).below hb))
        obtain ⟨F, hF⟩ : ∃ F, S (sdL (tB op)) = F := ⟨_, rfl⟩
        rw [hF] at HBS
        have HFF := hid hF
        have HCC := hid (fun n' wx => chr_any n' wx)
        clear hlt hx hu b0 hF
        generalize (nmM op).1 = nm at *
        generalize (nmM op).2 = nb at *
        go_wp2_with fail
        refine HNM.out.mono ?_
        rintro r w2 ⟨rfl, hb2⟩
        have X2 := hid (XB.out.below hb2)
        have B2 := hid (BA.out.trans (hb2.mono BA.out.size))
        have q0 := X2.out.cell (i := 0) rfl
        clear hb2 z0 HNM XB BA
        go_wp2_with fail
        refine (HBS.out _ B2.out).mono ?_
        rintro r w3 ⟨rfl, hb3⟩
        have X3 := hid (X2.out.below hb3)
        have B3 := hid (B2.out.trans (hb3.mono B2.out.size))
        clear hb3 q0 HBS X2 B2
        go_upto_block 2 with fail
        go_cut [8] (fun s wx => s = .string (S (nm ++ flL (tB op) A C xs)) ∧ Hid (Below wr.heap.size wr wx))
        case first =>
          have z0 := X3.out.cell (i := 0) rfl
          have z1 := X3.out.cell (i := 1) rfl
          have z2 := X3.out.cell (i := 2) rfl
          have z3 := X3.out.cell (i := 3) rfl
          have hk0 := (chk_ok HCX.out).1
          have HOA := hid (chk_ok HCX.out).2.2.1
          have HBD := hid HX.out
          simp only at hk0 HOA
          have g := sd_c ⟨tB op, by have := tB_le ⟨op, HX.out.op⟩; simp only at this; omega⟩ hk0
          simp only [List.any_eq_true, decide_eq_true_eq] at g
          obtain ⟨c, hc, hkk, hs, hca⟩ := g
          have HF2 := hid (HFF.out.symm.trans hs)
          simp only [sd_l, List.mem_cons, List.not_mem_nil, or_false] at hc
          have HDG := hid (fun z (hz : -9223372036854775808 ≤ z ∧ z ≤ 9223372036854775807) wx => digits_all z hz wx)
          have hnl := HNL.out
          have hsn : (S nm).size = nm.length := S_size _
          have hB3 := hid B3.out.size
          clear hca hs hk0 HFF
          rcases hc with rfl | rfl | rfl | rfl | rfl | rfl | rfl | rfl | rfl
          · dsimp only at hkk HF2
            have hF := HF2.out
            subst hF
            clear HF2
            have HFL := hid ((flL_some A C xs).1 _ (.inl hkk))
            clear hkk
            go_wp2_with fail
            go_meet
            exact ⟨by rw [HFL.out, List.append_nil], B3⟩
          · dsimp only at hkk HF2
            have hF := HF2.out
            subst hF
            clear HF2
            have hAA : A = 64 ∨ A = 126 ∨ A = 127 := by have := HOA.out; rw [hkk] at this; exact of_decide_eq_true this
            rcases hAA with rfl | rfl | rfl
            · have HFL := hid (show flL (tB op) 64 C xs = [] from by rw [hkk]; exact (flL_some 64 C xs).2.2.2.2.1)
              have hix := kidx_64 w3
              have c1 : ¬ 9223372036854775807 < (S nm).size + 0 := by omega
              have HSS := hid (show S nm ++ (⟨#[]⟩ : ByteArray) = S (nm ++ []) from S_append _ _)
              clear hkk
              generalize S nm = SN at *
              go_wp2_with fail
              go_meet
              exact ⟨by rw [HFL.out, ← HSS.out], B3⟩
            · have HFL := hid (show flL (tB op) 126 C xs = [32, 105, 54, 52] from by rw [hkk]; exact (flL_some 126 C xs).2.2.2.2.2.2)
              have hix := kidx_126 w3
              have c1 : ¬ 9223372036854775807 < (S nm).size + 4 := by omega
              have HSS := hid (show S nm ++ (⟨#[32, 105, 54, 52]⟩ : ByteArray) = S (nm ++ [32, 105, 54, 52]) from S_append _ _)
              clear hkk
              generalize S nm = SN at *
              go_wp2_with fail
              go_meet
              exact ⟨by rw [HFL.out, ← HSS.out], B3⟩
            · have HFL := hid (show flL (tB op) 127 C xs = [32, 105, 51, 50] from by rw [hkk]; exact (flL_some 127 C xs).2.2.2.2.2.1)
              have hix := kidx_127 w3
              have c1 : ¬ 9223372036854775807 < (S nm).size + 4 := by omega
              have HSS := hid (show S nm ++ (⟨#[32, 105, 51, 50]⟩ : ByteArray) = S (nm ++ [32, 105, 51, 50]) from S_append _ _)
              clear hkk
              generalize S nm = SN at *
              go_wp2_with fail
              go_meet
              exact ⟨by rw [HFL.out, ← HSS.out], B3⟩
          · dsimp only at hkk HF2
            have hF := HF2.out
            subst hF
            clear HF2
            have HFL := hid ((flL_some A C xs).2.1 _ (.inl hkk))
            have HD := hid (HDG.out A HBD.out.A)
            have hil := itL_len A
            have hsi : (S (itL A)).size = (itL A).length := S_size _
            have c1 : ¬ 9223372036854775807 < 1 + (S (itL A)).size := by omega
            have c2 : ¬ 9223372036854775807 < (S nm).size + (1 + (S (itL A)).size) := by omega
            have HSS := hid (show S nm ++ ((⟨#[32]⟩ : ByteArray) ++ S (itL A)) = S (nm ++ 32 :: itL A) from by rw [show (⟨#[32]⟩ : ByteArray) = S [32] from rfl, S_append, S_append]; rfl)
            clear hkk hil hsi hsn
            generalize S nm = SN at *
            generalize S (itL A) = SA at *
            go_wp2_with (go_at_call 11; refine (HD.out _).mono ?_; rintro r w4 ⟨rfl, hb4⟩; have B4 := hid (B3.out.trans (hb4.mono hB3.out)); clear hb4)
            go_meet
            exact ⟨by rw [HFL.out, ← HSS.out], B4⟩
          · dsimp only at hkk HF2
            have hF := HF2.out
            subst hF
            clear HF2
            have hlx := HBD.out.len
            simp only at hlx
            have HALL := hid (fun m (h : m ∈ xs ++ [A]) => show -9223372036854775808 ≤ m ∧ m ≤ 9223372036854775807 from by
              rcases List.mem_append.1 h with h | h
              · exact HBD.out.tz m h
              · rw [List.mem_singleton.1 h]; exact HBD.out.A)
            have HFL := hid (show flL (tB op) A C xs = ((xs ++ [A]).map (fun z => 32 :: itL z)).flatten from by rw [hkk]; exact (flL_some A C xs).2.2.2.1)
            have HCP := hid (fun v' w' h => copy_i64 v' xs w' h (by omega))
            have HXI := hid (fun w' (hb : Below wr.heap.size wr w') => (L1.below HU.out hb : Ints w' .i64 (.slice au xs.length cu) xs))
            generalize hnn : xs.length = nx at *
            have HNX := hid hnn
            clear hnn hkk hsn
            have HD := hid (B3.out.drew)
            have HCE := hid (fun w' (hb : Below w3.drew.heap.size w3.drew w') => ((show Blk w3.drew wr.heap.size 45 [.int .u8 op, .int .i64 A, .int .i64 C, .slice au nx cu] from X3.out).below hb))
            have qd1 : ∀ o, (w3.alloc o).drew.cell? ⟨wr.heap.size, 1, none⟩ = some (.int .i64 A) := fun o => cell_alloc o z1
            have qd3 : ∀ o, (w3.alloc o).drew.cell? ⟨wr.heap.size, 3, none⟩ = some (.slice au nx cu) := fun o => cell_alloc o z3
            have hn1 : nx + 1 ≤ 17 := by omega
            go_wp2_with fail
            go_region_law (first | (go_simp; go_at_call 21; refine (HCP.out _ _ (by first | exact HXI.out _ HD.out | exact HXI.out _ (HD.out.alloc HD.out.size _))).mono ?_; rintro r w6 ⟨v6, rfl, ho6, hb6⟩; have HO6 := hid ho6; have hbs6 := hid hb6.size; have HB6 := hid (show Below w3.drew.heap.size w3.drew w6 from by first | exact hb6 | exact ((Below.refl _ _).alloc (Nat.le_refl _) _).trans (hb6.mono (((Below.refl w3.drew.heap.size w3.drew).alloc (Nat.le_refl _) _).size))); (try have hbk := hid ((Blk.new w3.drew #[.int .i64 A] 2 _ rfl).below hb6)); have e1 := (HCE.out _ HB6.out).cell (i := 1) rfl; have e3 := (HCE.out _ HB6.out).cell (i := 3) rfl; clear hb6 ho6) | (refine step_one1 elem_i64w (cs := [.int .i64 A]) rfl _ _ rfl rfl rfl rfl HO6.out rfl one_int (by rw [HNX.out]; omega) (by rw [HNX.out]; omega) hbs6.out ?_; intro v7 w7 ho7 hb7 hg7; rw [HNX.out] at ho7; obtain ⟨ao7, cap7, rfl, _⟩ := own_sl ho7; have HO7 := hid ho7; have HB7 := hid (HB6.out.trans (hb7.mono (Nat.le_refl _))); clear ho7 hb7 hg7) | (go_loud (refine step_one elem_i64w (cs := [.int .i64 A]) (by rfl) _ _ (by rfl) (by rfl) (by rfl) (blk_at1 hbk.out) HO6.out rfl one_int (by rw [HNX.out]; omega) (by rw [HNX.out]; omega) hbs6.out ?_; intro v7 w7 ho7 hb7 hg7; rw [HNX.out] at ho7; obtain ⟨ao7, cap7, rfl, _⟩ := own_sl ho7; have HO7 := hid ho7; have HB7 := hid (HB6.out.trans (hb7.mono (((Below.refl w3.drew.heap.size w3.drew).alloc (Nat.le_refl _) _).size))); clear ho7 hb7 hg7)))
            all_goals
              have HR7 := hid (fun wx (hb : Below w7.heap.size w7 wx) => show Ints wx .i64 (.slice ao7 (nx + 1) cap7) (xs ++ [A]) from by
                have h9 := Sl.below (own_sl HO7.out) hb
                show Sl wx _ (xs ++ [A]).length ((xs ++ [A]).map _)
                rw [List.map_append, List.length_append, HNX.out]
                exact h9)
              have HBA := hid (HD.out.trans (HB7.out.mono HD.out.size))
              clear qd1 qd3 e1 e3
              go_simp
              go_wp2_with fail
              go_loopw [52, 8] (fun i o wx => ∃ j : Nat, j ≤ nx + 1 ∧ i = .int .i64 j ∧ o = .string (S (nm ++ (((xs ++ [A]).take j).map (fun z => 32 :: itL z)).flatten)) ∧ Hid (Below w7.heap.size w7 wx)) (fun i _ _ => nx + 1 - (RowKit.intOf i).toNat)
              case atStart => exact ⟨0, Nat.zero_le _, rfl, by simp, hid (Below.refl _ _)⟩
              case round =>
                obtain ⟨j, hj, rfl, rfl, HBX⟩ := hrel
                by_cases hlt0 : j < nx + 1
                · have hlt1 : j < (xs ++ [A]).length := by rw [List.length_append, HNX.out]; exact hlt0
                  have hltI : (j : Int) < (nx : Int) + 1 := by omega
                  rcases L1.open (HR7.out _ HBX.out) with ⟨_, _, _, e, _⟩ | ⟨lb7, lo7, cap7', hv, _, _, _, hc⟩
                  · rw [e] at hlt1; simp at hlt1
                  simp only [Value.slice.injEq] at hv
                  obtain ⟨rfl, hnn, rfl⟩ := hv
                  clear hnn
                  have ha := hc j hlt1
                  have hnx : nm ++ (((xs ++ [A]).take (j + 1)).map (fun z => 32 :: itL z)).flatten = (nm ++ (((xs ++ [A]).take j).map (fun z => 32 :: itL z)).flatten) ++ 32 :: itL (xs ++ [A])[j] := by
                    rw [List.take_succ_eq_append_getElem hlt1, List.map_append, List.flatten_append, List.append_assoc]
                    simp
                  have hmem := List.getElem_mem hlt1
                  have hfl := flat_len (((xs ++ [A]).take j).map itL) (fun y hy => by obtain ⟨z, _, rfl⟩ := List.mem_map.1 hy; exact itL_len z)
                  rw [List.map_map, List.length_map, List.length_take] at hfl
                  have hfl2 : ((((xs ++ [A]).take j).map (fun z => 32 :: itL z)).flatten).length ≤ 17 * 23 := by
                    have e : ((fun w : List UInt8 => (32 : UInt8) :: w) ∘ itL) = (fun z => 32 :: itL z) := rfl
                    rw [e] at hfl
                    omega
                  have hsl : (S (nm ++ (((xs ++ [A]).take j).map (fun z => 32 :: itL z)).flatten)).size ≤ 411 := by rw [S_size, List.length_append]; omega
                  generalize (xs ++ [A])[j] = m at *
                  have HM2 := hid (HDG.out m (HALL.out m hmem))
                  have hil := itL_len m
                  have hsm : (S (itL m)).size = (itL m).length := S_size _
                  have HSS := hid (show S (nm ++ (((xs ++ [A]).take j).map (fun z => 32 :: itL z)).flatten) ++ ((⟨#[32]⟩ : ByteArray) ++ S (itL m)) = S (nm ++ (((xs ++ [A]).take (j + 1)).map (fun z => 32 :: itL z)).flatten) from by rw [hnx, show (⟨#[32]⟩ : ByteArray) = S [32] from rfl, S_append, S_append]; rfl)
                  generalize S (nm ++ (((xs ++ [A]).take j).map (fun z => 32 :: itL z)).flatten) = SN at *
                  have c1 : ¬ 9223372036854775807 < 1 + (S (itL m)).size := by omega
                  have c2 : ¬ 9223372036854775807 < SN.size + (1 + (S (itL m)).size) := by omega
                  generalize S (itL m) = SM at *
                  clear hc hnx hmem hfl hfl2 hsl hil hsm
                  go_wp2_with (go_at_call 11; refine (HM2.out _).mono ?_; rintro r w8 ⟨rfl, hb8⟩; have HB8 := hid (HBX.out.trans (hb8.mono HBX.out.size)); clear hb8)
                  go_roundw
                  case rel => exact ⟨j + 1, by omega, by go_num, by rw [← HSS.out], HB8⟩
                  case measure => simp [RowKit.intOf]; omega
                · obtain rfl : j = nx + 1 := by omega
                  have HTT := hid (show (xs ++ [A]).take (nx + 1) = xs ++ [A] from List.take_of_length_le (by rw [List.length_append, HNX.out]; simp))
                  go_wp2_with fail
                  go_meet
                  exact ⟨by rw [HFL.out, HTT.out], hid (HBA.out.trans (HBX.out.mono HBA.out.size))⟩
          · dsimp only at hkk HF2
            have hF := HF2.out
            subst hF
            clear HF2
            have HFL := hid ((flL_some A C xs).2.1 _ (.inr (.inl hkk)))
            have HD := hid (HDG.out A HBD.out.A)
            have hil := itL_len A
            have hsi : (S (itL A)).size = (itL A).length := S_size _
            have c1 : ¬ 9223372036854775807 < 1 + (S (itL A)).size := by omega
            have c2 : ¬ 9223372036854775807 < (S nm).size + (1 + (S (itL A)).size) := by omega
            have HSS := hid (show S nm ++ ((⟨#[32]⟩ : ByteArray) ++ S (itL A)) = S (nm ++ 32 :: itL A) from by rw [show (⟨#[32]⟩ : ByteArray) = S [32] from rfl, S_append, S_append]; rfl)
            clear hkk hil hsi hsn
            generalize S nm = SN at *
            generalize S (itL A) = SA at *
            go_wp2_with (go_at_call 11; refine (HD.out _).mono ?_; rintro r w4 ⟨rfl, hb4⟩; have B4 := hid (B3.out.trans (hb4.mono hB3.out)); clear hb4)
            go_meet
            exact ⟨by rw [HFL.out, ← HSS.out], B4⟩
          · dsimp only at hkk HF2
            have hF := HF2.out
            subst hF
            clear HF2
            have HFL := hid (show flL (tB op) A C xs = 32 :: itL A ++ 32 :: itL C from by rw [hkk]; exact (flL_some A C xs).2.2.1)
            have HD1 := hid (HDG.out A HBD.out.A)
            have HD2 := hid (HDG.out C HBD.out.B)
            have hi1 := itL_len A
            have hi2 := itL_len C
            have hs1 : (S (itL A)).size = (itL A).length := S_size _
            have hs2 : (S (itL C)).size = (itL C).length := S_size _
            have HSS := hid (show S nm ++ (((⟨#[32]⟩ : ByteArray) ++ S (itL A)) ++ (⟨#[32]⟩ : ByteArray) ++ S (itL C)) = S (nm ++ (32 :: itL A ++ 32 :: itL C)) from by rw [show (⟨#[32]⟩ : ByteArray) = S [32] from rfl, S_append, S_append, S_append, S_append]; simp)
            have c1 : ¬ 9223372036854775807 < 1 + (S (itL A)).size := by omega
            have c2 : ¬ 9223372036854775807 < 1 + (S (itL A)).size + 1 := by omega
            have c3 : ¬ 9223372036854775807 < 1 + (S (itL A)).size + 1 + (S (itL C)).size := by omega
            have c4 : ¬ 9223372036854775807 < (S nm).size + (1 + (S (itL A)).size + 1 + (S (itL C)).size) := by omega
            have D3 := hid (show Blk w3.drew wr.heap.size 45 [.int .u8 op, .int .i64 A, .int .i64 C, .slice au xs.length cu] from X3.out)
            have W3 := hid (show Below wr.heap.size wr w3.drew from B3.out.drew)
            clear hkk hi1 hi2 hs1 hs2 hsn
            generalize S nm = SN at *
            generalize S (itL A) = SA at *
            generalize S (itL C) = SC at *
            go_wp2_with fail
            refine wp_region_tail (S := (fun w' => w'.cell? ⟨wr.heap.size, 1, none⟩ = some (.int .i64 A) ∧ w'.cell? ⟨wr.heap.size, 2, none⟩ = some (.int .i64 C) ∧ Hid (Blk w' wr.heap.size 45 [.int .u8 op, .int .i64 A, .int .i64 C, .slice au xs.length cu]) ∧ Hid (Below wr.heap.size wr w'))) 11 (by kernel_rfl) (by kernel_rfl) ?_ (fun hHeld => ?_)
            · exact ⟨D3.out.cell (i := 1) rfl, D3.out.cell (i := 2) rfl, D3, W3⟩
            repeat ((first | refine tk 0 ?_ rfl ?_ ?_ | refine tk 1 ?_ rfl ?_ ?_ | refine tk 2 ?_ rfl ?_ ?_ | refine tk 4 ?_ rfl ?_ ?_ | refine tk 5 ?_ rfl ?_ ?_ | refine tk 6 ?_ rfl ?_ ?_ | refine tk 7 ?_ rfl ?_ ?_ | refine tk 9 ?_ rfl ?_ ?_ | refine tk 10 ?_ rfl ?_ ?_); rotate_left; (intro wy hSw; (try dsimp only at hSw); (go_simp <;> with_reducible rfl)); (try simp only [List.getElem_toArray, List.getElem_cons_zero, List.getElem_cons_succ, Act.put, List.setIfInBounds_toArray, List.set_cons_zero, List.set_cons_succ]))
            refine wpT_one (k := 3) rfl (by kernel_rfl) (fun K hK => ?_)
            go_simp
            refine (HD1.out _).mono ?_
            rintro r w4 ⟨rfl, hb⟩
            have D4 := hid (D3.out.below hb)
            have W4 := hid (W3.out.trans (hb.mono W3.out.size))
            clear hb
            go_wp2_with fail
            refine hK.out _ _ ?_ (fun hHeld => ?_)
            · exact ⟨D4.out.cell (i := 1) rfl, D4.out.cell (i := 2) rfl, D4, W4⟩
            clear hK K
            (try simp only [Act.put, List.setIfInBounds_toArray, List.set_cons_zero, List.set_cons_succ])
            repeat ((first | refine tk 0 ?_ rfl ?_ ?_ | refine tk 1 ?_ rfl ?_ ?_ | refine tk 2 ?_ rfl ?_ ?_ | refine tk 4 ?_ rfl ?_ ?_ | refine tk 5 ?_ rfl ?_ ?_ | refine tk 6 ?_ rfl ?_ ?_ | refine tk 7 ?_ rfl ?_ ?_ | refine tk 9 ?_ rfl ?_ ?_ | refine tk 10 ?_ rfl ?_ ?_); rotate_left; (intro wy hSw; (try dsimp only at hSw); (go_simp <;> with_reducible rfl)); (try simp only [List.getElem_toArray, List.getElem_cons_zero, List.getElem_cons_succ, Act.put, List.setIfInBounds_toArray, List.set_cons_zero, List.set_cons_succ]))
            refine wpT_one (k := 8) rfl (by kernel_rfl) (fun K hK => ?_)
            go_simp
            refine (HD2.out _).mono ?_
            rintro r w5 ⟨rfl, hb⟩
            have D5 := hid (D4.out.below hb)
            have W5 := hid (W4.out.trans (hb.mono W4.out.size))
            clear hb
            go_wp2_with fail
            refine hK.out _ _ ?_ (fun hHeld => ?_)
            · exact ⟨D5.out.cell (i := 1) rfl, D5.out.cell (i := 2) rfl, D5, W5⟩
            clear hK K
            (try simp only [Act.put, List.setIfInBounds_toArray, List.set_cons_zero, List.set_cons_succ])
            repeat ((first | refine tk 0 ?_ rfl ?_ ?_ | refine tk 1 ?_ rfl ?_ ?_ | refine tk 2 ?_ rfl ?_ ?_ | refine tk 4 ?_ rfl ?_ ?_ | refine tk 5 ?_ rfl ?_ ?_ | refine tk 6 ?_ rfl ?_ ?_ | refine tk 7 ?_ rfl ?_ ?_ | refine tk 9 ?_ rfl ?_ ?_ | refine tk 10 ?_ rfl ?_ ?_); rotate_left; (intro wy hSw; (try dsimp only at hSw); (go_simp <;> with_reducible rfl)); (try simp only [List.getElem_toArray, List.getElem_cons_zero, List.getElem_cons_succ, Act.put, List.setIfInBounds_toArray, List.set_cons_zero, List.set_cons_succ]))
            refine wpT_done (by kernel_rfl) ?_
            go_wp2_with fail
            go_meet
            exact ⟨by rw [HFL.out, ← HSS.out], W5⟩
          · dsimp only at hkk HF2
            have hF := HF2.out
            subst hF
            clear HF2
            have HFL := hid ((flL_some A C xs).1 _ (.inr hkk))
            clear hkk
            go_wp2_with fail
            go_meet
            exact ⟨by rw [HFL.out, List.append_nil], B3⟩
          · dsimp only at hkk HF2
            have hF := HF2.out
            subst hF
            clear HF2
            have HFL := hid ((flL_some A C xs).2.1 _ (.inr (.inr (.inl hkk))))
            have HD := hid (HDG.out A HBD.out.A)
            have hil := itL_len A
            have hsi : (S (itL A)).size = (itL A).length := S_size _
            have c1 : ¬ 9223372036854775807 < 1 + (S (itL A)).size := by omega
            have c2 : ¬ 9223372036854775807 < (S nm).size + (1 + (S (itL A)).size) := by omega
            have HSS := hid (show S nm ++ ((⟨#[32]⟩ : ByteArray) ++ S (itL A)) = S (nm ++ 32 :: itL A) from by rw [show (⟨#[32]⟩ : ByteArray) = S [32] from rfl, S_append, S_append]; rfl)
            clear hkk hil hsi hsn
            generalize S nm = SN at *
            generalize S (itL A) = SA at *
            go_wp2_with (go_at_call 11; refine (HD.out _).mono ?_; rintro r w4 ⟨rfl, hb4⟩; have B4 := hid (B3.out.trans (hb4.mono hB3.out)); clear hb4)
            go_meet
            exact ⟨by rw [HFL.out, ← HSS.out], B4⟩
          · dsimp only at hkk HF2
            have hF := HF2.out
            subst hF
            clear HF2
            have HFL := hid ((flL_some A C xs).2.1 _ (.inr (.inr (.inr hkk))))
            have HD := hid (HDG.out A HBD.out.A)
            have hil := itL_len A
            have hsi : (S (itL A)).size = (itL A).length := S_size _
            have c1 : ¬ 9223372036854775807 < 1 + (S (itL A)).size := by omega
            have c2 : ¬ 9223372036854775807 < (S nm).size + (1 + (S (itL A)).size) := by omega
            have HSS := hid (show S nm ++ ((⟨#[32]⟩ : ByteArray) ++ S (itL A)) = S (nm ++ 32 :: itL A) from by rw [show (⟨#[32]⟩ : ByteArray) = S [32] from rfl, S_append, S_append]; rfl)
            clear hkk hil hsi hsn
            generalize S nm = SN at *
            generalize S (itL A) = SA at *
            go_wp2_with (go_at_call 11; refine (HD.out _).mono ?_; rintro r w4 ⟨rfl, hb4⟩; have B4 := hid (B3.out.trans (hb4.mono hB3.out)); clear hb4)
            go_meet
            exact ⟨by rw [HFL.out, ← HSS.out], B4⟩
        case rest =>
          obtain ⟨rfl, HBC⟩ := hcut
          have hln := HLN.out
          rw [HLL.out, List.length_append] at hln
          have hTS := HTS.out
          have hLT := HLT.out
          have e10 : (S [byteOf 10]).size = 1 := S_size _
          have eT : (S T).size = T.length := S_size _
          have eN : (S (nm ++ flL (tB op) A C xs)).size = (nm ++ flL (tB op) A C xs).length := S_size _
          have HL2 := hid (show S T ++ (S (nm ++ flL (tB op) A C xs) ++ S [byteOf 10]) = S (textL (l.take (k + 1))) from by rw [HTK.out, HLL.out, S_append, S_append]; rfl)
          have hc1 : ¬ 9223372036854775807 < (S (nm ++ flL (tB op) A C xs)).size + (S [byteOf 10]).size := by omega
          have hc2 : ¬ 9223372036854775807 < (S T).size + (S (nm ++ flL (tB op) A C xs) ++ S [byteOf 10]).size := by rw [ByteArray.size_append]; omega
          have hc3 : ¬ 9223372036854775807 < (S T).size + ((S (nm ++ flL (tB op) A C xs)).size + (S [byteOf 10]).size) := by omega
          clear hln hTS hLT e10 eT eN
          generalize S (nm ++ flL (tB op) A C xs) = SN at *
          have HC10 := hid (HCC.out 10 wc)
          generalize S [byteOf 10] = S10 at *
          generalize S T = ST at *
          go_wp2_with (go_at_call 22; refine HC10.out.mono ?_; rintro r w4 ⟨rfl, hb4⟩; have B4 := hid (HB.out.trans ((HBC.out.trans (hb4.mono HBC.out.size)).mono HB.out.size)); clear hb4)
          go_roundw
          case rel => exact ⟨k + 1, by omega, by go_num, by rw [← HL2.out], B4⟩
          case measure => simp [RowKit.intOf]; omega
      · obtain rfl : k = n := by omega
        have HE := hid (show l.take k = l from by rw [← HN.out, List.take_length])
        have hsz : (S (textL (l.take k))).size = (textL l).length := by rw [HE.out, S_size]
        have hle := HTL.out
        obtain ⟨m, hm⟩ : ∃ m, (textL l).length = m := ⟨_, rfl⟩
        rw [hm] at hsz hle HXY
        have HR := hid (show S (textL (l.take k)) = S (textL l) from by rw [HE.out])
        generalize S (textL (l.take k)) = R at *
        clear hm HE
        by_cases hbig : 6000 < m
        · have hbI : (6000 : Int) < m := by omega
          have HXX := hid (show X = [] ∧ Y = 2 from by have := HXY.out; rw [if_pos hbig] at this; exact ⟨(congrArg Prod.fst this).symm, (congrArg Prod.snd this).symm⟩)
          clear HXY
          go_wp2_with fail
          go_ret2
          exact ⟨by rw [HXX.out.1, HXX.out.2]; rfl, HB.out⟩
        · have hbI : ¬ (6000 : Int) < m := by omega
          have HXX := hid (show X = textL l ∧ Y = 0 from by have := HXY.out; rw [if_neg hbig] at this; exact ⟨(congrArg Prod.fst this).symm, (congrArg Prod.snd this).symm⟩)
          clear HXY
          go_wp2_with fail
          go_ret2
          exact ⟨by rw [HXX.out.1, HXX.out.2, ← HR.out]; rfl, HB.out⟩
  · have hne : (E != 0) = true := bne_iff_ne.2 h0
    rw [HW.out, if_pos h0]
    clear HG HW h0
    go_enter Tryd.func7, Tryd.ntmps7
    go_wp2_with fail
    refine HC.out.mono ?_
    rintro r w1 ⟨rfl, hb1⟩
    have B1 := hid hb1
    clear hb1
    go_wp2_with fail
    go_ret2
    exact ⟨rfl, B1.out⟩
end Go.Proofs.YtnifgmijjggjjaaDoor
