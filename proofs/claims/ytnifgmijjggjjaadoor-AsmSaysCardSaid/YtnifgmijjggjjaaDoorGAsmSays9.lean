/-
  LINES OF INSTRUCTIONS: the program's words: how they lie, tell, beside. Conditions: numbers of 64 bits; the library's table of tens holds what the row lists.
-/
import Derived.Test.YtnifgmijjggjjaaDoorStep
import Derived.Test.YtnifgmijjggjjaaDoorInE
import Derived.Test.YtnifgmijjggjjaaDoorGAsmSays6
import Derived.Test.YtnifgmijjggjjaaDoorGAsmSays7
import Derived.Test.YtnifgmijjggjjaaDoorGAsmSays8
import Derived.Test.YtnifgmijjggjjaaDoorKt
import Derived.Lib.AppendIntMem
namespace Go.Proofs.YtnifgmijjggjjaaDoor
open Go.RowKit Go.Lib
attribute [local go_sem ↓] Go.wp_at_zero Go.wp_at_succ

theorem info_strv : (Tryd.prog.info? 9).map (fun i => (i.zero, i.size, i.bytes)) = some (some (.string ⟨#[]⟩), 1, 16) := by kernel_rfl
theorem elem_strv : Elem Tryd.prog 33 9 (.string ⟨#[]⟩) 1 16 := ⟨Tryd.underlying33, info_strv, rfl, by decide⟩
theorem TenT.below {w w' : World} (h : TenT w) (hb : Below w.heap.size w w') : TenT w' := Lib.tabBelow_of_tabIs h w' hb
/-- how many numbers stand behind an instruction (-1: a kind, -2: any number) -/
def bsA (k : Nat) : Int := if k = 2 then -1 else if k = 4 then -2 else if k = 6 then 2 else if k = 3 ∨ k = 5 ∨ k = 8 ∨ k = 9 then 1 else 0
/-- the words behind an instruction's name -/
def wdM (k : Nat) (A B : Int) (xs : List Int) : List (List UInt8) := if k = 2 then (if A = 127 then [[105, 51, 50]] else if A = 126 then [[105, 54, 52]] else []) else if k = 4 then xs.map itL ++ [itL A] else if k = 6 then [itL A, itL B] else if k = 3 ∨ k = 5 ∨ k = 8 ∨ k = 9 then [itL A] else []
/-- a variable of words: block OB; its row is the call's own -/
structure OutB (w : World) (base OB : Nat) (v : Value) (ws : List (List UInt8)) : Prop where
  blk : Blk w OB 33 [v]
  row : w.ownsRow base 9 1 v ws.length (ws.map (fun x => Value.string (S x)))
  le : base ≤ OB
theorem OutB.below {w w' : World} {base OB : Nat} {v : Value} {ws : List (List UInt8)} (h : OutB w base OB v ws) (hb : Below w.heap.size w w') : OutB w' base OB v ws := ⟨h.blk.below hb, own_below h.row hb, h.le⟩
/-- what a word more turns -/
def FO (OB : Nat) (v : Value) (k : Nat) : Prop := k = OB ∨ v.ownBlock = some k
theorem OutB.push {w w1 : World} {base OB : Nat} {v v' : Value} {ws : List (List UInt8)} {x : List UInt8} (h : OutB w base OB v ws) (ho : w1.ownsRow base 9 1 v' (ws.length + 1) (ws.map (fun x => Value.string (S x)) ++ [Value.string (S x)])) (hg : Grew w v w1 v') :
    OutB (w1.setCell ⟨OB, 0, none⟩ v') base OB v' (ws ++ [x]) ∧ Touch (FO OB v) w (w1.setCell ⟨OB, 0, none⟩ v') ∧ Fresh w v v' := by
  have k1 : KT 9 w w1 := KT.grown hg.1 h.row
  have b1 := k1.blk h.blk rfl
  have k2 : KT 33 w1 (w1.setCell ⟨OB, 0, none⟩ v') := KT.set b1 v'
  refine ⟨⟨b1.set 0 v', ?_, h.le⟩, ((Touch.grown hg.1 (fun k e => .inr e)).put (a := ⟨OB, 0, none⟩) (.inl rfl) v'), hg.2⟩
  have := k2.own ho rfl
  rw [List.length_append, List.map_append]
  exact this
theorem OutB.base_le {w : World} {base OB : Nat} {v : Value} {ws : List (List UInt8)} (h : OutB w base OB v ws) {k : Nat} (hk : FO OB v k) : base ≤ k := by
  rcases hk with rfl | hk
  · exact h.le
  · exact (h.row.lt k hk).1

set_option maxRecDepth 100000 in
set_option maxHeartbeats 8000000 in
theorem tell_any (w : World) (base OB : Nat) (v sl : Value) (ws : List (List UInt8)) (xs : List Int) (hO : OutB w base OB v ws) (hT : ∀ w', Below base w w' → TenT w') (hbs : base ≤ w.heap.size) (hxs : ∀ x ∈ xs, -9223372036854775808 ≤ x ∧ x ≤ 9223372036854775807) (hl : xs.length ≤ 100 ∧ ws.length ≤ 100) (hX : ∀ w', Touch (FO OB v) w w' → Ints w' .i64 sl xs) :
    Calls Tryd.prog 30 #[sl, .pointer (some ⟨OB, 0, none⟩)] w fun e w' => e = .returned (.tuple #[]) ∧ ∃ v', OutB w' base OB v' (ws ++ xs.map itL) ∧ Touch (FO OB v) w w' := by
  have hx0 := hX w (Touch.refl _ _)
  have H0 := hid hO
  have HX := hid hX
  have HT := hid hT
  have HXS := hid hxs
  obtain ⟨asl, csl, rfl, _⟩ := id hx0
  clear hx0 hX hO hT hxs
  generalize hn : xs.length = n at *
  have HN := hid hn
  clear hn
  have FR0 := hid (show ∀ k, v.ownBlock = some k → FO OB v k ∨ w.heap.size ≤ k from fun k hk => .inl (.inr hk))
  go_enter Tryd.func30, Tryd.ntmps30
  go_wp2_with fail
  go_loopw [7] (fun i wr => ∃ (j : Nat) (u : Value), j ≤ n ∧ i = .int .i64 j ∧ Hid (OutB wr base OB u (ws ++ (xs.take j).map itL)) ∧ Hid (Touch (FO OB v) w wr) ∧ Hid (∀ k, u.ownBlock = some k → FO OB v k ∨ w.heap.size ≤ k)) (fun i _ => n - (RowKit.intOf i).toNat)
  case atStart => exact ⟨0, v, Nat.zero_le _, rfl, hid (by simpa using H0.out), hid (Touch.refl _ _), FR0⟩
  case round =>
    obtain ⟨j, u, hj, rfl, HO, HT2, HF⟩ := hrel
    by_cases hlt0 : j < n
    · have hlt : j < xs.length := by rw [HN.out]; exact hlt0
      have hltI : (j : Int) < n := by omega
      have HTK := hid (List.take_succ_eq_append_getElem hlt)
      have HBD := hid (HXS.out _ (List.getElem_mem hlt))
      rcases L1.open (HX.out _ HT2.out) with ⟨_, _, _, e, _⟩ | ⟨lb, lo, cap', hv, _, _, _, hc⟩
      · rw [e] at hlt; simp at hlt
      simp only [Value.slice.injEq] at hv
      obtain ⟨rfl, hnn, rfl⟩ := hv
      clear hnn
      have ha := hc j hlt
      have HLN := hid (show (ws ++ (xs.take j).map itL).length + 1 ≤ 300 from by rw [List.length_append, List.length_map, List.length_take]; omega)
      generalize xs[j] = m at *
      have HBS := hid (show base ≤ wr.heap.size from Nat.le_trans hbs HT2.out.size)
      have HTN := hid (HT.out wr (HT2.out.below hbs (fun k hk => H0.out.base_le hk)))
      obtain ⟨L, hL⟩ : ∃ L, ws ++ (xs.take j).map itL = L := ⟨_, rfl⟩
      have HL := hid hL
      rw [hL] at HO HLN
      clear hL
      obtain ⟨au, cu, rfl, _⟩ := own_sl HO.out.row
      have c0 := HO.out.blk.cell (i := 0) rfl
      have D0 := hid (HO.out.below (drew_bel' (n := 1) (Below.refl wr.heap.size wr)))
      have W0 := hid (drew_bel' (n := 1) (Below.refl wr.heap.size wr))
      have HFM := hid (fun wx (hx : Below wr.heap.size wr wx) => format_any m HBD.out wx (TenT.below HTN.out hx))
      clear hc hlt
      go_wp2_with fail
      refine wp_region_tail (S := (fun w' => w'.cell? ⟨OB, 0, none⟩ = some (.slice au L.length cu) ∧ Hid (OutB w' base OB (.slice au L.length cu) L) ∧ Hid (Below wr.heap.size wr w'))) 4 (by kernel_rfl) (by kernel_rfl) ?_ (fun hHeld => ?_)
      · exact ⟨D0.out.blk.cell (i := 0) rfl, D0, W0⟩
      repeat ((first | refine tk 0 ?_ rfl ?_ ?_ | refine tk 1 ?_ rfl ?_ ?_); rotate_left; (intro wy hSw; (try dsimp only at hSw); (go_simp <;> with_reducible rfl)); (try simp only [List.getElem_toArray, List.getElem_cons_zero, List.getElem_cons_succ, Act.put, List.setIfInBounds_toArray, List.set_cons_zero, List.set_cons_succ]))
      refine wpT_one (k := 2) rfl (by kernel_rfl) (fun K hK => ?_)
      go_simp
      refine (HFM.out _ W0.out).mono ?_
      rintro r w1 ⟨rfl, hb⟩
      have D1 := hid (D0.out.below hb)
      have W1 := hid (W0.out.trans (hb.mono W0.out.size))
      clear hb
      go_wp2_with fail
      refine hK.out _ _ ?_ (fun hHeld => ?_)
      · exact ⟨D1.out.blk.cell (i := 0) rfl, D1, W1⟩
      clear hK K
      (try simp only [Act.put, List.setIfInBounds_toArray, List.set_cons_zero, List.set_cons_succ])
      have D2 := hid (D1.out.below ((Below.refl _ _).alloc (Nat.le_refl _) (.cells #[.string (S (itL m))] 9)))
      have W2 := hid (W1.out.alloc W1.out.size (.cells #[.string (S (itL m))] 9))
      refine wpT_one (k := 3) rfl (by kernel_rfl) (fun K hK => ?_)
      go_simp
      refine hK.out _ _ ?_ (fun hHeld => ?_)
      · exact ⟨D2.out.blk.cell (i := 0) rfl, D2, W2⟩
      clear hK K
      (try simp only [Act.put, List.setIfInBounds_toArray, List.set_cons_zero, List.set_cons_succ])
      refine wpT_done (by kernel_rfl) ?_
      simp only [List.drop_succ_cons, List.drop_zero]
      have hLN := HLN.out
      have hBW := Nat.le_trans HBS.out W1.out.size
      go_wp2_with (at_builtin; go_must (refine app_one elem_strv (cs := [.string (S (itL m))]) rfl _ _ rfl rfl rfl rfl D1.out.row rfl (by intro c hc; simp at hc; subst hc; rfl) (by omega) (by omega) hBW ?_); intro v' w5 ho hb5 hg; obtain ⟨a5, c5, rfl, _⟩ := own_sl ho; have b5 := (KT.grown hg.1 D1.out.row).blk D1.out.blk rfl; have z0 := b5.cell (i := 0) rfl; have zf := b5.free 0; have HP := hid (D1.out.push ho hg); clear ho hb5 hg b5)
      obtain ⟨hp1, hp2, hp3⟩ := HP.out
      have Q1 := hid hp1
      have HTT := hid (HT2.out.trans' ((Touch.of_below W1.out).trans hp2) (fun i hi hf => by
        rcases hf with e | hf
        · exact .inl e
        · rcases HF.out i hf with h | h
          · exact h
          · omega))
      have HFF := hid (show ∀ k, (Value.slice a5 (L.length + 1) c5).ownBlock = some k → FO OB v k ∨ w.heap.size ≤ k from fun k hk => by
        rcases hp3 with e | ⟨k2, e, hk2⟩
        · exact HF.out k (by rw [← e]; exact hk)
        · rw [e] at hk
          have := HT2.out.size
          have := W1.out.size
          simp only [Option.some.injEq] at hk
          exact .inr (by omega))
      clear hp1 hp2 hp3
      go_roundw
      case rel => exact ⟨j + 1, _, by omega, by go_num, by rw [HTK.out, List.map_append, ← List.append_assoc, HL.out]; exact Q1, HTT, HFF⟩
      case measure => simp [RowKit.intOf]; omega
    · obtain rfl : j = n := by omega
      have hfin := HO.out
      rw [← HN.out, List.take_length] at hfin
      have HE := hid hfin
      clear hfin
      go_wp2_with fail
      go_end0
      exact ⟨rfl, u, HE.out, HT2.out⟩
def abeside_any_l0 : List (Nat × Nat × Int × Nat) := [(0, 1, 0, 0), (2, 4, -1, 0), (5, 11, 0, 0), (12, 12, 1, 0), (13, 13, 1, 0), (14, 14, -2, 0), (15, 15, 0, 0), (16, 16, 1, 0), (17, 17, 1, 0), (18, 31, 0, 0), (32, 36, 1, 0), (37, 39, 0, 0), (42, 43, 0, 0), (56, 57, 0, 0), (63, 64, 0, 0), (65, 65, 1, 0), (66, 66, 1, 0), (67, 255, 0, 0)]
def abeside_any_l1 : List (Nat × Nat × Int) := [(40, 41, 2), (44, 55, 2), (58, 62, 2)]
theorem abeside_any_c : ∀ x : Fin 256, (abeside_any_l0.any (fun c => decide (c.1 ≤ x.val ∧ x.val ≤ c.2.1 ∧ bsA (tB x.val) = c.2.2.1 ∧ tW x.val = c.2.2.2)) || (abeside_any_l1.any (fun c => decide (c.1 ≤ x.val ∧ x.val ≤ c.2.1 ∧ bsA (tB x.val) = c.2.2 ∧ 0 < tW x.val)))) = true := by decide +kernel
set_option maxRecDepth 100000 in
set_option maxHeartbeats 16000000 in
theorem abeside_any (op : Nat) (hop : op < 256) (w : World) :
    Calls Tryd.prog 32 #[.int .u8 op] w fun e w' => e = .returned (.int .i64 (bsA (tB op))) ∧ w = w' := by
  have g := abeside_any_c ⟨op, hop⟩
  simp only [Bool.or_eq_true, List.any_eq_true, decide_eq_true_eq] at g
  rcases g with ⟨c, hc, h1, h2, t1, t2⟩ | ⟨c, hc, h1, h2, t1, t2⟩
  · simp only [abeside_any_l0, List.mem_cons, List.not_mem_nil, or_false] at hc
    rcases hc with rfl | rfl | rfl | rfl | rfl | rfl | rfl | rfl | rfl | rfl | rfl | rfl | rfl | rfl | rfl | rfl | rfl | rfl
    all_goals
      dsimp only at h1 h2 t1 t2
      first | have e12 := bF op 12 (by omega) | have e12 := bT op 12 (by omega)
      first | have e13 := bF op 13 (by omega) | have e13 := bT op 13 (by omega)
      first | have e14 := bF op 14 (by omega) | have e14 := bT op 14 (by omega)
      first | have e16 := bF op 16 (by omega) | have e16 := bT op 16 (by omega)
      first | have e17 := bF op 17 (by omega) | have e17 := bT op 17 (by omega)
      first | have e65 := bF op 65 (by omega) | have e65 := bT op 65 (by omega)
      first | have e66 := bF op 66 (by omega) | have e66 := bT op 66 (by omega)
      first | have g2e : (2 : Int) ≤ op := by omega | have g2e : ¬ (2 : Int) ≤ op := by omega
      first | have k4e : (op : Int) ≤ 4 := by omega | have k4e : ¬ (op : Int) ≤ 4 := by omega
      first | have g32e : (32 : Int) ≤ op := by omega | have g32e : ¬ (32 : Int) ≤ op := by omega
      first | have k36e : (op : Int) ≤ 36 := by omega | have k36e : ¬ (op : Int) ≤ 36 := by omega
      rw [t1]
      have HW := hid (fun w2 => width_any op hop w2)
      rw [t2] at HW
      go_enter Tryd.func32, Tryd.ntmps32
      go_wp2_with (go_at_call 45; refine (HW.out _).mono ?_; rintro r w1 ⟨rfl, rfl⟩)
      go_ret
      exact ⟨rfl, rfl⟩
  · simp only [abeside_any_l1, List.mem_cons, List.not_mem_nil, or_false] at hc
    rcases hc with rfl | rfl | rfl
    all_goals
      dsimp only at h1 h2 t1 t2
      first | have e12 := bF op 12 (by omega) | have e12 := bT op 12 (by omega)
      first | have e13 := bF op 13 (by omega) | have e13 := bT op 13 (by omega)
      first | have e14 := bF op 14 (by omega) | have e14 := bT op 14 (by omega)
      first | have e16 := bF op 16 (by omega) | have e16 := bT op 16 (by omega)
      first | have e17 := bF op 17 (by omega) | have e17 := bT op 17 (by omega)
      first | have e65 := bF op 65 (by omega) | have e65 := bT op 65 (by omega)
      first | have e66 := bF op 66 (by omega) | have e66 := bT op 66 (by omega)
      first | have g2e : (2 : Int) ≤ op := by omega | have g2e : ¬ (2 : Int) ≤ op := by omega
      first | have k4e : (op : Int) ≤ 4 := by omega | have k4e : ¬ (op : Int) ≤ 4 := by omega
      first | have g32e : (32 : Int) ≤ op := by omega | have g32e : ¬ (32 : Int) ≤ op := by omega
      first | have k36e : (op : Int) ≤ 36 := by omega | have k36e : ¬ (op : Int) ≤ 36 := by omega
      rw [t1]
      have HW := hid (fun w2 => width_any op hop w2)
      have hp2 : (0 : Int) < (tW op : Nat) := by omega
      generalize tW op = W at *
      go_enter Tryd.func32, Tryd.ntmps32
      go_wp2_with (go_at_call 45; refine (HW.out _).mono ?_; rintro r w1 ⟨rfl, rfl⟩)
      go_ret
      exact ⟨rfl, rfl⟩
end Go.Proofs.YtnifgmijjggjjaaDoor
