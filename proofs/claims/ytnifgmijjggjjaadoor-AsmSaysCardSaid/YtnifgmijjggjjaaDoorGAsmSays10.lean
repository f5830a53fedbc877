/-
  LINES OF INSTRUCTIONS: the program's words. Conditions: numbers of 64 bits; the library's table of tens holds what the row lists; the variable that strings.Split reads holds some number.
-/
import Derived.Test.YtnifgmijjggjjaaDoorGAsmSays9
namespace Go.Proofs.YtnifgmijjggjjaaDoor
open Go.RowKit Go.Lib
attribute [local go_sem ↓] Go.wp_at_zero Go.wp_at_succ

/-- numbers that lie in a block of their own stay where words come -/
theorem OutB.arg {w : World} {base OB : Nat} {u : Value} {ws : List (List UInt8)} (h : OutB w base OB u ws) (xs : List Int) (hl : xs.length ≤ 100) :
    ∀ w', Touch (FO OB u) (w.alloc (.cells (xs.map (Value.int .i64)).toArray 2)) w' → Ints w' .i64 (.slice (some ⟨w.heap.size, 0, none⟩) xs.length xs.length) xs := by
  intro w' ht
  have hb := (Blk.new w (xs.map (Value.int .i64)).toArray 2 _ rfl).touch ht (fun hf => by
    rcases hf with e | hf
    · have := h.blk.lt; omega
    · have := (h.row.lt _ hf).2; omega)
  refine ⟨_, _, rfl, Nat.le_refl _, by omega, by simp, .inr ⟨w.heap.size, 0, rfl, fun j hj => ?_⟩⟩
  rw [Nat.zero_add]
  exact hb.cell (by simp [List.getElem?_eq_getElem hj])
theorem OutB.alloc {w : World} {base OB : Nat} {u : Value} {ws : List (List UInt8)} (h : OutB w base OB u ws) (o : Obj) : OutB (w.alloc o) base OB u ws := h.below ((Below.refl _ _).alloc (Nat.le_refl _) _)
theorem out_new (w1 : World) (base : Nat) (nm : List UInt8) (hb : base ≤ w1.heap.size) : OutB ((w1.alloc (.cells #[.string (S nm)] 9)).alloc (.cells #[.slice (some ⟨w1.heap.size, 0, none⟩) 1 1] 33)) base (w1.heap.size + 1) (.slice (some ⟨w1.heap.size, 0, none⟩) 1 1) [nm] := by
  refine ⟨Blk.new _ _ _ _ (by simp), World.ownsRow.alloc ?_ _, by omega⟩
  exact World.ownsRow_lit w1 #[.string (S nm)] 1 hb (by decide) rfl
theorem out_bel {W w1 : World} {base : Nat} (h : Below base W w1) (nm : List UInt8) (hb : base ≤ w1.heap.size := by exact h.size) : Below base W ((w1.alloc (.cells #[.string (S nm)] 9)).alloc (.cells #[.slice (some ⟨w1.heap.size, 0, none⟩) 1 1] 33)) := (h.alloc hb _).alloc (by simp; omega) _
set_option maxRecDepth 100000 in
set_option maxHeartbeats 16000000 in
theorem words_any (w : World) (op : Nat) (hop : op < 256) (A B : Int) (hA : -9223372036854775808 ≤ A ∧ A ≤ 9223372036854775807) (hB : -9223372036854775808 ≤ B ∧ B ≤ 9223372036854775807) (xs : List Int) (v : Value) (hx : Ints w .i64 v xs) (hxs : ∀ x ∈ xs, -9223372036854775808 ≤ x ∧ x ≤ 9223372036854775807) (hxl : xs.length ≤ 16) (hM : MaxL w) (hT : ∀ w', Below w.heap.size w w' → TenT w') :
    Calls Tryd.prog 15 #[insV op A B v] w fun e w' => ∃ u, e = .returned u ∧ w'.ownsRow w.heap.size 9 1 u (wdM (tB op) A B xs).length.succ (((nmM op).1 :: wdM (tB op) A B xs).map (fun x => Value.string (S x))) ∧ Below w.heap.size w w' := by
  have hA0 : Below w.heap.size w (w.alloc (.cells #[.int .u8 op, .int .i64 A, .int .i64 B, v] 45)) := (Below.refl _ _).alloc (Nat.le_refl _) _
  have hblk := Blk.new w #[.int .u8 op, .int .i64 A, .int .i64 B, v] 45 _ rfl
  have HNM := hid (name_any op hop _ (hM.below hA0))
  have HBS := hid (fun wx => abeside_any op hop wx)
  have HX := hid hblk
  have HA := hid hA0
  have HIN := hid (fun wx (hb : Below w.heap.size w wx) => L1.below hx hb)
  have HT := hid hT
  have HXS := hid hxs
  have HBD := hid (And.intro hA hB)
  have y0 := hblk.cell (i := 0) rfl
  obtain ⟨av, cv, rfl, _⟩ := id hx
  clear hblk hA0 hx hM hT hxs
  generalize hn : xs.length = n at *
  have HN := hid hn
  clear hn
  generalize (nmM op).1 = nm at *
  generalize (nmM op).2 = nb at *
  have hcs : (bsA (tB op) = 0 ∧ wdM (tB op) A B xs = []) ∨ (bsA (tB op) = 1 ∧ wdM (tB op) A B xs = [itL A]) ∨ (bsA (tB op) = 2 ∧ wdM (tB op) A B xs = [itL A, itL B]) ∨ (bsA (tB op) = -2 ∧ wdM (tB op) A B xs = xs.map itL ++ [itL A]) ∨ (bsA (tB op) = -1 ∧ A = 127 ∧ wdM (tB op) A B xs = [[105, 51, 50]]) ∨ (bsA (tB op) = -1 ∧ A = 126 ∧ wdM (tB op) A B xs = [[105, 54, 52]]) ∨ (bsA (tB op) = -1 ∧ A ≠ 127 ∧ A ≠ 126 ∧ wdM (tB op) A B xs = []) := by
    unfold bsA wdM
    generalize tB op = K
    by_cases h2 : K = 2
    · subst h2
      by_cases h127 : A = 127
      · exact .inr (.inr (.inr (.inr (.inl ⟨rfl, h127, by rw [if_pos rfl, if_pos h127]⟩))))
      · by_cases h126 : A = 126
        · exact .inr (.inr (.inr (.inr (.inr (.inl ⟨rfl, h126, by rw [if_pos rfl, if_neg h127, if_pos h126]⟩)))))
        · exact .inr (.inr (.inr (.inr (.inr (.inr ⟨rfl, h127, h126, by rw [if_pos rfl, if_neg h127, if_neg h126]⟩)))))
    · rw [if_neg h2, if_neg h2]
      by_cases h4 : K = 4
      · rw [if_pos h4, if_pos h4]; exact .inr (.inr (.inr (.inl ⟨rfl, rfl⟩)))
      · rw [if_neg h4, if_neg h4]
        by_cases h6 : K = 6
        · rw [if_pos h6, if_pos h6]; exact .inr (.inr (.inl ⟨rfl, rfl⟩))
        · rw [if_neg h6, if_neg h6]
          by_cases h3 : K = 3 ∨ K = 5 ∨ K = 8 ∨ K = 9
          · rw [if_pos h3, if_pos h3]; exact .inr (.inl ⟨rfl, rfl⟩)
          · rw [if_neg h3, if_neg h3]; exact .inl ⟨rfl, rfl⟩
  generalize wdM (tB op) A B xs = wd at *
  rcases hcs with ⟨e1, rfl⟩ | ⟨e1, rfl⟩ | ⟨e1, rfl⟩ | ⟨e1, rfl⟩ | ⟨e1, e2, rfl⟩ | ⟨e1, e2, rfl⟩ | ⟨e1, e2, e3, rfl⟩
  · rw [e1] at HBS
    clear e1
    go_enter Tryd.func15, Tryd.ntmps15
    go_wp2_with fail
    refine HNM.out.mono ?_
    rintro r w1 ⟨rfl, hb1⟩
    have x1 := HX.out.below hb1
    have B1 := hid (HA.out.trans (hb1.mono HA.out.size))
    have z0 := fun o p => cell_alloc p (cell_alloc o (x1.cell (i := 0) rfl))
    have O2 := hid (out_new w1 (w.heap.size + 1) nm x1.lt)
    have B2 := hid (out_bel B1.out nm B1.out.size)
    have X2 := hid (show Blk ((w1.alloc (.cells #[.string (S nm)] 9)).alloc (.cells #[.slice (some ⟨w1.heap.size, 0, none⟩) 1 1] 33)) w.heap.size 45 [.int .u8 op, .int .i64 A, .int .i64 B, .slice av n cv] from (x1.alloc _).alloc _)
    clear hb1 x1
    go_wp2_with fail
    refine (HBS.out _).mono ?_
    rintro r w3 ⟨rfl, rfl⟩
    clear z0 HNM HBS HX HA y0
    generalize ((w1.alloc (.cells #[.string (S nm)] 9)).alloc (.cells #[.slice (some ⟨w1.heap.size, 0, none⟩) 1 1] 33)) = W2 at *
    generalize w1.heap.size + 1 = OB at *
    have q1 := X2.out.cell (i := 1) rfl
    have q2 := X2.out.cell (i := 2) rfl
    have q3 := X2.out.cell (i := 3) rfl
    have c5 := O2.out.blk.cell (i := 0) rfl
    have HTW := hid (fun wx (hb : Below (w.heap.size + 1) W2 wx) => HT.out wx (B2.out.trans (hb.mono (Nat.le_succ _))))
    have HB2S := hid (show w.heap.size + 1 ≤ W2.heap.size from X2.out.lt)
    have T2 := hid (Below.refl (w.heap.size + 1) W2)
    go_wp2_with fail
    go_ret
    exact ⟨_, rfl, own_mono' O2.out.row (Nat.le_succ _), B2.out.trans (T2.out.mono (Nat.le_succ _))⟩
  · rw [e1] at HBS
    clear e1
    go_enter Tryd.func15, Tryd.ntmps15
    go_wp2_with fail
    refine HNM.out.mono ?_
    rintro r w1 ⟨rfl, hb1⟩
    have x1 := HX.out.below hb1
    have B1 := hid (HA.out.trans (hb1.mono HA.out.size))
    have z0 := fun o p => cell_alloc p (cell_alloc o (x1.cell (i := 0) rfl))
    have O2 := hid (out_new w1 (w.heap.size + 1) nm x1.lt)
    have B2 := hid (out_bel B1.out nm B1.out.size)
    have X2 := hid (show Blk ((w1.alloc (.cells #[.string (S nm)] 9)).alloc (.cells #[.slice (some ⟨w1.heap.size, 0, none⟩) 1 1] 33)) w.heap.size 45 [.int .u8 op, .int .i64 A, .int .i64 B, .slice av n cv] from (x1.alloc _).alloc _)
    clear hb1 x1
    go_wp2_with fail
    refine (HBS.out _).mono ?_
    rintro r w3 ⟨rfl, rfl⟩
    clear z0 HNM HBS HX HA y0
    generalize ((w1.alloc (.cells #[.string (S nm)] 9)).alloc (.cells #[.slice (some ⟨w1.heap.size, 0, none⟩) 1 1] 33)) = W2 at *
    generalize w1.heap.size + 1 = OB at *
    have q1 := X2.out.cell (i := 1) rfl
    have q2 := X2.out.cell (i := 2) rfl
    have q3 := X2.out.cell (i := 3) rfl
    have c5 := O2.out.blk.cell (i := 0) rfl
    have HTW := hid (fun wx (hb : Below (w.heap.size + 1) W2 wx) => HT.out wx (B2.out.trans (hb.mono (Nat.le_succ _))))
    have HB2S := hid (show w.heap.size + 1 ≤ W2.heap.size from X2.out.lt)
    have T2 := hid (Below.refl (w.heap.size + 1) W2)
    have A4 := hid (O2.out.alloc (.cells #[.int .i64 A] 2))
    have R4 := hid (T2.out.alloc HB2S.out (.cells #[.int .i64 A] 2))
    have G4 := hid (O2.out.arg [A] (by simp))
    have S4 := hid (Nat.le_trans HB2S.out R4.out.size)
    go_wp2_with fail
    refine (tell_any _ (w.heap.size + 1) OB _ _ [nm] [A] A4.out (fun wx hb => HTW.out wx (R4.out.trans hb)) S4.out (fun x hx => by rw [List.mem_singleton.1 hx]; exact HBD.out.1) (by constructor <;> simp) G4.out).mono ?_
    rintro r w4 ⟨rfl, u4, h4, t4⟩
    have O4 := hid h4
    have c4 := h4.blk.cell (i := 0) rfl
    have T4 := hid (show Below (w.heap.size + 1) W2 w4 from R4.out.trans (t4.below S4.out (fun k hk => A4.out.base_le hk)))
    clear h4 t4
    go_wp2_with fail
    go_ret
    exact ⟨_, rfl, own_mono' O4.out.row (Nat.le_succ _), B2.out.trans (T4.out.mono (Nat.le_succ _))⟩
  · rw [e1] at HBS
    clear e1
    go_enter Tryd.func15, Tryd.ntmps15
    go_wp2_with fail
    refine HNM.out.mono ?_
    rintro r w1 ⟨rfl, hb1⟩
    have x1 := HX.out.below hb1
    have B1 := hid (HA.out.trans (hb1.mono HA.out.size))
    have z0 := fun o p => cell_alloc p (cell_alloc o (x1.cell (i := 0) rfl))
    have O2 := hid (out_new w1 (w.heap.size + 1) nm x1.lt)
    have B2 := hid (out_bel B1.out nm B1.out.size)
    have X2 := hid (show Blk ((w1.alloc (.cells #[.string (S nm)] 9)).alloc (.cells #[.slice (some ⟨w1.heap.size, 0, none⟩) 1 1] 33)) w.heap.size 45 [.int .u8 op, .int .i64 A, .int .i64 B, .slice av n cv] from (x1.alloc _).alloc _)
    clear hb1 x1
    go_wp2_with fail
    refine (HBS.out _).mono ?_
    rintro r w3 ⟨rfl, rfl⟩
    clear z0 HNM HBS HX HA y0
    generalize ((w1.alloc (.cells #[.string (S nm)] 9)).alloc (.cells #[.slice (some ⟨w1.heap.size, 0, none⟩) 1 1] 33)) = W2 at *
    generalize w1.heap.size + 1 = OB at *
    have q1 := X2.out.cell (i := 1) rfl
    have q2 := X2.out.cell (i := 2) rfl
    have q3 := X2.out.cell (i := 3) rfl
    have c5 := O2.out.blk.cell (i := 0) rfl
    have HTW := hid (fun wx (hb : Below (w.heap.size + 1) W2 wx) => HT.out wx (B2.out.trans (hb.mono (Nat.le_succ _))))
    have HB2S := hid (show w.heap.size + 1 ≤ W2.heap.size from X2.out.lt)
    have T2 := hid (Below.refl (w.heap.size + 1) W2)
    have A4 := hid (O2.out.alloc (.cells #[.int .i64 A, .int .i64 B] 2))
    have R4 := hid (T2.out.alloc HB2S.out (.cells #[.int .i64 A, .int .i64 B] 2))
    have G4 := hid (O2.out.arg [A, B] (by simp))
    have S4 := hid (Nat.le_trans HB2S.out R4.out.size)
    go_wp2_with fail
    refine (tell_any _ (w.heap.size + 1) OB _ _ [nm] [A, B] A4.out (fun wx hb => HTW.out wx (R4.out.trans hb)) S4.out (fun x hx => by rcases List.mem_cons.1 hx with rfl | hx; exact HBD.out.1; rw [List.mem_singleton.1 hx]; exact HBD.out.2) (by constructor <;> simp) G4.out).mono ?_
    rintro r w4 ⟨rfl, u4, h4, t4⟩
    have O4 := hid h4
    have c4 := h4.blk.cell (i := 0) rfl
    have T4 := hid (show Below (w.heap.size + 1) W2 w4 from R4.out.trans (t4.below S4.out (fun k hk => A4.out.base_le hk)))
    clear h4 t4
    go_wp2_with fail
    go_ret
    exact ⟨_, rfl, own_mono' O4.out.row (Nat.le_succ _), B2.out.trans (T4.out.mono (Nat.le_succ _))⟩
  · rw [e1] at HBS
    clear e1
    go_enter Tryd.func15, Tryd.ntmps15
    go_wp2_with fail
    refine HNM.out.mono ?_
    rintro r w1 ⟨rfl, hb1⟩
    have x1 := HX.out.below hb1
    have B1 := hid (HA.out.trans (hb1.mono HA.out.size))
    have z0 := fun o p => cell_alloc p (cell_alloc o (x1.cell (i := 0) rfl))
    have O2 := hid (out_new w1 (w.heap.size + 1) nm x1.lt)
    have B2 := hid (out_bel B1.out nm B1.out.size)
    have X2 := hid (show Blk ((w1.alloc (.cells #[.string (S nm)] 9)).alloc (.cells #[.slice (some ⟨w1.heap.size, 0, none⟩) 1 1] 33)) w.heap.size 45 [.int .u8 op, .int .i64 A, .int .i64 B, .slice av n cv] from (x1.alloc _).alloc _)
    clear hb1 x1
    go_wp2_with fail
    refine (HBS.out _).mono ?_
    rintro r w3 ⟨rfl, rfl⟩
    clear z0 HNM HBS HX HA y0
    generalize ((w1.alloc (.cells #[.string (S nm)] 9)).alloc (.cells #[.slice (some ⟨w1.heap.size, 0, none⟩) 1 1] 33)) = W2 at *
    generalize w1.heap.size + 1 = OB at *
    have q1 := X2.out.cell (i := 1) rfl
    have q2 := X2.out.cell (i := 2) rfl
    have q3 := X2.out.cell (i := 3) rfl
    have c5 := O2.out.blk.cell (i := 0) rfl
    have HTW := hid (fun wx (hb : Below (w.heap.size + 1) W2 wx) => HT.out wx (B2.out.trans (hb.mono (Nat.le_succ _))))
    have HB2S := hid (show w.heap.size + 1 ≤ W2.heap.size from X2.out.lt)
    have T2 := hid (Below.refl (w.heap.size + 1) W2)
    have hxn := HN.out
    go_wp2_with fail
    refine (tell_any _ (w.heap.size + 1) OB _ _ [nm] xs O2.out HTW.out HB2S.out HXS.out (by rw [hxn]; simp; omega) (fun wx t => HIN.out wx (B2.out.trans ((t.below HB2S.out (fun k hk => O2.out.base_le hk)).mono (Nat.le_succ _))))).mono ?_
    rintro r w4 ⟨rfl, u4, h4, t4⟩
    have O4 := hid h4
    have T4 := hid (t4.below HB2S.out (fun k hk => O2.out.base_le hk))
    have X4 := hid ((X2.out.touch t4 (fun hf => by have := O2.out.base_le hf; omega)))
    have q41 := X4.out.cell (i := 1) rfl
    clear h4 t4
    have A5 := hid (O4.out.alloc (.cells #[.int .i64 A] 2))
    have R5 := hid (T4.out.alloc (Nat.le_trans HB2S.out T4.out.size) (.cells #[.int .i64 A] 2))
    have G5 := hid (O4.out.arg [A] (by simp))
    have S5 := hid (Nat.le_trans HB2S.out R5.out.size)
    go_wp2_with fail
    refine (tell_any _ (w.heap.size + 1) OB _ _ _ [A] A5.out (fun wx hb => HTW.out wx (R5.out.trans hb)) S5.out (fun x hx => by rw [List.mem_singleton.1 hx]; exact HBD.out.1) (by rw [List.length_append, List.length_map, hxn]; simp; omega) G5.out).mono ?_
    rintro r w5 ⟨rfl, u5, h5, t5⟩
    have O5 := hid h5
    have c5 := h5.blk.cell (i := 0) rfl
    have T5 := hid (show Below (w.heap.size + 1) W2 w5 from R5.out.trans (t5.below S5.out (fun k hk => A5.out.base_le hk)))
    clear h5 t5
    go_wp2_with fail
    go_ret
    exact ⟨_, rfl, (by have := own_mono' O5.out.row (Nat.le_succ _); simpa using this), B2.out.trans (T5.out.mono (Nat.le_succ _))⟩
  · rw [e1] at HBS
    clear e1
    have g1 : (A == 127) = true := beq_iff_eq.2 e2
    clear e2
    go_enter Tryd.func15, Tryd.ntmps15
    go_wp2_with fail
    refine HNM.out.mono ?_
    rintro r w1 ⟨rfl, hb1⟩
    have x1 := HX.out.below hb1
    have B1 := hid (HA.out.trans (hb1.mono HA.out.size))
    have z0 := fun o p => cell_alloc p (cell_alloc o (x1.cell (i := 0) rfl))
    have O2 := hid (out_new w1 (w.heap.size + 1) nm x1.lt)
    have B2 := hid (out_bel B1.out nm B1.out.size)
    have X2 := hid (show Blk ((w1.alloc (.cells #[.string (S nm)] 9)).alloc (.cells #[.slice (some ⟨w1.heap.size, 0, none⟩) 1 1] 33)) w.heap.size 45 [.int .u8 op, .int .i64 A, .int .i64 B, .slice av n cv] from (x1.alloc _).alloc _)
    clear hb1 x1
    go_wp2_with fail
    refine (HBS.out _).mono ?_
    rintro r w3 ⟨rfl, rfl⟩
    clear z0 HNM HBS HX HA y0
    generalize ((w1.alloc (.cells #[.string (S nm)] 9)).alloc (.cells #[.slice (some ⟨w1.heap.size, 0, none⟩) 1 1] 33)) = W2 at *
    generalize w1.heap.size + 1 = OB at *
    have q1 := X2.out.cell (i := 1) rfl
    have q2 := X2.out.cell (i := 2) rfl
    have q3 := X2.out.cell (i := 3) rfl
    have c5 := O2.out.blk.cell (i := 0) rfl
    have HTW := hid (fun wx (hb : Below (w.heap.size + 1) W2 wx) => HT.out wx (B2.out.trans (hb.mono (Nat.le_succ _))))
    have HB2S := hid (show w.heap.size + 1 ≤ W2.heap.size from X2.out.lt)
    have T2 := hid (Below.refl (w.heap.size + 1) W2)
    have hBW := HB2S.out
    have hLN : [nm].length + 1 ≤ 300 := by simp
    go_wp2_with (at_builtin; go_must (refine app_one elem_strv (cs := [.string (S [105, 51, 50])]) rfl _ _ rfl rfl rfl rfl O2.out.row rfl (by intro c hc; simp at hc; subst hc; rfl) (by omega) (by omega) hBW ?_); intro v' w5 ho hb5 hg; obtain ⟨a5, c5, rfl, _⟩ := own_sl ho; have b5 := (KT.grown hg.1 O2.out.row).blk O2.out.blk rfl; have z0 := b5.cell (i := 0) rfl; have zf := b5.free 0; have HP := hid (O2.out.push ho hg); clear ho hb5 hg b5)
    obtain ⟨hp1, hp2, hp3⟩ := HP.out
    have O4 := hid hp1
    have c4 := hp1.blk.cell (i := 0) rfl
    have T4 := hid (hp2.below HB2S.out (fun k hk => O2.out.base_le hk))
    clear hp1 hp2 hp3
    go_wp2_with fail
    go_ret
    exact ⟨_, rfl, own_mono' O4.out.row (Nat.le_succ _), B2.out.trans (T4.out.mono (Nat.le_succ _))⟩
  · rw [e1] at HBS
    clear e1
    have g1 : (A == 127) = false := by rw [e2]; rfl
    have g2 : (A == 126) = true := beq_iff_eq.2 e2
    clear e2
    go_enter Tryd.func15, Tryd.ntmps15
    go_wp2_with fail
    refine HNM.out.mono ?_
    rintro r w1 ⟨rfl, hb1⟩
    have x1 := HX.out.below hb1
    have B1 := hid (HA.out.trans (hb1.mono HA.out.size))
    have z0 := fun o p => cell_alloc p (cell_alloc o (x1.cell (i := 0) rfl))
    have O2 := hid (out_new w1 (w.heap.size + 1) nm x1.lt)
    have B2 := hid (out_bel B1.out nm B1.out.size)
    have X2 := hid (show Blk ((w1.alloc (.cells #[.string (S nm)] 9)).alloc (.cells #[.slice (some ⟨w1.heap.size, 0, none⟩) 1 1] 33)) w.heap.size 45 [.int .u8 op, .int .i64 A, .int .i64 B, .slice av n cv] from (x1.alloc _).alloc _)
    clear hb1 x1
    go_wp2_with fail
    refine (HBS.out _).mono ?_
    rintro r w3 ⟨rfl, rfl⟩
    clear z0 HNM HBS HX HA y0
    generalize ((w1.alloc (.cells #[.string (S nm)] 9)).alloc (.cells #[.slice (some ⟨w1.heap.size, 0, none⟩) 1 1] 33)) = W2 at *
    generalize w1.heap.size + 1 = OB at *
    have q1 := X2.out.cell (i := 1) rfl
    have q2 := X2.out.cell (i := 2) rfl
    have q3 := X2.out.cell (i := 3) rfl
    have c5 := O2.out.blk.cell (i := 0) rfl
    have HTW := hid (fun wx (hb : Below (w.heap.size + 1) W2 wx) => HT.out wx (B2.out.trans (hb.mono (Nat.le_succ _))))
    have HB2S := hid (show w.heap.size + 1 ≤ W2.heap.size from X2.out.lt)
    have T2 := hid (Below.refl (w.heap.size + 1) W2)
    have hBW := HB2S.out
    have hLN : [nm].length + 1 ≤ 300 := by simp
    go_wp2_with (at_builtin; go_must (refine app_one elem_strv (cs := [.string (S [105, 54, 52])]) rfl _ _ rfl rfl rfl rfl O2.out.row rfl (by intro c hc; simp at hc; subst hc; rfl) (by omega) (by omega) hBW ?_); intro v' w5 ho hb5 hg; obtain ⟨a5, c5, rfl, _⟩ := own_sl ho; have b5 := (KT.grown hg.1 O2.out.row).blk O2.out.blk rfl; have z0 := b5.cell (i := 0) rfl; have zf := b5.free 0; have HP := hid (O2.out.push ho hg); clear ho hb5 hg b5)
    obtain ⟨hp1, hp2, hp3⟩ := HP.out
    have O4 := hid hp1
    have c4 := hp1.blk.cell (i := 0) rfl
    have T4 := hid (hp2.below HB2S.out (fun k hk => O2.out.base_le hk))
    clear hp1 hp2 hp3
    go_wp2_with fail
    go_ret
    exact ⟨_, rfl, own_mono' O4.out.row (Nat.le_succ _), B2.out.trans (T4.out.mono (Nat.le_succ _))⟩
  · rw [e1] at HBS
    clear e1
    have g1 : (A == 127) = false := beq_eq_false_iff_ne.2 e2
    have g2 : (A == 126) = false := beq_eq_false_iff_ne.2 e3
    clear e2 e3
    go_enter Tryd.func15, Tryd.ntmps15
    go_wp2_with fail
    refine HNM.out.mono ?_
    rintro r w1 ⟨rfl, hb1⟩
    have x1 := HX.out.below hb1
    have B1 := hid (HA.out.trans (hb1.mono HA.out.size))
    have z0 := fun o p => cell_alloc p (cell_alloc o (x1.cell (i := 0) rfl))
    have O2 := hid (out_new w1 (w.heap.size + 1) nm x1.lt)
    have B2 := hid (out_bel B1.out nm B1.out.size)
    have X2 := hid (show Blk ((w1.alloc (.cells #[.string (S nm)] 9)).alloc (.cells #[.slice (some ⟨w1.heap.size, 0, none⟩) 1 1] 33)) w.heap.size 45 [.int .u8 op, .int .i64 A, .int .i64 B, .slice av n cv] from (x1.alloc _).alloc _)
    clear hb1 x1
    go_wp2_with fail
    refine (HBS.out _).mono ?_
    rintro r w3 ⟨rfl, rfl⟩
    clear z0 HNM HBS HX HA y0
    generalize ((w1.alloc (.cells #[.string (S nm)] 9)).alloc (.cells #[.slice (some ⟨w1.heap.size, 0, none⟩) 1 1] 33)) = W2 at *
    generalize w1.heap.size + 1 = OB at *
    have q1 := X2.out.cell (i := 1) rfl
    have q2 := X2.out.cell (i := 2) rfl
    have q3 := X2.out.cell (i := 3) rfl
    have c5 := O2.out.blk.cell (i := 0) rfl
    have HTW := hid (fun wx (hb : Below (w.heap.size + 1) W2 wx) => HT.out wx (B2.out.trans (hb.mono (Nat.le_succ _))))
    have HB2S := hid (show w.heap.size + 1 ≤ W2.heap.size from X2.out.lt)
    have T2 := hid (Below.refl (w.heap.size + 1) W2)
    go_wp2_with fail
    go_ret
    exact ⟨_, rfl, own_mono' O2.out.row (Nat.le_succ _), B2.out.trans (T2.out.mono (Nat.le_succ _))⟩
end Go.Proofs.YtnifgmijjggjjaaDoor
