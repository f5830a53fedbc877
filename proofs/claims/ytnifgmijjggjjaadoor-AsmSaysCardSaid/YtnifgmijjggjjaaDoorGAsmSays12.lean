/-
  LINES OF INSTRUCTIONS: the program's Write. Conditions: the library's table of tens holds what the row lists; the variable that strings.Split reads holds some number.
-/
import Derived.Test.YtnifgmijjggjjaaDoorGAsmSays1
import Derived.Test.YtnifgmijjggjjaaDoorGAsmSays10
import Derived.Test.YtnifgmijjggjjaaDoorGAsmSays11
import Derived.Test.YtnifgmijjggjjaaDoorNsB
namespace Go.Proofs.YtnifgmijjggjjaaDoor
open Go.RowKit Go.Lib
attribute [local go_sem ↓] Go.wp_at_zero Go.wp_at_succ

/-- a line -/
def lineL (x : It) : List UInt8 := ((nmM x.op).1 ++ ((wdM (tB x.op) x.A x.B x.tos).map (fun w => 32 :: w)).flatten) ++ [10]
def textL (l : List It) : List UInt8 := l.flatMap lineL
/-- an instruction whose numbers are in their bounds -/
structure ItG (x : It) : Prop where
  op : x.op < 256
  A : -9223372036854775808 ≤ x.A ∧ x.A ≤ 9223372036854775807
  B : -9223372036854775808 ≤ x.B ∧ x.B ≤ 9223372036854775807
  tz : ∀ z ∈ x.tos, -9223372036854775808 ≤ z ∧ z ≤ 9223372036854775807
  len : x.tos.length ≤ 16
theorem itG {x : It} (h : ItOk x) (hc : itC x = 0) : ItG x := by
  obtain ⟨k0, k1, k2, k3, k4⟩ := chk_ok hc
  refine ⟨h.1, h.2, ?_, ?_, by omega⟩
  · unfold okB at k3
    split at k3
    · have := isIx_bd k3; omega
    · have := of_decide_eq_true k3; omega
  · intro z hz
    unfold okT at k4
    split at k4
    · have := isIx_bd (List.all_eq_true.1 k4 z hz); omega
    · have h0 := of_decide_eq_true k4
      rw [List.eq_nil_of_length_eq_zero h0] at hz
      cases hz
theorem wd_len (k : Nat) (A B : Int) (xs : List Int) (h : xs.length ≤ 16) : (wdM k A B xs).length ≤ 17 ∧ ∀ y ∈ wdM k A B xs, y.length ≤ 22 := by
  have hi := itL_len
  unfold wdM
  split
  · split
    · exact ⟨by simp, fun y hy => by rw [List.mem_singleton.1 hy]; decide⟩
    · split
      · exact ⟨by simp, fun y hy => by rw [List.mem_singleton.1 hy]; decide⟩
      · exact ⟨by simp, fun y hy => by cases hy⟩
  · split
    · refine ⟨by simp; omega, fun y hy => ?_⟩
      rcases List.mem_append.1 hy with hy | hy
      · obtain ⟨z, _, rfl⟩ := List.mem_map.1 hy; exact hi z
      · rw [List.mem_singleton.1 hy]; exact hi A
    · split
      · refine ⟨by simp, fun y hy => ?_⟩
        simp only [List.mem_cons, List.not_mem_nil, or_false] at hy
        rcases hy with rfl | rfl <;> exact hi _
      · split
        · exact ⟨by simp, fun y hy => by rw [List.mem_singleton.1 hy]; exact hi A⟩
        · exact ⟨by simp, fun y hy => by cases hy⟩
theorem flat_len (L : List (List UInt8)) (h : ∀ y ∈ L, y.length ≤ 22) : ((L.map (fun w => (32 : UInt8) :: w)).flatten).length ≤ L.length * 23 := by
  induction L with
  | nil => simp
  | cons y r ih =>
    have h1 := ih (fun z hz => h z (List.mem_cons_of_mem _ hz))
    have h2 := h y List.mem_cons_self
    simp only [List.map_cons, List.flatten_cons, List.length_append, List.length_cons]
    omega
theorem line_len (x : It) (h : ItG x) : (lineL x).length ≤ 420 := by
  obtain ⟨h1, h2⟩ := wd_len (tB x.op) x.A x.B x.tos h.len
  have h3 := flat_len _ h2
  have h4 := nm_len ⟨x.op, h.op⟩
  unfold lineL
  simp only [List.length_append, List.length_cons, List.length_nil] at h4 ⊢
  omega
theorem text_len (l : List It) (h : ∀ x ∈ l, ItG x) : (textL l).length ≤ l.length * 420 := by
  unfold textL
  induction l with
  | nil => simp
  | cons x r ih =>
    have h1 := ih (fun z hz => h z (List.mem_cons_of_mem _ hz))
    have h2 := line_len x (h x List.mem_cons_self)
    simp only [List.flatMap_cons, List.length_append, List.length_cons]
    omega
theorem join_any (w : World) (u : Value) (L : List (List UInt8)) (h0 : L ≠ []) (h : Sl w u L.length (L.map (fun x => Value.string (S x)))) (hl : (Lib.join L [32]).length ≤ 140737488355328) (hN : L.length ≤ 100) :
    Calls Tryd.prog 14 #[u, .string ⟨#[32]⟩] w fun e w' => e = .returned (.string (S (Lib.join L [32]))) ∧ Below w.heap.size w w' := by
  obtain ⟨ao, cap, rfl, hc1, hc2, _, hcs⟩ := h
  rcases hcs with e | ⟨b, off, rfl, hat⟩
  · exact absurd (List.map_eq_nil_iff.1 e) h0
  have hcell : ∀ (j : Nat) x, (L.map S)[j]? = some x → w.cell? ⟨b, off + j, none⟩ = some (.string x) := by
    intro j x hj
    have hjl : j < L.length := by
      rcases Nat.lt_or_ge j L.length with h | h
      · exact h
      · rw [List.getElem?_eq_none (by simpa using h)] at hj; cases hj
    have := hat j (by simpa using hjl)
    rw [this]
    rw [List.getElem?_map, List.getElem?_eq_getElem hjl] at hj
    simp only [Option.map_some, Option.some.injEq] at hj
    rw [List.getElem_map, hj]
  have hb : b < w.heap.size := by
    have hp := hat 0 (by simpa using List.length_pos_iff.2 h0)
    rcases Nat.lt_or_ge b w.heap.size with h | h
    · exact h
    · simp [World.cell?, Array.getElem?_eq_none h] at hp
  have hm : (L.map S).map (fun x => x.data.toList) = L := by
    rw [List.map_map]
    conv => rhs; rw [← List.map_id L]
    exact List.map_congr_left (fun x _ => S_data x)
  have := Tryd.strings_Join b off cap (L.map S) ⟨#[32]⟩ w hcell hb (by rw [List.length_map]; omega) (by rw [List.length_map]; exact hc1) (by rw [hm]; exact hl)
  rw [hm, List.length_map] at this
  exact this
theorem Bu.below {B b : Nat} {p : Value} {l : List UInt8} {w w' : World} (h : BuAt B b p l w) (hb : Below w.heap.size w w') : BuAt B b p l w' := by
  obtain ⟨h0, v, h1, h2, h3⟩ := h
  exact ⟨h0, v, (hb.block b (lt_of_block h1)).trans h1, own_below h2 hb, h3⟩
theorem IsBu.below {B b : Nat} {l : List UInt8} {w w' : World} (h : IsBu B b l w) (hb : Below w.heap.size w w') : IsBu B b l w' := by
  rcases h with h | h
  · exact .inl (Bu.below h hb)
  · exact .inr (Bu.below h hb)
theorem bod_cells {w : World} {v : Value} {l : List It} (h : BodS w v l) (k : Nat) (hk : k < l.length) : ∃ lb lo cap u, v = .slice (some ⟨lb, lo, none⟩) l.length cap ∧ Ints w .i64 u l[k].tos ∧ w.cell? ⟨lb, lo + k * 4, none⟩ = some (.int .u8 l[k].op) ∧ w.cell? ⟨lb, lo + k * 4 + 1, none⟩ = some (.int .i64 l[k].A) ∧ w.cell? ⟨lb, lo + k * 4 + 2, none⟩ = some (.int .i64 l[k].B) ∧ w.cell? ⟨lb, lo + k * 4 + 3, none⟩ = some u := by
  obtain ⟨css, h1, ⟨ao, cap, rfl, _, _, _, hcs⟩, h3⟩ := h
  have hkc : k < css.length := by omega
  obtain ⟨u, e, hu⟩ := h3 k hkc hk
  have hlen : ∀ c ∈ css, c.length = 4 := by
    intro c hc
    obtain ⟨i, hi, rfl⟩ := List.getElem_of_mem hc
    obtain ⟨u, e, _⟩ := h3 i hi (by omega)
    rw [e]; rfl
  have hg : ∀ j, j < 4 → css.flatten[k * 4 + j]? = (css[k])[j]? := fun j hj => flatten_get css hlen k j hj hkc
  rcases hcs with e0 | ⟨b, off, rfl, hat⟩
  · have := hg 0 (by decide)
    rw [e0, e] at this
    simp at this
  · have hc : ∀ j, j < 4 → w.cell? ⟨b, off + (k * 4 + j), none⟩ = (css[k])[j]? := by
      intro j hj
      have e2 := hg j hj
      have hjl : j < (css[k]).length := by rw [hlen _ (List.getElem_mem hkc)]; exact hj
      rw [List.getElem?_eq_getElem hjl] at e2 ⊢
      obtain ⟨hlt, e3⟩ := List.getElem?_eq_some_iff.1 e2
      rw [hat _ hlt, e3]
    rw [e] at hc
    refine ⟨b, off, cap, u, rfl, hu, hc 0 (by decide), ?_, ?_, ?_⟩
    · rw [Nat.add_assoc]; exact hc 1 (by decide)
    · rw [Nat.add_assoc]; exact hc 2 (by decide)
    · rw [Nat.add_assoc]; exact hc 3 (by decide)
/-- what Write answers -/
def wrM (l : List It) : List UInt8 × Int := if ncM l ≠ 0 then ([], ncM l) else if 6000 < (textL l).length then ([], 2) else (textL l, 0)
theorem ncM_good {l : List It} (hok : ∀ x ∈ l, ItOk x) (h : ncM l = 0) : l.length ≤ 200 ∧ ∀ x ∈ l, ItG x := by
  unfold ncM at h
  split at h
  · omega
  · exact ⟨by omega, fun x hx => itG (hok x hx) (chk_zero _ _ _ h x hx)⟩
set_option maxRecDepth 100000 in
set_option maxHeartbeats 8000000 in
theorem awrite_any (w : World) (v : Value) (l : List It) (hok : ∀ x ∈ l, ItOk x) (h : BodS w v l) (hM : MaxL w) (hT : TenT w) :
    Calls Tryd.prog 6 #[v] w fun e w' => e = .returned (.tuple #[.string (S (wrM l).1), .int .i64 (wrM l).2]) ∧ Below w.heap.size w w' := by
  have HC := hid (ncheck_any w v l hok h)
  have HG := hid (ncM_good hok)
  have H := hid h
  have HM := hid hM
  have HT := hid hT
  obtain ⟨ao, cap, rfl⟩ : ∃ ao cap, v = .slice ao l.length cap := by
    obtain ⟨_, _, ⟨ao, cap, e, _⟩, _⟩ := h
    exact ⟨ao, cap, e⟩
  obtain ⟨E, hE⟩ : ∃ E, ncM l = E := ⟨_, rfl⟩
  have HW := hid (show wrM l = if E ≠ 0 then ([], E) else if 6000 < (textL l).length then ([], 2) else (textL l, 0) from by unfold wrM; rw [hE])
  rw [hE] at HC HG
  clear hM hT hok hE h
  by_cases h0 : E = 0
  · have hne : (E != 0) = false := by rw [h0]; rfl
    obtain ⟨g1, g2⟩ := HG.out h0
    have HGG := hid g2
    have HTL := hid (text_len l g2)
    rw [h0] at HC HW
    rw [HW.out, if_neg (by simp)]
    obtain ⟨X, Y, hXY⟩ : ∃ X Y, (if 6000 < (textL l).length then (([] : List UInt8), (2 : Int)) else (textL l, 0)) = (X, Y) := ⟨_, _, rfl⟩
    rw [hXY]
    have HXY := hid hXY
    clear hXY
    clear hne g2 HG HW
    generalize hn : l.length = n at *
    have HN := hid hn
    clear hn
    go_enter Tryd.func6, Tryd.ntmps6
    go_wp2_with fail
    refine HC.out.mono ?_
    rintro r w1 ⟨rfl, hb1⟩
    have B1 := hid hb1
    have F1 := hid (show IsBu w1.heap.size w1.heap.size [] (w1.alloc (.cells #[.pointer none, .slice none 0 0] 42)) from Lib.fresh_isBuilder _ _ _)
    clear hb1
    go_wp2_with fail
    go_loopw [15] (fun i wr => ∃ k : Nat, k ≤ n ∧ i = .int .i64 k ∧ Hid (IsBu w1.heap.size w1.heap.size (textL (l.take k)) wr) ∧ Hid (Below w1.heap.size w1 wr)) (fun i _ => n - (RowKit.intOf i).toNat)
    case atStart => exact ⟨0, Nat.zero_le _, rfl, F1, hid ((Below.refl _ _).alloc (Nat.le_refl _) _)⟩
    case round =>
      obtain ⟨k, hk, rfl, HF, HB⟩ := hrel
      by_cases hlt0 : k < n
      · have hlt : k < l.length := by rw [HN.out]; exact hlt0
        have hltI : (k : Int) < n := by omega
        have HTK := hid (show textL (l.take (k + 1)) = textL (l.take k) ++ lineL l[k] from by unfold textL; rw [List.take_succ_eq_append_getElem hlt, List.flatMap_append]; simp)
        have HTS := hid (text_len (l.take k) (fun x hx => HGG.out x (List.mem_of_mem_take hx)))
        have HLT := hid (show (l.take k).length ≤ 200 from by rw [List.length_take]; omega)
        obtain ⟨lb, lo, cap', u, hv, hu, y0, y1, y2, y3⟩ := bod_cells (H.out.below (B1.out.trans (HB.out.mono B1.out.size))) k hlt
        simp only [Value.slice.injEq] at hv
        obtain ⟨rfl, hnn, rfl⟩ := hv
        clear hnn
        have hx := HGG.out _ (List.getElem_mem hlt)
        generalize textL (l.take k) = T at *
        generalize l[k] = x at *
        obtain ⟨op, A, C, xs⟩ := x
        have HX := hid hx
        have HU := hid hu
        obtain ⟨au, cu, rfl, _⟩ := id hu
        simp only at y0 y1 y2 y3
        have HWD := hid (wd_len (tB op) A C xs hx.len)
        have HNL := hid (show (nmM op).1.length ≤ 20 from nm_len ⟨op, hx.op⟩)
        have HLL := hid (show lineL ⟨op, A, C, xs⟩ = Lib.join ((nmM op).1 :: wdM (tB op) A C xs) [32] ++ [10] from by rw [join_blank]; rfl)
        have HLN := hid (line_len _ hx)
        have HWO := hid (fun wx (hb : Below wr.heap.size wr wx) => words_any wx op hx.op A C hx.A hx.B xs (.slice au xs.length cu) (L1.below hu hb) hx.tz hx.len ((HM.out.below (B1.out.trans (HB.out.mono B1.out.size))).below hb) (fun w' hb' => HT.out.below ((B1.out.trans (HB.out.mono B1.out.size)).trans ((hb.trans (hb'.mono hb.size)).mono (Nat.le_trans B1.out.size HB.out.size)))))
        have b0 := Blk.new wr #[.int .u8 op, .int .i64 A, .int .i64 C, .slice au xs.length cu] 45 _ rfl
        have z0 := b0.cell (i := 0) rfl
        have z1 := b0.cell (i := 1) rfl
        have z2 := b0.cell (i := 2) rfl
        have z3 := b0.cell (i := 3) rfl
        have BA := hid ((Below.refl wr.heap.size wr).alloc (Nat.le_refl _) (.cells #[.int .u8 op, .int .i64 A, .int .i64 C, .slice au xs.length cu] 45))
        clear hlt hx hu b0
        go_wp2_with fail
        refine (HWO.out _ BA.out).mono ?_
        rintro r w2 ⟨uu, rfl, ho, hb2⟩
        have B2 := hid (BA.out.trans (hb2.mono BA.out.size))
        have HO := hid ho
        clear ho hb2
        have hjl : (Lib.join ((nmM op).1 :: wdM (tB op) A C xs) [32]).length ≤ 419 := by
          have := HLN.out
          rw [HLL.out, List.length_append] at this
          simp at this
          omega
        have HJ := hid (join_any w2 uu ((nmM op).1 :: wdM (tB op) A C xs) (by simp) (own_sl HO.out) (by omega) (by have := HWD.out.1; simp; omega))
        have HL2 := hid (HTK.out.trans (congrArg (T ++ ·) HLL.out))
        generalize Lib.join ((nmM op).1 :: wdM (tB op) A C xs) [32] = J at *
        have hTS := HTS.out
        have hLT := HLT.out
        go_wp2_with fail
        refine HJ.out.mono ?_
        rintro r w3 ⟨rfl, hb3⟩
        have B3 := hid (B2.out.trans (hb3.mono B2.out.size))
        clear hb3
        go_wp2_with fail
        refine (writeString_any w1.heap.size w1.heap.size T J w3 (HF.out.below B3.out) (by omega) (Nat.le_trans HB.out.size B3.out.size)).mono ?_
        rintro r w4 ⟨⟨n4, rfl⟩, h4, hb4⟩
        have F4 := hid h4
        have B4 := hid ((HB.out.trans (B3.out.mono HB.out.size)).trans hb4)
        clear h4 hb4
        go_wp2_with fail
        refine (writeByte_any w1.heap.size w1.heap.size (T ++ J) 10 (by decide) w4 (.inr F4.out) (by rw [List.length_append]; omega) B4.out.size).mono ?_
        rintro r w5 ⟨rfl, h5, hb5⟩
        have F5 := hid (show IsBu w1.heap.size w1.heap.size (textL (l.take (k + 1))) w5 from by rw [HL2.out, ← List.append_assoc]; exact .inr h5)
        have B5 := hid (B4.out.trans hb5)
        clear h5 hb5
        go_wp2_with fail
        go_roundw
        case rel => exact ⟨k + 1, by omega, by go_num, F5, B5⟩
        case measure => simp [RowKit.intOf]; omega
      · obtain rfl : k = n := by omega
        have hfin := HF.out
        rw [← HN.out, List.take_length] at hfin
        have HE := hid hfin
        have HLN := hid (Tryd.Builder_Len w1.heap.size w1.heap.size _ wr hfin)
        have hcl : (Lib.byteCells (textL l)).length = (textL l).length := Lib.byteCells_length _
        rw [hcl] at HLN
        clear hfin hcl
        have hle := HTL.out
        obtain ⟨m, hm⟩ : ∃ m, (textL l).length = m := ⟨_, rfl⟩
        rw [hm] at HLN hle HXY
        clear hm
        have BW := hid (B1.out.trans (HB.out.mono B1.out.size))
        by_cases hbig : 6000 < m
        · have hbI : (6000 : Int) < m := by omega
          have HXX := hid (show X = [] ∧ Y = 2 from by have := HXY.out; rw [if_pos hbig] at this; exact ⟨(congrArg Prod.fst this).symm, (congrArg Prod.snd this).symm⟩)
          clear HXY
          go_wp2_with (go_at_call 17; refine HLN.out.mono ?_; rintro r w3 ⟨rfl, rfl⟩)
          go_ret2
          exact ⟨by rw [HXX.out.1, HXX.out.2]; rfl, BW.out⟩
        · have hbI : ¬ (6000 : Int) < m := by omega
          have HST := hid (Tryd.Builder_String_any w1.heap.size w1.heap.size (textL l) wr HE.out HB.out.size)
          have HXX := hid (show X = textL l ∧ Y = 0 from by have := HXY.out; rw [if_neg hbig] at this; exact ⟨(congrArg Prod.fst this).symm, (congrArg Prod.snd this).symm⟩)
          clear HXY
          go_wp2_with (first | (go_at_call 17; refine HLN.out.mono ?_; rintro r w3 ⟨rfl, rfl⟩) | (go_at_call 18; refine HST.out.mono ?_; rintro r w4 ⟨rfl, hb4⟩; have B4 := hid (BW.out.trans (hb4.mono B1.out.size)); clear hb4))
          go_ret2
          exact ⟨by rw [HXX.out.1, HXX.out.2]; rfl, B4.out⟩
  · have hne : (E != 0) = true := bne_iff_ne.2 h0
    rw [HW.out, if_pos h0]
    clear HG HW h0
    go_enter Tryd.func6, Tryd.ntmps6
    go_wp2_with fail
    refine HC.out.mono ?_
    rintro r w1 ⟨rfl, hb1⟩
    have B1 := hid hb1
    clear hb1
    go_wp2_with fail
    go_ret2
    exact ⟨rfl, B1.out⟩
end Go.Proofs.YtnifgmijjggjjaaDoor
