/-
  BODIES: the reference's NestMatch and NestCheck. Condition: the library's variable that strings.Contains reads holds some number.
-/
import Derived.Test.YthoalneknadheaaGreatDoorGBinWrites19
import Derived.Test.YthoalneknadheaaGreatDoorGBinWrites31
import Derived.Test.YthoalneknadheaaGreatDoorGBinWrites34
import Derived.Test.YthoalneknadheaaGreatDoorGBinWrites35
namespace Go.Proofs.YthoalneknadheaaGreatDoor
open Go.RowKit Go.Lib
attribute [local go_sem ↓] Go.wp_at_zero Go.wp_at_succ

theorem ints_none (w : World) : Ints w .i64 (.slice none 0 0) [] := ⟨none, 0, rfl, by simp, by simp, by simp, .inl rfl⟩
theorem nc_all (l : List It) (h : ¬ 200 < l.length) : ncM l = (allM itC It.op l).1 := by
  unfold ncM
  rw [if_neg h]
  exact (all_laws l).1
theorem mk_all (l : List It) (h : (allM itC It.op l).1 = 0) : mkM l = (allM itC It.op l).2 := (all_laws (c := itC) l).2 h _ ⟨by simp, by simp⟩
set_option maxRecDepth 100000 in
set_option maxHeartbeats 4000000 in
theorem rnmatch_any (w : World) (v : Value) (l : List It) (hok : ∀ x ∈ l, ItOk x) (h : BodS w v l) (hM : MaxL w) :
    Calls Tryz.prog 129 #[v] w fun e w' => ∃ va vb, e = .returned (.tuple #[va, vb, .int .i64 (ncM l)]) ∧ Ints w' .i64 va (if ncM l = 0 then (mkM l).1 else []) ∧ Ints w' .i64 vb (if ncM l = 0 then (mkM l).2 else []) ∧ Below w.heap.size w w' := by
  by_cases hbig : 200 < l.length
  · have hn : ncM l = 2 := by unfold ncM; rw [if_pos hbig]
    rw [hn]
    simp only [show ¬ ((2 : Int) = 0) from by decide, if_false]
    obtain ⟨css, _, ⟨ao, cap, rfl, _⟩, _⟩ := h
    have hb2 : (200 : Int) < (l.length : Int) := by omega
    go_enter Tryz.func129, Tryz.ntmps129
    go_wp2_with fail
    go_ret3
    exact ⟨_, _, rfl, ints_none _, ints_none _, Below.refl _ _⟩
  · rw [nc_all l hbig]
    have hb2 : ¬ (200 : Int) < (l.length : Int) := by omega
    have HB := hid (show Below w.heap.size w (w.alloc (.cells #[v, .slice none 0 0, .slice none 0 0] 197)) from (Below.refl _ _).alloc (Nat.le_refl _) _)
    by_cases h0 : 0 < l.length
    · obtain ⟨b, off, cap, rfl, hcap, hrow⟩ := h.rows h0
      have HA := hid (rall_any w l hok (by omega) h0 hM b off cap hcap hrow _ HB.out w.heap.size (Blk.new w _ _ _ rfl) (Nat.le_refl _) (fun E cE S cS => rseq_any w l hok (by omega) hM b off cap hcap w.heap.size E cE S cS hrow 12 0 (by omega)))
      have hmk := mk_all l
      generalize mkM l = mk at *
      generalize allM itC It.op l = fin at *
      obtain ⟨E0, m0⟩ := fin
      simp only at HA hmk ⊢
      by_cases he : E0 = 0
      · have hm := hmk he
        subst hm
        subst he
        simp only [if_true]
        clear hok h hM hrow hmk
        go_enter Tryz.func129, Tryz.ntmps129
        go_wp2_with fail
        refine HA.out.mono ?_
        rintro r w2 ⟨rfl, ⟨E, cE, S, cS, g1⟩, g2⟩
        have K2 := hid g1
        have B2 := hid g2
        clear g1 g2
        have mk1 := K2.out.blk.cell (i := 1) rfl
        have mk2 := K2.out.blk.cell (i := 2) rfl
        have mk1d : w2.drew.cell? ⟨w.heap.size, 1, none⟩ = some (.slice (some ⟨E, 0, none⟩) l.length cE) := mk1
        have mk2d : w2.drew.cell? ⟨w.heap.size, 2, none⟩ = some (.slice (some ⟨S, 0, none⟩) l.length cS) := mk2
        go_wp2_with fail
        go_region_law (fail)
        all_goals
          go_wp2_with fail
          go_ret3
          exact ⟨_, _, rfl, K2.out.drew.en.ints, K2.out.drew.el.ints, drew_bel' (n := 1) B2.out⟩
      · have he2 : (E0 != 0) = true := by simpa using he
        simp only [if_neg he]
        clear hok h hM hrow hmk he
        go_enter Tryz.func129, Tryz.ntmps129
        go_wp2_with fail
        refine HA.out.mono ?_
        rintro r w2 ⟨rfl, _, g2⟩
        have B2 := hid g2
        clear g2
        go_wp2_with fail
        go_ret3
        exact ⟨_, _, rfl, ints_none _, ints_none _, B2.out⟩
    · have hl : l = [] := List.length_eq_zero_iff.1 (by omega)
      subst hl
      rw [show (allM itC It.op ([] : List It)).1 = 3 from rfl]
      simp only [show ¬ ((3 : Int) = 0) from by decide, if_false]
      obtain ⟨css, _, ⟨ao, cap, rfl, _⟩, _⟩ := h
      have HA := hid (rall_nil (w.alloc (.cells #[.slice ao 0 cap, .slice none 0 0, .slice none 0 0] 197)) w.heap.size ao cap (Blk.new w _ _ _ rfl))
      clear hok hM
      go_enter Tryz.func129, Tryz.ntmps129
      go_wp2_with fail
      refine HA.out.mono ?_
      rintro r w2 ⟨rfl, rfl⟩
      go_wp2_with fail
      go_ret3
      exact ⟨_, _, rfl, ints_none _, ints_none _, HB.out⟩
set_option maxRecDepth 100000 in
set_option maxHeartbeats 1000000 in
theorem rncheck_any (w : World) (v : Value) (l : List It) (hok : ∀ x ∈ l, ItOk x) (h : BodS w v l) (hM : MaxL w) :
    Calls Tryz.prog 93 #[v] w fun e w' => e = .returned (.int .i64 (ncM l)) ∧ Below w.heap.size w w' := by
  have HA := hid (rnmatch_any w v l hok h hM)
  obtain ⟨css, _, ⟨ao, cap, rfl, _⟩, _⟩ := h
  generalize ncM l = E at *
  clear hok hM
  go_enter Tryz.func93, Tryz.ntmps93
  go_wp2_with fail
  refine HA.out.mono ?_
  rintro r w2 ⟨va, vb, rfl, _, _, g2⟩
  have B2 := hid g2
  clear g2
  go_wp2_with fail
  go_ret
  exact ⟨rfl, B2.out⟩
end Go.Proofs.YthoalneknadheaaGreatDoor
namespace Go.Proofs.YthoalneknadheaaGreatDoor
open Go.RowKit Go.Lib
attribute [local go_sem ↓] Go.wp_at_zero Go.wp_at_succ


set_option maxRecDepth 100000 in
set_option maxHeartbeats 4000000 in
theorem rnwrite_any (w : World) (v : Value) (l : List It) (hok : ∀ x ∈ l, ItOk x) (h : BodS w v l) (hM : MaxL w) :
    Calls Tryz.prog 130 #[v] w fun e w' => e = .returned (.tuple #[.string (nwM l), .int .i64 (ncM l)]) ∧ Below w.heap.size w w' := by
  have HC := hid (rncheck_any w v l hok h hM)
  have H := hid h
  obtain ⟨css, _, ⟨ao, cap, rfl, _⟩, _⟩ := h
  unfold nwM
  by_cases hE : ncM l = 0
  · rw [if_pos hE, hE]
    rw [hE] at HC
    have h2 : l.length ≤ 200 ∧ chkR itC It.op l 0 ([(-1, 2)], false) = 0 := by
      have h := hE
      unfold ncM at h
      split at h
      · omega
      · exact ⟨by omega, h⟩
    obtain ⟨h200, hchk⟩ := h2
    have HZ := hid (chk_zero l 0 _ hchk)
    have HOK := hid hok
    have HFIN := hid (show S ((l.take l.length).flatMap itW) = S (l.flatMap itW) by rw [List.take_length])
    generalize S (l.flatMap itW) = fin at *
    have HMX := hid hM
    clear hM
    clear hok hE hchk
    go_enter Tryz.func130, Tryz.ntmps130
    go_wp2_with fail
    refine HC.out.mono ?_
    rintro r w1 ⟨rfl, g1⟩
    have B1 := hid g1
    clear g1
    go_wp2_with fail
    go_loopw [17, 5] (fun i o wr => ∃ (k : Nat) (acc : ByteArray), k ≤ l.length ∧ i = .int .i64 k ∧ o = .string acc ∧ Hid (acc = S ((l.take k).flatMap itW)) ∧ Hid (Below w.heap.size w wr)) (fun i _ _ => l.length - (RowKit.intOf i).toNat)
    case atStart => exact ⟨0, ⟨#[]⟩, Nat.zero_le _, rfl, rfl, hid rfl, B1⟩
    case round =>
      obtain ⟨k, acc, hk, rfl, rfl, HA, BL⟩ := hrel
      by_cases hlt : k < l.length
      · have hlt2 : (k : Int) < (l.length : Int) := by omega
        obtain ⟨b, off, cap', u, hv, _, _, c0, c1, c2, c3, hto⟩ := (H.out.below BL.out).open k hlt
        simp only [Value.slice.injEq] at hv
        obtain ⟨rfl, -, rfl⟩ := hv
        have hxok := HOK.out l[k] (List.getElem_mem hlt)
        have hz := HZ.out l[k] (List.getElem_mem hlt)
        have HST := hid (show S ((l.take (k + 1)).flatMap itW) = acc ++ S (itW l[k]) by
          rw [HA.out, S_append, List.take_succ_eq_append_getElem hlt, List.flatMap_append]; simp)
        have hsz : acc.size ≤ k * 400 := by
          rw [HA.out, S_size]
          exact flat_bound (l.take k) 400 k (by rw [List.length_take]; omega) (fun x hx => itW_len x (HZ.out x (List.mem_of_mem_take hx)))
        have hs2 : (S (itW l[k])).size ≤ 400 := by rw [S_size]; exact itW_len _ hz
        generalize l[k] = x at *
        obtain ⟨op, A, C, xs⟩ := x
        simp only at c0 c1 c2 c3 hto
        obtain ⟨hop, hA⟩ := hxok
        simp only at hop hA
        obtain ⟨au, cu, rfl, -⟩ := id hto
        have X2 := hid (Blk.new wr #[.int .u8 op, .int .i64 A, .int .i64 C, .slice au xs.length cu] 162 _ rfl)
        have B2 := hid (BL.out.alloc BL.out.size (.cells #[.int .u8 op, .int .i64 A, .int .i64 C, .slice au xs.length cu] 162))
        have HW := hid (rinsW_any op hop A C hA xs (.slice au xs.length cu) (wr.alloc (.cells #[.int .u8 op, .int .i64 A, .int .i64 C, .slice au xs.length cu] 162)) (HMX.out.below B2.out) (L1.below hto (Below.alloc (Below.refl _ _) (Nat.le_refl _) _)))
        rw [show wrT op A C xs = S (itW ⟨op, A, C, xs⟩) from if_pos hz, show chkI (tB op) A C xs = 0 from hz] at HW
        generalize S (itW ⟨op, A, C, xs⟩) = P at *
        have x0 := X2.out.cell (i := 0) rfl
        have x1 := X2.out.cell (i := 1) rfl
        have x2 := X2.out.cell (i := 2) rfl
        have x3 := X2.out.cell (i := 3) rfl
        have hsum : ¬ 9223372036854775807 < acc.size + P.size := by omega
        clear hto hz hA hop
        go_wp2_with fail
        refine HW.out.mono ?_
        rintro r w3 ⟨rfl, g1⟩
        have B3 := hid (B2.out.trans (g1.mono B2.out.size))
        clear g1 x0 x1 x2 x3
        go_wp2_with fail
        go_roundw
        case rel => exact ⟨k + 1, acc ++ P, by omega, by go_num, rfl, hid HST.out.symm, B3⟩
        case measure => simp [RowKit.intOf]; omega
      · have hlt2 : ¬ (k : Int) < (l.length : Int) := by omega
        have HR := hid (show acc = fin by rw [HA.out, ← HFIN.out, show k = l.length by omega])
        go_wp2_with fail
        go_ret2
        rw [← HR.out]
        exact ⟨rfl, BL.out⟩
  · rw [if_neg hE]
    generalize ncM l = E at *
    have hE2 : (E != 0) = true := by simpa using hE
    clear hE
    go_enter Tryz.func130, Tryz.ntmps130
    go_wp2_with fail
    refine HC.out.mono ?_
    rintro r w1 ⟨rfl, g1⟩
    have B1 := hid g1
    clear g1
    go_wp2_with fail
    go_ret2
    exact ⟨rfl, B1.out⟩
end Go.Proofs.YthoalneknadheaaGreatDoor
namespace Go.Proofs.YthoalneknadheaaGreatDoor
open Go.RowKit Go.Lib

def bdE (is : Bool) (e : Int) : Int := if is = true then e else 0
theorem bd_nd (ok : Bool) (e : Int) : bdE (!ok) e = ndE ok e := by cases ok <;> rfl
structure RF (w : World) (base B : Nat) (f : Int) (n : Nat) : Prop where
  ex : ∃ L, FBox w base B L ∧ firstF L = f ∧ (∀ x ∈ L, x ≠ 0) ∧ L.length ≤ n
def RPo (base B : Nat) (f : Int) (n : Nat) (w : World) (e : Ending) (w' : World) : Prop := e = .returned (.tuple #[]) ∧ RF w' base B f n ∧ Below base w w' ∧ KeepF B w w'
theorem RF.below {w w' : World} {base B n : Nat} {f : Int} (h : RF w base B f n) (hb : Below w.heap.size w w') : RF w' base B f n := by
  obtain ⟨⟨L, h1, h2⟩⟩ := h
  exact ⟨⟨L, h1.below hb, h2⟩⟩
theorem RF.mono {w : World} {base B n n' : Nat} {f : Int} (h : RF w base B f n) (hn : n ≤ n') : RF w base B f n' := by
  obtain ⟨⟨L, h1, h2, h3, h4⟩⟩ := h
  exact ⟨⟨L, h1, h2, h3, by omega⟩⟩
theorem RPo.of {base B n : Nat} {f : Int} {w : World} {L : List Int} {is : Bool} {e : Int} (hf : firstF L = f) (hz : ∀ x ∈ L, x ≠ 0) (hl : L.length ≤ n) (he : is = true → e ≠ 0) {en : Ending} {w' : World} (h : FPost base B w (L ++ flt is e) en w') : RPo base B (orE f (bdE is e)) (n + 1) w en w' := by
  obtain ⟨h1, h2, h3, h4⟩ := h
  refine ⟨h1, ⟨⟨_, h2, ?_, ?_, ?_⟩⟩, h3, h4⟩
  · subst hf
    cases L with
    | nil => cases is <;> rfl
    | cons x r =>
      show x = orE x _
      rw [orE_stop (hz x List.mem_cons_self)]
  · intro x hx
    rcases List.mem_append.1 hx with g | g
    · exact hz x g
    · cases is with
      | false => simp [flt] at g
      | true => simp [flt] at g; subst g; exact he rfl
  · rw [List.length_append]
    cases is <;> simp [flt] <;> omega
theorem rad_any (w : World) (base B n : Nat) (f e : Int) (is : Bool) (he : is = true → e ≠ 0) (hn : n ≤ 1099511627776) (h : RF w base B f n) :
    Calls Tryz.prog 88 #[.pointer (some ⟨B, 0, none⟩), .bool is, .int .i64 e] w (RPo base B (orE f (bdE is e)) (n + 1) w) := by
  obtain ⟨⟨L, h1, h2, h3, h4⟩⟩ := h
  exact (fadd_any w base B L is e h1 (by omega)).mono (fun _ _ g => RPo.of h2 h3 h4 he g)
theorem fIdx_bad (n : Int) : fIdx n = bdE (idxBad n) 1 := by
  unfold fIdx
  rw [← bd_nd]
  congr 1
  unfold isI idxBad
  by_cases h : 0 ≤ n ∧ n ≤ 4294967295
  · rw [decide_eq_true h, decide_eq_false (by omega)]; rfl
  · rw [decide_eq_false h, decide_eq_true (by omega)]; rfl
theorem fPlc_bad (n : Int) : fPlc n = bdE (atBad n) 1 := by
  unfold fPlc
  rw [← bd_nd]
  congr 1
  unfold isP atBad
  by_cases h : -2147483648 ≤ n ∧ n ≤ 2147483647
  · rw [decide_eq_true h, decide_eq_false (by omega)]; rfl
  · rw [decide_eq_false h, decide_eq_true (by omega)]; rfl
theorem ridx_any (w : World) (base B n : Nat) (f k : Int) (hn : n ≤ 1099511627776) (h : RF w base B f n) :
    Calls Tryz.prog 91 #[.pointer (some ⟨B, 0, none⟩), .int .i64 k] w (RPo base B (orE f (fIdx k)) (n + 1) w) := by
  obtain ⟨⟨L, h1, h2, h3, h4⟩⟩ := h
  rw [fIdx_bad]
  exact (findex_any w base B L k h1 (by omega)).mono (fun _ _ g => RPo.of h2 h3 h4 (fun _ => by decide) g)
theorem rat_any (w : World) (base B n : Nat) (f k : Int) (hn : n ≤ 1099511627776) (h : RF w base B f n) :
    Calls Tryz.prog 94 #[.pointer (some ⟨B, 0, none⟩), .int .i64 k] w (RPo base B (orE f (fPlc k)) (n + 1) w) := by
  obtain ⟨⟨L, h1, h2, h3, h4⟩⟩ := h
  rw [fPlc_bad]
  exact (fat_any w base B L k h1 (by omega)).mono (fun _ _ g => RPo.of h2 h3 h4 (fun _ => by decide) g)
set_option maxRecDepth 100000 in
theorem rsays_any (w : World) (base B n : Nat) (f e : Int) (hn : n ≤ 1099511627776) (h : RF w base B f n) :
    Calls Tryz.prog 92 #[.pointer (some ⟨B, 0, none⟩), .int .i64 e] w (RPo base B (orE f e) (n + 1) w) := by
  have HE := hid (show bdE (e != 0) e = e from by
    unfold bdE
    by_cases g : e = 0
    · subst g; rfl
    · rw [if_pos (by simpa using g)])
  have HA := hid (rad_any w base B n f e (e != 0) (fun g => by simpa using g) hn h)
  rw [HE.out] at HA
  obtain ⟨q, hq⟩ : ∃ q, (e != 0) = q := ⟨_, rfl⟩
  rw [hq] at HA
  clear h HE
  go_enter Tryz.func92, Tryz.ntmps92
  go_wp2_with fail
  refine HA.out.mono ?_
  rintro r w1 hp
  obtain ⟨rfl, hq2⟩ := hp
  have HQ := hid hq2
  clear hq2
  go_wp2_with fail
  go_end0
  exact ⟨rfl, HQ.out⟩
set_option maxRecDepth 100000 in
theorem rnm_any (w : World) (base B n : Nat) (f : Int) (s : ByteArray) (hs : s.size ≤ 140737488351232) (hn : n ≤ 1099511627776) (h : RF w base B f n) (hb : base ≤ w.heap.size) :
    Calls Tryz.prog 90 #[.pointer (some ⟨B, 0, none⟩), .string s] w (RPo base B (orE f (nameE s)) (n + 1) w) := by
  have HN := hid (rname_any s (by omega) w)
  have HS := hid (fun wx h => rsays_any wx base B n f (nameE s) hn h)
  have H := hid h
  have HB := hid hb
  generalize nameE s = E at *
  generalize nameX s = X at *
  clear h hs hb
  go_enter Tryz.func90, Tryz.ntmps90
  go_wp2_with fail
  refine HN.out.mono ?_
  rintro r w1 ⟨rfl, hb1⟩
  have B1 := hid hb1
  have H1 := hid (H.out.below hb1)
  clear hb1
  go_wp2_with fail
  refine (HS.out _ H1.out).mono ?_
  rintro r w2 hp
  obtain ⟨rfl, hq⟩ := hp
  have HQ := hid hq
  clear hq
  go_wp2_with fail
  go_end0
  exact ⟨rfl, HQ.out.1, (B1.out.mono HB.out).trans HQ.out.2.1, KeepF.trans (fun c ty cs _ _ g => g.below B1.out) HQ.out.2.2⟩
theorem RPo.trans {base B n' : Nat} {f' : Int} {w w1 w2 : World} {e : Ending} (h1 : Below base w w1) (h2 : KeepF B w w1) (h : RPo base B f' n' w1 e w2) : Below base w w2 ∧ KeepF B w w2 := ⟨h1.trans h.2.2.1, h2.trans h.2.2.2⟩
set_option maxRecDepth 100000 in
set_option maxHeartbeats 4000000 in
theorem rkinds_any (w : World) (base B n : Nat) (f : Int) (v : Value) (ys : List Int) (most : Int) (hl : ∀ w', Below base w w' → KeepF B w w' → Ints w' .u8 v ys) (hn : n + ys.length + 1 ≤ 1099511627776) (h : RF w base B f n) :
    Calls Tryz.prog 89 #[.pointer (some ⟨B, 0, none⟩), v, .int .i64 most] w (RPo base B (orE f (eachE fKind ys most)) (n + ys.length + 1) w) := by
  have HA := hid (fun wx h => rad_any wx base B n f 2 (!(decide ((ys.length : Int) ≤ most))) (fun _ => by decide) (by omega) h)
  have H := hid h
  have HL := hid hl
  obtain ⟨ao, cap, rfl, hcap, hcm, _, _⟩ := hl w (Below.refl _ _) (fun _ _ _ _ _ g => g)
  unfold eachE
  rw [← orE_assoc]
  obtain ⟨bs, hbs⟩ : ∃ bs, decide ((ys.length : Int) ≤ most) = bs := ⟨_, rfl⟩
  rw [hbs, bd_nd] at HA
  rw [hbs]
  have hbs2 : decide (most < (ys.length : Int)) = !bs := by
    rw [← hbs]
    by_cases g : (ys.length : Int) ≤ most
    · rw [decide_eq_true g, decide_eq_false (by omega)]; rfl
    · rw [decide_eq_false g, decide_eq_true (by omega)]; rfl
  obtain ⟨b1, hb1⟩ : ∃ b1, orE f (ndE bs 2) = b1 := ⟨_, rfl⟩
  rw [hb1] at HA
  rw [hb1]
  have HNX := hid (fun k (hk : k < ys.length) => foldE_next fKind ys k hk b1)
  have HFL := hid (foldE_full fKind ys b1)
  obtain ⟨N, hN⟩ : ∃ N, ys.length = N := ⟨_, rfl⟩
  have HLN := hid hN
  rw [hN] at hcap HL hbs2 HFL hn
  rw [hN]
  have hn9 : (N : Int) ≤ 1099511627776 := by omega
  have HN := hid hn
  clear h hl hb1 hN hbs hn
  go_enter Tryz.func89, Tryz.ntmps89
  go_wp2_with fail
  refine (HA.out _ H.out).mono ?_
  rintro r w2 hp
  obtain ⟨rfl, hq⟩ := hp
  have HQ := hid hq
  clear hq
  go_wp2_with fail
  go_loopw [16] (fun i wr => ∃ k : Nat, k ≤ N ∧ i = .int .i64 k ∧ Hid (RF wr base B (orE b1 (foldE fKind (ys.take k))) (n + 1 + k)) ∧ Hid (Below base w wr) ∧ Hid (KeepF B w wr)) (fun i _ => N - (RowKit.intOf i).toNat)
  case atStart => exact ⟨0, Nat.zero_le _, rfl, hid (by rw [List.take_zero]; show RF w2 base B (orE b1 0) _; rw [orE_none]; exact HQ.out.1), hid HQ.out.2.1, hid HQ.out.2.2⟩
  case round =>
    obtain ⟨k, hk, rfl, PP, TB, TK⟩ := hrel
    by_cases hlt : k < N
    · have hkl : k < ys.length := by rw [HLN.out]; exact hlt
      have hI := HL.out wr TB.out TK.out
      rcases hI.open with ⟨_, _, _, e, _⟩ | ⟨lb, lo, cap', hv, _, hcap3, hcap2, hc⟩
      · rw [e] at hkl; simp at hkl
      simp only [Value.slice.injEq] at hv
      obtain ⟨rfl, -, rfl⟩ := hv
      have y0 := hc k hkl
      have HNK := hid (HNX.out k hkl)
      clear hc hI hcap3
      generalize orE b1 (foldE fKind (ys.take k)) = cur at *
      generalize ys[k] = y at *
      clear hkl
      rcases (show y = 126 ∨ y = 127 ∨ (¬ y = 126 ∧ ¬ y = 127) from by omega) with rfl | rfl | ⟨g1, g2⟩
      · have HFK := hid (show fKind 126 = bdE false 1 from by decide)
        go_wp2_with fail
        refine (rad_any _ base B (n + 1 + k) cur 1 _ (fun _ => by decide) (by have := HN.out; omega) PP.out).mono ?_
        rintro r w3 hp
        obtain ⟨rfl, hq⟩ := hp
        have HQ3 := hid hq
        clear hq
        go_wp2_with fail
        go_roundw
        case rel => exact ⟨k + 1, by omega, by go_num, hid (by rw [← HNK.out, HFK.out]; exact HQ3.out.1), hid (TB.out.trans HQ3.out.2.1), hid (KeepF.trans TK.out HQ3.out.2.2)⟩
        case measure => simp [RowKit.intOf]; omega
      · have HFK := hid (show fKind 127 = bdE false 1 from by decide)
        go_wp2_with fail
        refine (rad_any _ base B (n + 1 + k) cur 1 _ (fun _ => by decide) (by have := HN.out; omega) PP.out).mono ?_
        rintro r w3 hp
        obtain ⟨rfl, hq⟩ := hp
        have HQ3 := hid hq
        clear hq
        go_wp2_with fail
        go_roundw
        case rel => exact ⟨k + 1, by omega, by go_num, hid (by rw [← HNK.out, HFK.out]; exact HQ3.out.1), hid (TB.out.trans HQ3.out.2.1), hid (KeepF.trans TK.out HQ3.out.2.2)⟩
        case measure => simp [RowKit.intOf]; omega
      · have HFK := hid (show fKind y = bdE (y != 126 && y != 127) 1 from by rw [show (y != 126 && y != 127) = true from by simp [g1, g2]]; unfold fKind isK; rw [decide_eq_false (by omega)]; rfl)
        have e1 : (y == 126) = false := by simpa using g1
        have e2 : (y == 127) = false := by simpa using g2
        go_wp2_with fail
        refine (rad_any _ base B (n + 1 + k) cur 1 _ (fun _ => by decide) (by have := HN.out; omega) PP.out).mono ?_
        rintro r w3 hp
        obtain ⟨rfl, hq⟩ := hp
        have HQ3 := hid hq
        clear hq
        go_wp2_with fail
        go_roundw
        case rel => exact ⟨k + 1, by omega, by go_num, hid (by rw [← HNK.out, HFK.out]; exact HQ3.out.1), hid (TB.out.trans HQ3.out.2.1), hid (KeepF.trans TK.out HQ3.out.2.2)⟩
        case measure => simp [RowKit.intOf]; omega
    · obtain rfl : k = N := by omega
      go_wp2_with fail
      go_end0
      rw [← HFL.out]
      exact ⟨rfl, PP.out.mono (by omega), TB.out, TK.out⟩
end Go.Proofs.YthoalneknadheaaGreatDoor
