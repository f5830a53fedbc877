/-
  MODULES AS BYTES, the reference's faults: add, index, at, says, kinds, name. No condition beside lengths.
-/
import Derived.Test.YtdiiefhklcchmaaDoorGBinChecks3
import Derived.Test.YtdiiefhklcchmaaDoorGBinChecks8
namespace Go.Proofs.YtdiiefhklcchmaaDoor
open Go.RowKit Go.Lib

def bdE (is : Bool) (e : Int) : Int := if is = true then e else 0
theorem bd_nd (ok : Bool) (e : Int) : bdE (!ok) e = ndE ok e := by cases ok <;> rfl
/-- the faults so far: the first one is f, there are n at most -/
structure RF (w : World) (base B : Nat) (f : Int) (n : Nat) : Prop where
  ex : ∃ L, FBox w base B L ∧ firstF L = f ∧ (∀ x ∈ L, x ≠ 0) ∧ L.length ≤ n
def RPo (base B : Nat) (f : Int) (n : Nat) (w : World) (e : Ending) (w' : World) : Prop := e = .returned (.tuple #[]) ∧ RF w' base B f n ∧ Below base w w' ∧ KeepF B w w'
theorem RF.below {w w' : World} {base B n : Nat} {f : Int} (h : RF w base B f n) (hb : Below w.heap.size w w') : RF w' base B f n := by
  obtain ⟨⟨L, h1, h2⟩⟩ := h
  exact ⟨⟨L, h1.below hb, h2⟩⟩
theorem RF.mono {w : World} {base B n n' : Nat} {f : Int} (h : RF w base B f n) (hn : n ≤ n') : RF w base B f n' := by
  obtain ⟨⟨L, h1, h2, h3, h4⟩⟩ := h
  exact ⟨⟨L, h1, h2, h3, by omega⟩⟩
theorem RPo.of {base B n : Nat} {f : Int} {w : World} {L : List Int} {is : Bool} {e : Int} (hf : firstF L = f) (hz : ∀ x ∈ L, x ≠ 0) (hl : L.length ≤ n) (he : is = true → e ≠ 0) {en : Ending} {w' : World} (h : FPost base B w (L ++ flt is e) en w') : RPo base B (orE f (bdE is e)) (n + 1) w en w' := by
  obtain ⟨h1, h2, h3, h4⟩ := h
  refine ⟨h1, ⟨⟨_, h2, ?_, ?_, ?_⟩⟩, h3, h4⟩
  · subst hf
    cases L with
    | nil => cases is <;> rfl
    | cons x r =>
      show x = orE x _
      rw [orE_stop (hz x List.mem_cons_self)]
  · intro x hx
    rcases List.mem_append.1 hx with g | g
    · exact hz x g
    · cases is with
      | false => simp [flt] at g
      | true => simp [flt] at g; subst g; exact he rfl
  · rw [List.length_append]
    cases is <;> simp [flt] <;> omega
theorem rad_any (w : World) (base B n : Nat) (f e : Int) (is : Bool) (he : is = true → e ≠ 0) (hn : n ≤ 1099511627776) (h : RF w base B f n) :
    Calls Tryd.prog 28 #[.pointer (some ⟨B, 0, none⟩), .bool is, .int .i64 e] w (RPo base B (orE f (bdE is e)) (n + 1) w) := by
  obtain ⟨⟨L, h1, h2, h3, h4⟩⟩ := h
  exact (fadd_any w base B L is e h1 (by omega)).mono (fun _ _ g => RPo.of h2 h3 h4 he g)
theorem fIdx_bad (n : Int) : fIdx n = bdE (idxBad n) 1 := by
  unfold fIdx
  rw [← bd_nd]
  congr 1
  unfold isI idxBad
  by_cases h : 0 ≤ n ∧ n ≤ 4294967295
  · rw [decide_eq_true h, decide_eq_false (by omega)]; rfl
  · rw [decide_eq_false h, decide_eq_true (by omega)]; rfl
theorem fPlc_bad (n : Int) : fPlc n = bdE (atBad n) 1 := by
  unfold fPlc
  rw [← bd_nd]
  congr 1
  unfold isP atBad
  by_cases h : -2147483648 ≤ n ∧ n ≤ 2147483647
  · rw [decide_eq_true h, decide_eq_false (by omega)]; rfl
  · rw [decide_eq_false h, decide_eq_true (by omega)]; rfl
theorem ridx_any (w : World) (base B n : Nat) (f k : Int) (hn : n ≤ 1099511627776) (h : RF w base B f n) :
    Calls Tryd.prog 31 #[.pointer (some ⟨B, 0, none⟩), .int .i64 k] w (RPo base B (orE f (fIdx k)) (n + 1) w) := by
  obtain ⟨⟨L, h1, h2, h3, h4⟩⟩ := h
  rw [fIdx_bad]
  exact (findex_any w base B L k h1 (by omega)).mono (fun _ _ g => RPo.of h2 h3 h4 (fun _ => by decide) g)
theorem rat_any (w : World) (base B n : Nat) (f k : Int) (hn : n ≤ 1099511627776) (h : RF w base B f n) :
    Calls Tryd.prog 34 #[.pointer (some ⟨B, 0, none⟩), .int .i64 k] w (RPo base B (orE f (fPlc k)) (n + 1) w) := by
  obtain ⟨⟨L, h1, h2, h3, h4⟩⟩ := h
  rw [fPlc_bad]
  exact (fat_any w base B L k h1 (by omega)).mono (fun _ _ g => RPo.of h2 h3 h4 (fun _ => by decide) g)
set_option maxRecDepth 100000 in
theorem rsays_any (w : World) (base B n : Nat) (f e : Int) (hn : n ≤ 1099511627776) (h : RF w base B f n) :
    Calls Tryd.prog 32 #[.pointer (some ⟨B, 0, none⟩), .int .i64 e] w (RPo base B (orE f e) (n + 1) w) := by
  have HE := hid (show bdE (e != 0) e = e from by
    unfold bdE
    by_cases g : e = 0
    · subst g; rfl
    · rw [if_pos (by simpa using g)])
  have HA := hid (rad_any w base B n f e (e != 0) (fun g => by simpa using g) hn h)
  rw [HE.out] at HA
  obtain ⟨q, hq⟩ : ∃ q, (e != 0) = q := ⟨_, rfl⟩
  rw [hq] at HA
  clear h HE
  go_enter Tryd.func32, Tryd.ntmps32
  go_wp2_with fail
  refine HA.out.mono ?_
  rintro r w1 hp
  obtain ⟨rfl, hq2⟩ := hp
  have HQ := hid hq2
  clear hq2
  go_wp2_with fail
  go_end0
  exact ⟨rfl, HQ.out⟩
set_option maxRecDepth 100000 in
theorem rnm_any (w : World) (base B n : Nat) (f : Int) (s : ByteArray) (hs : s.size ≤ 140737488351232) (hn : n ≤ 1099511627776) (h : RF w base B f n) (hb : base ≤ w.heap.size) :
    Calls Tryd.prog 30 #[.pointer (some ⟨B, 0, none⟩), .string s] w (RPo base B (orE f (nameE s)) (n + 1) w) := by
  have HN := hid (rname_any s (by omega) w)
  have HS := hid (fun wx h => rsays_any wx base B n f (nameE s) hn h)
  have H := hid h
  have HB := hid hb
  generalize nameE s = E at *
  generalize nameX s = X at *
  clear h hs hb
  go_enter Tryd.func30, Tryd.ntmps30
  go_wp2_with fail
  refine HN.out.mono ?_
  rintro r w1 ⟨rfl, hb1⟩
  have B1 := hid hb1
  have H1 := hid (H.out.below hb1)
  clear hb1
  go_wp2_with fail
  refine (HS.out _ H1.out).mono ?_
  rintro r w2 hp
  obtain ⟨rfl, hq⟩ := hp
  have HQ := hid hq
  clear hq
  go_wp2_with fail
  go_end0
  exact ⟨rfl, HQ.out.1, (B1.out.mono HB.out).trans HQ.out.2.1, KeepF.trans (fun c ty cs _ _ g => g.below B1.out) HQ.out.2.2⟩
theorem fKind_bad (k : Int) : fKind k = bdE (!(k == 126) && !(k == 127)) 1 := by
  unfold fKind
  rw [← bd_nd]
  congr 1
  unfold isK
  by_cases h1 : k = 126
  · simp [h1]
  · by_cases h2 : k = 127 <;> simp [h1, h2]
theorem RPo.trans {base B n' : Nat} {f' : Int} {w w1 w2 : World} {e : Ending} (h1 : Below base w w1) (h2 : KeepF B w w1) (h : RPo base B f' n' w1 e w2) : Below base w w2 ∧ KeepF B w w2 := ⟨h1.trans h.2.2.1, h2.trans h.2.2.2⟩
set_option maxRecDepth 100000 in
set_option maxHeartbeats 4000000 in
theorem rkinds_any (w : World) (base B n : Nat) (f : Int) (v : Value) (ys : List Int) (most : Int) (hl : ∀ w', Below base w w' → KeepF B w w' → Ints w' .u8 v ys) (hn : n + ys.length + 1 ≤ 1099511627776) (h : RF w base B f n) :
    Calls Tryd.prog 29 #[.pointer (some ⟨B, 0, none⟩), v, .int .i64 most] w (RPo base B (orE f (eachE fKind ys most)) (n + ys.length + 1) w) := by
  have HA := hid (fun wx h => rad_any wx base B n f 2 (!(decide ((ys.length : Int) ≤ most))) (fun _ => by decide) (by omega) h)
  have H := hid h
  have HL := hid hl
  obtain ⟨ao, cap, rfl, hcap, hcm, _, _⟩ := hl w (Below.refl _ _) (fun _ _ _ _ _ g => g)
  unfold eachE
  rw [← orE_assoc]
  obtain ⟨bs, hbs⟩ : ∃ bs, decide ((ys.length : Int) ≤ most) = bs := ⟨_, rfl⟩
  rw [hbs, bd_nd] at HA
  rw [hbs]
  have hbs2 : decide (most < (ys.length : Int)) = !bs := by
    rw [← hbs]
    by_cases g : (ys.length : Int) ≤ most
    · rw [decide_eq_true g, decide_eq_false (by omega)]; rfl
    · rw [decide_eq_false g, decide_eq_true (by omega)]; rfl
  obtain ⟨b1, hb1⟩ : ∃ b1, orE f (ndE bs 2) = b1 := ⟨_, rfl⟩
  rw [hb1] at HA
  rw [hb1]
  have HNX := hid (fun k (hk : k < ys.length) => foldE_next fKind ys k hk b1)
  have HFL := hid (foldE_full fKind ys b1)
  obtain ⟨N, hN⟩ : ∃ N, ys.length = N := ⟨_, rfl⟩
  have HLN := hid hN
  rw [hN] at hcap HL hbs2 HFL hn
  rw [hN]
  have hn9 : (N : Int) ≤ 1099511627776 := by omega
  have HN := hid hn
  clear h hl hb1 hN hbs hn
  go_enter Tryd.func29, Tryd.ntmps29
  go_wp2_with fail
  refine (HA.out _ H.out).mono ?_
  rintro r w2 hp
  obtain ⟨rfl, hq⟩ := hp
  have HQ := hid hq
  clear hq
  go_wp2_with fail
  go_loopw [16] (fun i wr => ∃ k : Nat, k ≤ N ∧ i = .int .i64 k ∧ Hid (RF wr base B (orE b1 (foldE fKind (ys.take k))) (n + 1 + k)) ∧ Hid (Below base w wr) ∧ Hid (KeepF B w wr)) (fun i _ => N - (RowKit.intOf i).toNat)
  case atStart => exact ⟨0, Nat.zero_le _, rfl, hid (by rw [List.take_zero]; show RF w2 base B (orE b1 0) _; rw [orE_none]; exact HQ.out.1), hid HQ.out.2.1, hid HQ.out.2.2⟩
  case round =>
    obtain ⟨k, hk, rfl, PP, TB, TK⟩ := hrel
    by_cases hlt : k < N
    · have hkl : k < ys.length := by rw [HLN.out]; exact hlt
      have hI := HL.out wr TB.out TK.out
      rcases hI.open with ⟨_, _, _, e, _⟩ | ⟨lb, lo, cap', hv, _, hcap3, hcap2, hc⟩
      · rw [e] at hkl; simp at hkl
      simp only [Value.slice.injEq] at hv
      obtain ⟨rfl, -, rfl⟩ := hv
      have y0 := hc k hkl
      have HNK := hid (HNX.out k hkl)
      clear hc hI hcap3
      generalize orE b1 (foldE fKind (ys.take k)) = cur at *
      generalize ys[k] = y at *
      clear hkl
      rcases (show y = 126 ∨ y = 127 ∨ (¬ y = 126 ∧ ¬ y = 127) from by omega) with rfl | rfl | ⟨g1, g2⟩
      · have HFK := hid (show fKind 126 = bdE false 1 from by decide)
        go_wp2_with fail
        refine (rad_any _ base B (n + 1 + k) cur 1 _ (fun _ => by decide) (by have := HN.out; omega) PP.out).mono ?_
        rintro r w3 hp
        obtain ⟨rfl, hq⟩ := hp
        have HQ3 := hid hq
        clear hq
        go_wp2_with fail
        go_roundw
        case rel => exact ⟨k + 1, by omega, by go_num, hid (by rw [← HNK.out, HFK.out]; exact HQ3.out.1), hid (TB.out.trans HQ3.out.2.1), hid (KeepF.trans TK.out HQ3.out.2.2)⟩
        case measure => simp [RowKit.intOf]; omega
      · have HFK := hid (show fKind 127 = bdE false 1 from by decide)
        go_wp2_with fail
        refine (rad_any _ base B (n + 1 + k) cur 1 _ (fun _ => by decide) (by have := HN.out; omega) PP.out).mono ?_
        rintro r w3 hp
        obtain ⟨rfl, hq⟩ := hp
        have HQ3 := hid hq
        clear hq
        go_wp2_with fail
        go_roundw
        case rel => exact ⟨k + 1, by omega, by go_num, hid (by rw [← HNK.out, HFK.out]; exact HQ3.out.1), hid (TB.out.trans HQ3.out.2.1), hid (KeepF.trans TK.out HQ3.out.2.2)⟩
        case measure => simp [RowKit.intOf]; omega
      · have HFK := hid (show fKind y = bdE (y != 126 && y != 127) 1 from by rw [show (y != 126 && y != 127) = true from by simp [g1, g2]]; unfold fKind isK; rw [decide_eq_false (by omega)]; rfl)
        have e1 : (y == 126) = false := by simpa using g1
        have e2 : (y == 127) = false := by simpa using g2
        go_wp2_with fail
        refine (rad_any _ base B (n + 1 + k) cur 1 _ (fun _ => by decide) (by have := HN.out; omega) PP.out).mono ?_
        rintro r w3 hp
        obtain ⟨rfl, hq⟩ := hp
        have HQ3 := hid hq
        clear hq
        go_wp2_with fail
        go_roundw
        case rel => exact ⟨k + 1, by omega, by go_num, hid (by rw [← HNK.out, HFK.out]; exact HQ3.out.1), hid (TB.out.trans HQ3.out.2.1), hid (KeepF.trans TK.out HQ3.out.2.2)⟩
        case measure => simp [RowKit.intOf]; omega
    · obtain rfl : k = N := by omega
      go_wp2_with fail
      go_end0
      rw [← HFL.out]
      exact ⟨rfl, PP.out.mono (by omega), TB.out, TK.out⟩
end Go.Proofs.YtdiiefhklcchmaaDoor
