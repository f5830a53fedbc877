/-
  INSTRUCTIONS: what stands beside an instruction, read by the program: all kinds in one. Conditions: lengths in the form's reach.
-/
import Derived.Test.YtakfineljffoaaaGreatDoorGBinReads10
import Derived.Test.YtakfineljffoaaaGreatDoorGBinReads13
import Derived.Test.YtakfineljffoaaaGreatDoorGBinReads15
import Derived.Test.YtakfineljffoaaaGreatDoorGBinReads16
import Derived.Deep.RegionLaw
namespace Go.Proofs.YtakfineljffoaaaGreatDoor
open Go.RowKit Go.Lib

/-- what stands beside an instruction: two numbers, a list; and what is left -/
def besM (k : Nat) (s : ByteArray × Int) : (Int × Int × List Int) × (ByteArray × Int) :=
  match k with
  | 2 => (((octM s).1, 0, []), sayM (okK (octM s).1) 6 (octM s).2)
  | 3 => (((numM s).1, 0, []), (numM s).2)
  | 4 => (((numM (takeM (numM s).1.toNat (sayM (decide (16 < (numM s).1)) 2 (numM s).2)).2).1, 0, (takeM (numM s).1.toNat (sayM (decide (16 < (numM s).1)) 2 (numM s).2)).1), (numM (takeM (numM s).1.toNat (sayM (decide (16 < (numM s).1)) 2 (numM s).2)).2).2)
  | 5 => (((numM s).1, 0, []), nogM (numM s).2)
  | 6 => (((numM s).1, (numM (numM s).2).1, []), (numM (numM s).2).2)
  | 7 => ((0, 0, []), nogM s)
  | 8 => (((sgnM 32 s).1, 0, []), (sgnM 32 s).2)
  | 9 => (((sgnM 64 s).1, 0, []), (sgnM 64 s).2)
  | _ => ((0, 0, []), s)
theorem own_nil0 (w : World) (H : Nat) : OwnI w H .i64 2 (.slice none 0 0) [] := OwnI.nil _ _ _ _
theorem ibs_any (w : World) (R X : Nat) (t : ByteArray) (s : ByteArray × Int) (op k : Nat) (hk : 1 ≤ k ∧ k ≤ 9) (h : DuI w R X t s op 0 0 (.slice none 0 0)) (h0 : s.2 = 0) :
    Calls Tryz.prog 153 #[.pointer (some ⟨R, 0, none⟩), .pointer (some ⟨X, 0, none⟩), .int .i64 k] w fun r w' => r = .returned (.tuple #[]) ∧
      (∃ u, DuI w' R X t (besM k s).2 op (besM k s).1.1 (besM k s).1.2.1 u ∧ OwnI w' w.heap.size .i64 2 u (besM k s).1.2.2) ∧ ToD R X w w' := by
  rcases (by omega : k = 1 ∨ k = 2 ∨ k = 3 ∨ k = 4 ∨ k = 5 ∨ k = 6 ∨ k = 7 ∨ k = 8 ∨ k = 9) with rfl | rfl | rfl | rfl | rfl | rfl | rfl | rfl | rfl
  · exact (ibs_1 w R X t s op _ h).mono (fun _ _ ⟨e, g, ht⟩ => ⟨e, ⟨_, g, own_nil0 _ _⟩, ht⟩)
  · exact (ibs_2 w R X t s op _ h).mono (fun _ _ ⟨e, g, ht⟩ => ⟨e, ⟨_, g, own_nil0 _ _⟩, ht⟩)
  · exact (ibs_3 w R X t s op _ h).mono (fun _ _ ⟨e, g, ht⟩ => ⟨e, ⟨_, g, own_nil0 _ _⟩, ht⟩)
  · unfold besM
    simp only
    by_cases hn : 16 < (numM s).1
    · rw [decide_eq_true hn, take_bad _ _ (say_bad (by decide) _)]
      exact (ibs_4x w R X t s op h hn).mono (fun _ _ ⟨e, g, ht⟩ => ⟨e, ⟨_, g, own_nil0 _ _⟩, ht⟩)
    · rw [decide_eq_false hn, say_false]
      exact ibs_4 w R X t s op h (by omega)
  · exact (ibs_5 w R X t s op _ h).mono (fun _ _ ⟨e, g, ht⟩ => ⟨e, ⟨_, g, own_nil0 _ _⟩, ht⟩)
  · exact (ibs_6 w R X t s op _ h).mono (fun _ _ ⟨e, g, ht⟩ => ⟨e, ⟨_, g, own_nil0 _ _⟩, ht⟩)
  · exact (ibs_7 w R X t s op _ h).mono (fun _ _ ⟨e, g, ht⟩ => ⟨e, ⟨_, g, own_nil0 _ _⟩, ht⟩)
  · exact (ibs_8 w R X t s op _ h h0).mono (fun _ _ ⟨e, g, ht⟩ => ⟨e, ⟨_, g, own_nil0 _ _⟩, ht⟩)
  · exact (ibs_9 w R X t s op _ h h0).mono (fun _ _ ⟨e, g, ht⟩ => ⟨e, ⟨_, g, own_nil0 _ _⟩, ht⟩)
end Go.Proofs.YtakfineljffoaaaGreatDoor
namespace Go.Proofs.YtakfineljffoaaaGreatDoor
open Go.RowKit Go.Lib
attribute [local go_sem ↓] Go.wp_at_zero Go.wp_at_succ

structure It where
  op : Nat
  A : Int
  B : Int
  tos : List Int
def ItOk (x : It) : Prop := x.op < 256 ∧ (-9223372036854775808 ≤ x.A ∧ x.A ≤ 9223372036854775807)
def itC (x : It) : Int := chkI (tB x.op) x.A x.B x.tos
/-- an instruction's cells -/
def ItAt (w : World) (cs : List Value) (x : It) : Prop := ∃ u, cs = [.int .u8 x.op, .int .i64 x.A, .int .i64 x.B, u] ∧ Ints w .i64 u x.tos
def BodS (w : World) (v : Value) (l : List It) : Prop := ∃ css : List (List Value), css.length = l.length ∧ Sl w v l.length css.flatten ∧ ∀ i (h1 : i < css.length) (h2 : i < l.length), ItAt w css[i] l[i]
theorem ItAt.below {w w' : World} {cs : List Value} {x : It} (h : ItAt w cs x) (hb : Below w.heap.size w w') : ItAt w' cs x := by
  obtain ⟨u, h1, h2⟩ := h
  exact ⟨u, h1, L1.below h2 hb⟩
theorem BodS.below {w w' : World} {v : Value} {l : List It} (h : BodS w v l) (hb : Below w.heap.size w w') : BodS w' v l := by
  obtain ⟨css, h1, h2, h3⟩ := h
  exact ⟨css, h1, h2.below hb, fun i g1 g2 => (h3 i g1 g2).below hb⟩
theorem BodS.open {w : World} {v : Value} {l : List It} (h : BodS w v l) (k : Nat) (hk : k < l.length) :
    ∃ b off cap u, v = .slice (some ⟨b, off, none⟩) l.length cap ∧ l.length ≤ cap ∧ cap ≤ 9223372036854775807 ∧ w.cell? ⟨b, off + k * 4, none⟩ = some (.int .u8 l[k].op) ∧ w.cell? ⟨b, off + k * 4 + 1, none⟩ = some (.int .i64 l[k].A) ∧ w.cell? ⟨b, off + k * 4 + 2, none⟩ = some (.int .i64 l[k].B) ∧ w.cell? ⟨b, off + k * 4 + 3, none⟩ = some u ∧ Ints w .i64 u l[k].tos := by
  obtain ⟨css, h1, ⟨ao, cap, hv, hc1, hc2, _, hcs⟩, h3⟩ := h
  obtain ⟨u, e1, e2⟩ := h3 k (by omega) hk
  have h4 : ∀ c ∈ css, c.length = 4 := by
    intro c hc
    obtain ⟨i, hi, rfl⟩ := List.getElem_of_mem hc
    obtain ⟨_, e, _⟩ := h3 i hi (by omega)
    rw [e]; rfl
  have hg : ∀ f, f < 4 → css.flatten[k * 4 + f]? = ([.int .u8 l[k].op, .int .i64 l[k].A, .int .i64 l[k].B, u] : List Value)[f]? := fun f hf => by rw [flatten_get css h4 k f hf (by omega), e1]
  rcases hcs with hcs | ⟨b, off, hao, hat⟩
  · have := hg 0 (by decide)
    rw [hcs] at this; simp at this
  · have hl : css.flatten.length = css.length * 4 := flatten_len css h4
    have hkl : k * 4 + 3 < css.flatten.length := by rw [hl]; omega
    have hx : ∀ f (hf : f < 4), w.cell? ⟨b, off + k * 4 + f, none⟩ = (css.flatten)[k * 4 + f]? := by
      intro f hf
      rw [Nat.add_assoc, hat (k * 4 + f) (by omega), List.getElem?_eq_getElem]
    refine ⟨b, off, cap, u, by rw [hv, hao], hc1, hc2, ?_, ?_, ?_, ?_, e2⟩
    · have := hx 0 (by decide); rw [hg 0 (by decide)] at this; simpa using this
    · rw [hx 1 (by decide), hg 1 (by decide)]; rfl
    · rw [hx 2 (by decide), hg 2 (by decide)]; rfl
    · rw [hx 3 (by decide), hg 3 (by decide)]; rfl
/-- what the program's Check says -/
def ncM (l : List It) : Int := if 200 < l.length then 2 else chkR itC It.op l 0 ([(-1, 2)], false)

set_option maxRecDepth 100000 in
set_option maxHeartbeats 4000000 in
theorem ncheck_any (w : World) (v : Value) (l : List It) (hok : ∀ x ∈ l, ItOk x) (h : BodS w v l) :
    Calls Tryz.prog 37 #[v] w fun e w' => e = .returned (.int .i64 (ncM l)) ∧ Below w.heap.size w w' := by
  have H := hid h
  obtain ⟨css, _, ⟨ao, cap, rfl, _⟩, _⟩ := h
  unfold ncM
  by_cases hbig : 200 < l.length
  · rw [if_pos hbig]
    have hb2 : (200 : Int) < (l.length : Int) := by omega
    go_enter Tryz.func37, Tryz.ntmps37
    go_wp2_with fail
    go_ret
    exact ⟨rfl, Below.refl _ _⟩
  · rw [if_neg hbig]
    have hb2 : ¬ (200 : Int) < (l.length : Int) := by omega
    have HOK := hid hok
    have HBG := hid (begin_any w)
    have HFIN := hid (show chkR itC It.op (l.drop 0) 0 ([(-1, 2)], false) = chkR itC It.op l 0 ([(-1, 2)], false) from rfl)
    generalize chkR itC It.op l 0 ([(-1, 2)], false) = fin at *
    have hl200 : l.length ≤ 200 := by omega
    clear hok hbig
    go_enter Tryz.func37, Tryz.ntmps37
    go_wp2_with fail
    refine HBG.out.mono ?_
    rintro r w1 ⟨vo, vl, B, rfl, g1, g2⟩
    have W1 := hid g1
    have B1 := hid g2
    clear g1 g2
    go_wp2_with fail
    go_loopw [15] (fun i wr => ∃ (k : Nat) (T : Stk) (ov : Bool) (vo vl : Value), k ≤ l.length ∧ i = .int .i64 k ∧ Hid (WkB wr B w.heap.size vo vl (T, ov)) ∧ Hid (Below w.heap.size w wr) ∧ Hid (chkR itC It.op (l.drop k) k (T, ov) = fin)) (fun i _ => l.length - (RowKit.intOf i).toNat)
    case atStart => exact ⟨0, _, _, vo, vl, Nat.zero_le _, rfl, W1, B1, HFIN⟩
    case round =>
      obtain ⟨k, T, ov, vo, vl, hk, rfl, WK, BL, HF⟩ := hrel
      by_cases hlt : k < l.length
      · have hlt2 : (k : Int) < (l.length : Int) := by omega
        obtain ⟨b, off, cap', u, hv, _, _, c0, c1, c2, c3, hto⟩ := (H.out.below BL.out).open k hlt
        simp only [Value.slice.injEq] at hv
        obtain ⟨rfl, -, rfl⟩ := hv
        have hx : l[k]? = some l[k] := List.getElem?_eq_getElem hlt
        have hxok := HOK.out l[k] (List.getElem_mem hlt)
        have HX := hid hx
        clear hx
        generalize l[k] = x at *
        obtain ⟨op, A, C, xs⟩ := x
        simp only at c0 c1 c2 c3 hto
        obtain ⟨hop, hA⟩ := hxok
        simp only at hop hA
        obtain ⟨au, cu, rfl, -⟩ := id hto
        have X2 := hid (Blk.new wr #[.int .u8 op, .int .i64 A, .int .i64 C, .slice au xs.length cu] 97 _ rfl)
        have K2 := hid (WK.out.below (Below.alloc (Below.refl _ _) (Nat.le_refl _) (.cells #[.int .u8 op, .int .i64 A, .int .i64 C, .slice au xs.length cu] 97)))
        have B2 := hid (BL.out.alloc BL.out.size (.cells #[.int .u8 op, .int .i64 A, .int .i64 C, .slice au xs.length cu] 97))
        have HC := hid (pchk_any op hop A C hA xs _ (wr.alloc (.cells #[.int .u8 op, .int .i64 A, .int .i64 C, .slice au xs.length cu] 97)) (L1.below hto (Below.alloc (Below.refl _ _) (Nat.le_refl _) _)))
        have HE := hid (show itC ⟨op, A, C, xs⟩ = chkI (tB op) A C xs from rfl)
        generalize chkI (tB op) A C xs = E at *
        have x0 := X2.out.cell (i := 0) rfl
        have x1 := X2.out.cell (i := 1) rfl
        have x2 := X2.out.cell (i := 2) rfl
        have x3 := X2.out.cell (i := 3) rfl
        have hwk : wrap64 ((k : Int) + 1) = ((k + 1 : Nat) : Int) := by unfold wrap64; omega
        clear hto
        by_cases hE : E = 0
        · subst hE
          go_wp2_with fail
          refine HC.out.mono ?_
          rintro r w3 ⟨rfl, g1⟩
          have X3 := hid (X2.out.below g1)
          have K3 := hid (K2.out.below g1)
          have B3 := hid (B2.out.trans (g1.mono B2.out.size))
          clear g1 x0 x1 x2 x3
          have x0 := X3.out.cell (i := 0) rfl
          have x1 := X3.out.cell (i := 1) rfl
          have x2 := X3.out.cell (i := 2) rfl
          have x3 := X3.out.cell (i := 3) rfl
          have HN := hid (next_any w3 B w.heap.size vo vl T ov op hop A C (.slice au xs.length cu) k K3.out)
          have HST := hid (fun h1 => chk_step (c := itC) (o := It.op) (st := (T, ov)) HX.out HE.out h1)
          have HWR := hid (fun h1 => chk_wrong (c := itC) (o := It.op) (st := (T, ov)) HX.out HE.out h1)
          simp only at HST HWR
          generalize wnext (T, ov) op k = nx at *
          obtain ⟨⟨is, e⟩, T2, ov2⟩ := nx
          simp only at HN HST HWR
          go_wp2_with fail
          refine HN.out.mono ?_
          rintro r w4 ⟨rfl, ⟨vo', vl', g1⟩, g2⟩
          have K4 := hid g1
          have B4 := hid (B3.out.trans (g2.below B3.out.size (fun j hj => (K3.out.feet j hj).1)))
          clear g1 g2
          by_cases he : e = 0
          · have HS2 := hid (HST.out he)
            clear HST HWR
            subst he
            go_wp2_with fail
            go_roundw
            case rel => exact ⟨k + 1, T2, ov2, vo', vl', by omega, by go_num, K4, B4, hid (HS2.out.symm.trans HF.out)⟩
            case measure => simp [RowKit.intOf]; omega
          · have he2 : (e != 0) = true := by simpa using he
            have HR := hid (show e = fin from (HWR.out he).symm.trans HF.out)
            clear he
            go_wp2_with fail
            go_ret
            exact ⟨by rw [HR.out]; rfl, B4.out⟩
        · have hE2 : (E != 0) = true := by simpa using hE
          have HR := hid (show E = fin from HE.out.symm.trans ((chk_bad (c := itC) (o := It.op) (st := (T, ov)) HX.out (by rw [HE.out]; exact hE)).symm.trans HF.out))
          clear hE
          go_wp2_with fail
          refine HC.out.mono ?_
          rintro r w3 ⟨rfl, g1⟩
          have B3 := hid (B2.out.trans (g1.mono B2.out.size))
          clear g1 x0 x1 x2 x3
          go_wp2_with fail
          go_ret
          exact ⟨by rw [HR.out]; rfl, B3.out⟩
      · have hlt2 : ¬ (k : Int) < (l.length : Int) := by omega
        have HR := hid (show (if ov = true then (0 : Int) else 3) = fin by rw [← HF.out, List.drop_eq_nil_of_le (by omega)]; rfl)
        have b2 := WK.out.blk.cell (i := 2) rfl
        simp only at b2
        cases ov with
        | true =>
          go_wp2_with fail
          go_ret
          exact ⟨by rw [← HR.out]; rfl, BL.out⟩
        | false =>
          go_wp2_with fail
          go_ret
          exact ⟨by rw [← HR.out]; rfl, BL.out⟩
end Go.Proofs.YtakfineljffoaaaGreatDoor
namespace Go.Proofs.YtakfineljffoaaaGreatDoor
open Go.RowKit Go.Lib
attribute [local go_sem ↓] Go.wp_at_zero Go.wp_at_succ

set_option maxRecDepth 100000 in
set_option maxHeartbeats 1000000 in
theorem ccount_any (w : World) (B : Nat) (all : Int) (s : ByteArray × Int) (most : Int) (h : CuB w B all s) (hs : okSc s) :
    Calls Tryz.prog 56 #[.pointer (some ⟨B, 0, none⟩), .int .i64 most] w fun e w' => e = .returned (.int .i64 (cntM most s).1) ∧ CuB w' B all (cntM most s).2 ∧ ToC B w w' := by
  have HP := hid (cnum_any w B all s h hs)
  have hnf := (numM_facts s).2.2.2
  unfold cntM
  generalize numM s = q at *
  obtain ⟨n, rest, bad⟩ := q
  simp only at HP hnf ⊢
  have hsy := fun wx (hx : CuB wx B all (rest, bad)) => csay_any wx B all (rest, bad) (decide (most < n)) 2 hx
  unfold sayM at hsy
  simp only at hsy
  clear h hs
  by_cases hb : bad ≠ 0
  · rw [if_pos hb]
    simp only [if_neg (show ¬ (decide (most < n) = true ∧ bad = 0) from fun g => hb g.2)] at hsy
    have HSY := hid hsy
    have hb2 : (bad != 0) = true := by simpa using hb
    have hn0 := hnf hb
    subst hn0
    clear hb hsy hnf
    go_enter Tryz.func56, Tryz.ntmps56
    go_wp2_with fail
    refine HP.out.mono ?_
    rintro r w1 ⟨rfl, h1, h2⟩
    have HX := hid (And.intro h1 h2)
    clear h1 h2
    go_wp2_with fail
    refine (HSY.out _ HX.out.1).mono ?_
    rintro r w2 ⟨rfl, h1, h2⟩
    have b2 := h1.cell (i := 2) rfl
    have HY := hid (And.intro h1 (HX.out.2.trans h2))
    clear h1 h2
    go_wp2_with fail
    go_ret
    exact ⟨rfl, HY.out.1, HY.out.2⟩
  · rw [if_neg hb]
    have hb0 : bad = 0 := Classical.byContradiction hb
    subst hb0
    clear hb hnf
    by_cases hm : most < n
    · rw [if_pos hm]
      have hm3 : decide (most < n) = true := decide_eq_true hm
      simp only [if_pos (show (decide (most < n) = true ∧ (0 : Int) = 0) from ⟨hm3, rfl⟩)] at hsy
      rw [hm3] at hsy
      have HSY := hid hsy
      clear hsy
      go_enter Tryz.func56, Tryz.ntmps56
      go_wp2_with fail
      refine HP.out.mono ?_
      rintro r w1 ⟨rfl, h1, h2⟩
      have HX := hid (And.intro h1 h2)
      clear h1 h2
      go_wp2_with fail
      refine (HSY.out _ HX.out.1).mono ?_
      rintro r w2 ⟨rfl, h1, h2⟩
      have b2 := h1.cell (i := 2) rfl
      have HY := hid (And.intro h1 (HX.out.2.trans h2))
      clear h1 h2
      go_wp2_with fail
      go_ret
      exact ⟨rfl, HY.out.1, HY.out.2⟩
    · rw [if_neg hm]
      have hm3 : decide (most < n) = false := decide_eq_false hm
      simp only [if_neg (show ¬ (decide (most < n) = true ∧ (0 : Int) = 0) from fun g => hm (of_decide_eq_true g.1))] at hsy
      rw [hm3] at hsy
      have HSY := hid hsy
      clear hsy
      go_enter Tryz.func56, Tryz.ntmps56
      go_wp2_with fail
      refine HP.out.mono ?_
      rintro r w1 ⟨rfl, h1, h2⟩
      have HX := hid (And.intro h1 h2)
      clear h1 h2
      go_wp2_with fail
      refine (HSY.out _ HX.out.1).mono ?_
      rintro r w2 ⟨rfl, h1, h2⟩
      have b2 := h1.cell (i := 2) rfl
      have HY := hid (And.intro h1 (HX.out.2.trans h2))
      clear h1 h2
      go_wp2_with fail
      go_ret
      exact ⟨rfl, HY.out.1, HY.out.2⟩
end Go.Proofs.YtakfineljffoaaaGreatDoor
namespace Go.Proofs.YtakfineljffoaaaGreatDoor
open Go.RowKit Go.Lib
attribute [local go_sem ↓] Go.wp_at_zero Go.wp_at_succ

/-- what the program marks -/
def mkM (l : List It) : AB := matR It.op l 0 ([(-1, 2)], false) (List.replicate l.length 0, List.replicate l.length 0)
theorem made_ints (w : World) (n base : Nat) (e : TypeId) (hn : n ≤ 9223372036854775807) (hb : base ≤ w.heap.size) : OwnI (w.alloc (.cells (madeCells #[Value.int .i64 0] n) e)) base .i64 e (.slice (some ⟨w.heap.size, 0, none⟩) n n) (List.replicate n 0) := by
  have e1 : (madeCells #[Value.int .i64 0] n).toList = (List.replicate n (0 : Int)).map (Value.int .i64) := by rw [toList_madeCells_one, List.map_replicate]
  show World.ownsRow _ _ _ _ _ (List.replicate n (0 : Int)).length _
  rw [List.length_replicate]
  refine ⟨by simp, .inr ⟨w.heap.size, n, _, rfl, hb, heap_alloc_new w _, Nat.le_refl _, by unfold maxLen; omega, by have h := congrArg List.length e1; simpa using h, ?_⟩⟩
  rw [e1]
  exact List.take_of_length_le (by simp)
theorem run_mk (n : Nat) (hn : n ≤ 200) (w : World) : (Instr.makeSlice 70 (.int .i64 n) (.int .i64 n)).run Tryz.prog w = .ok (.slice (some ⟨w.heap.size, 0, none⟩) n n) (w.alloc (.cells (madeCells #[Value.int .i64 0] n) 3)) := by
  obtain ⟨ht, hinfo, _, _⟩ := elem_intv
  obtain ⟨i0, hi, hz0, hz1, hzb⟩ := info_parts hinfo
  have := run_make (P := Tryz.prog) w 70 3 i0 (.int .i64 0) ht hi hz0 .i64 .i64 n n (by omega) (by omega) (by rw [hzb]; omega) (by omega)
  rw [this, hz1]
  simp [Value.cells]
/-- every place that is open lies before -/
def InvT (k : Nat) (T : Stk) : Prop := ∀ x ∈ T, (x.1 = -1 ∧ x.2 = 2) ∨ ∃ q : Nat, x.1 = q ∧ q < k
theorem next_inv {k : Nat} {T : Stk} {ov : Bool} {op : Nat} (hI : InvT k T) (hT : ov = false → T ≠ []) (h0 : (wnext (T, ov) op k).1.2 = 0) :
    InvT (k + 1) (wnext (T, ov) op k).2.1 ∧ (op = 5 → ∃ q : Nat, (wnext (T, ov) op k).1.1 = q ∧ q < k) ∧ (op = 11 → (wnext (T, ov) op k).1.1 = -1 ∨ ∃ q : Nat, (wnext (T, ov) op k).1.1 = q ∧ q < k) := by
  have hup : InvT (k + 1) T := fun x hx => (hI x hx).imp id (fun ⟨q, h1, h2⟩ => ⟨q, h1, by omega⟩)
  cases ov with
  | true => simp [wnext] at h0
  | false =>
    obtain ⟨p, u, r, rfl⟩ : ∃ p u r, T = (p, u) :: r := by
      have := hT rfl
      match T, this with
      | (p, u) :: r, _ => exact ⟨p, u, r, rfl⟩
    by_cases h2 : op = 2 ∨ op = 3 ∨ op = 4
    · by_cases hd : 13 ≤ ((p, u) :: r).length
      · rw [wn_deep h2 hd] at h0; simp at h0
      · rw [wn_push h2 hd]
        refine ⟨?_, fun h => by omega, fun h => by omega⟩
        intro x hx
        rcases List.mem_cons.1 hx with rfl | hx
        · exact .inr ⟨k, rfl, by omega⟩
        · exact hup x hx
    · by_cases h5 : op = 5
      · subst h5
        by_cases hu : u = 4
        · rw [wn_else hu]
          have hp := hI (p, u) (List.mem_cons_self)
          simp only at hp
          obtain ⟨q, hq1, hq2⟩ : ∃ q : Nat, p = q ∧ q < k := by
            rcases hp with ⟨_, hp⟩ | hp
            · omega
            · exact hp
          refine ⟨?_, fun _ => ⟨q, hq1, hq2⟩, fun h => by omega⟩
          intro x hx
          rcases List.mem_cons.1 hx with rfl | hx
          · exact .inr ⟨q, hq1, by omega⟩
          · exact hup x (List.mem_cons_of_mem _ hx)
        · rw [wn_noelse hu] at h0; simp at h0
      · by_cases h11 : op = 11
        · subst h11
          rw [wn_end]
          refine ⟨fun x hx => hup x (List.mem_cons_of_mem _ hx), fun h => by omega, fun _ => ?_⟩
          rcases hI (p, u) (List.mem_cons_self) with ⟨hp, _⟩ | hp
          · exact .inl hp
          · exact .inr hp
        · rw [wn_plain h2 h5 h11]
          exact ⟨hup, fun h => absurd h h5, fun h => absurd h h11⟩
theorem mat_plain {op : Nat} {is : Int} {k : Nat} {m : AB} (h5 : op ≠ 5) (h11 : op ≠ 11) : matS op is k m = (m.1.set k (-1), m.2.set k (-1)) := by unfold matS; rw [if_neg h5, if_neg h11]
theorem mat_else {q k : Nat} {m : AB} : matS 5 (q : Int) k m = (m.1.set k (-1), ((m.2.set k (-1)).set k q).set q k) := by unfold matS; rw [if_pos rfl, Int.toNat_natCast]
theorem mat_end0 {k : Nat} {m : AB} : matS 11 (-1) k m = ((m.1.set k (-1)).set k (-1), m.2.set k (-1)) := by unfold matS; rw [if_neg (by decide), if_pos rfl, if_neg (by decide)]
theorem mat_end1 {q k : Nat} {m : AB} {z : Int} (hz : (m.2.set k (-1))[q]? = some z) (h0 : ¬ 0 ≤ z) : matS 11 (q : Int) k m = (((m.1.set k (-1)).set k q).set q k, m.2.set k (-1)) := by
  unfold matS
  rw [if_neg (by decide), if_pos rfl, if_pos (by omega), Int.toNat_natCast, getD_of hz, if_neg h0]
theorem mat_end2 {q k z : Nat} {m : AB} (hz : (m.2.set k (-1))[q]? = some (z : Int)) : matS 11 (q : Int) k m = ((((m.1.set k (-1)).set k q).set q k).set z k, m.2.set k (-1)) := by
  unfold matS
  rw [if_neg (by decide), if_pos rfl, if_pos (by omega), Int.toNat_natCast, getD_of hz, if_pos (by omega), Int.toNat_natCast]
theorem OwnI.at1 {w : World} {base : Nat} {k : IntKind} {e : TypeId} {g n : Nat} {xs : List Int} (h : OwnI w base k e (.slice (some ⟨g, 0, none⟩) n n) xs) (hn : xs.length = n) (j : Nat) (hj : j < xs.length) : ∃ v, w.cell? ⟨g, j, none⟩ = some v ∧ ∀ i, w.frozen? ⟨g, i, none⟩ = false := by
  obtain ⟨g', cap, h1, _, _, _, h5, h6, _⟩ := h.at hn (by omega)
  simp only [Value.slice.injEq, Option.some.injEq, Addr.mk.injEq, and_true, true_and] at h1
  obtain ⟨rfl, _⟩ := h1
  exact ⟨_, h5 j _ (List.getElem?_eq_getElem hj), h6⟩
theorem OwnI.val1 {w : World} {base : Nat} {k : IntKind} {e : TypeId} {g n : Nat} {xs : List Int} (h : OwnI w base k e (.slice (some ⟨g, 0, none⟩) n n) xs) (hn : xs.length = n) {j : Nat} {z : Int} (hz : xs[j]? = some z) : w.cell? ⟨g, j, none⟩ = some (.int k z) := by
  have hj := (List.getElem?_eq_some_iff.1 hz).1
  obtain ⟨g', cap, h1, _, _, _, h5, h6, _⟩ := h.at hn (by omega)
  simp only [Value.slice.injEq, Option.some.injEq, Addr.mk.injEq, and_true, true_and] at h1
  obtain ⟨rfl, _⟩ := h1
  exact h5 j z hz
theorem own_setCell2 {w : World} {base : Nat} {k : IntKind} {e : TypeId} {g n m : Nat} {xs : List Int} (h : OwnI w base k e (.slice (some ⟨g, 0, none⟩) n m) xs) {b : Nat} (hne : g ≠ b) (x : Nat × Value) : OwnI (w.setCell ⟨b, x.1, none⟩ x.2) base k e (.slice (some ⟨g, 0, none⟩) n m) xs := ownsRow_setCell_other (a := ⟨b, x.1, none⟩) h (fun e => hne (by injection e)) x.2
theorem WkB.put {w : World} {B base : Nat} {vo vl : Value} {st : Stk × Bool} (h : WkB w B base vo vl st) {g : Nat} (hg : g < base) (j : Nat) (x : Value) : WkB (w.setCell ⟨g, j, none⟩ x) B base vo vl st :=
  ⟨h.blk.other (by have := h.le; simp only; omega) _, ownsRow_setCell_below h.op hg _, ownsRow_setCell_below h.la hg _, h.le, h.full, h.most⟩
theorem chk_zero_step {l : List It} {k : Nat} {x : It} {st : Stk × Bool} (hx : l[k]? = some x) (h : chkR itC It.op (l.drop k) k st = 0) : (wnext st x.op k).1.2 = 0 ∧ chkR itC It.op (l.drop (k + 1)) (k + 1) (wnext st x.op k).2 = 0 := by
  by_cases h0 : itC x = 0
  · by_cases h1 : (wnext st x.op k).1.2 = 0
    · rw [chk_step hx h0 h1] at h
      exact ⟨h1, h⟩
    · rw [chk_wrong hx h0 h1] at h; exact absurd h h1
  · rw [chk_bad hx h0] at h; exact absurd h h0
theorem set_bound {xs : List Int} {n : Int} (h : ∀ x ∈ xs, x < n) (i : Nat) {a : Int} (ha : a < n) : ∀ x ∈ xs.set i a, x < n := by
  intro x hx
  rcases List.mem_or_eq_of_mem_set hx with hx | rfl
  · exact h x hx
  · exact ha
end Go.Proofs.YtakfineljffoaaaGreatDoor
namespace Go.Proofs.YtakfineljffoaaaGreatDoor
open Go.RowKit Go.Lib
attribute [local go_sem ↓] Go.wp_at_zero Go.wp_at_succ

/-- the marks in memory -/
structure MkB (w : World) (M base : Nat) (lv : Value) (E cE S cS n : Nat) (m : AB) : Prop where
  blk : Blk w M 158 [lv, .slice (some ⟨E, 0, none⟩) n cE, .slice (some ⟨S, 0, none⟩) n cS]
  en : OwnI w base .i64 3 (.slice (some ⟨E, 0, none⟩) n cE) m.1
  el : OwnI w base .i64 3 (.slice (some ⟨S, 0, none⟩) n cS) m.2
  len : Lens n m
  ne : E ≠ S
abbrev ToM (E S : Nat) (w w' : World) : Prop := Touch (fun j => j = E ∨ j = S) w w'
theorem OwnI.at2 {w : World} {base : Nat} {k : IntKind} {e : TypeId} {g n cap : Nat} {xs : List Int} (h : OwnI w base k e (.slice (some ⟨g, 0, none⟩) n cap) xs) (hn : xs.length = n) (j : Nat) (hj : j < n) : ∃ v, w.cell? ⟨g, j, none⟩ = some v ∧ ∀ i, w.frozen? ⟨g, i, none⟩ = false := by
  obtain ⟨g', cap', h1, _, _, _, h5, h6, _⟩ := h.at hn (by omega)
  simp only [Value.slice.injEq, Option.some.injEq, Addr.mk.injEq, and_true, true_and] at h1
  obtain ⟨rfl, _⟩ := h1
  exact ⟨_, h5 j _ (List.getElem?_eq_getElem (by omega)), h6⟩
theorem OwnI.typ {w : World} {base : Nat} {k : IntKind} {e : TypeId} {g n cap : Nat} {xs : List Int} (h : OwnI w base k e (.slice (some ⟨g, 0, none⟩) n cap) xs) (hn : xs.length = n) (h0 : 0 < n) : (∃ cs, Blk w g e cs) ∧ base ≤ g ∧ g < w.heap.size := by
  obtain ⟨g', cap', h1, h2, _, _, _, _, h7, h8⟩ := h.at hn h0
  simp only [Value.slice.injEq, Option.some.injEq, Addr.mk.injEq, and_true, true_and] at h1
  obtain ⟨rfl, _⟩ := h1
  exact ⟨h8, h2, h7⟩
theorem MkB.below {w w' : World} {M base : Nat} {lv : Value} {E cE S cS n : Nat} {m : AB} (h : MkB w M base lv E cE S cS n m) (hb : Below w.heap.size w w') : MkB w' M base lv E cE S cS n m := ⟨h.blk.below hb, h.en.below hb, h.el.below hb, h.len, h.ne⟩
theorem MkB.drew {w : World} {M base : Nat} {lv : Value} {E cE S cS n : Nat} {m : AB} (h : MkB w M base lv E cE S cS n m) : MkB w.drew M base lv E cE S cS n m := ⟨h.blk, h.en, h.el, h.len, h.ne⟩
/-- a mark is put -/
theorem MkB.putE {w : World} {M base : Nat} {lv : Value} {E cE S cS n : Nat} {m : AB} (h : MkB w M base lv E cE S cS n m) (i : Nat) (x : Int) (hi : i < n) : MkB (w.setCell ⟨E, i, none⟩ (.int .i64 x)) M base lv E cE S cS n (m.1.set i x, m.2) := by
  have ht := (h.en.typ h.len.1 (by omega)).1
  obtain ⟨cs, hcs⟩ := ht
  exact ⟨h.blk.other (a := ⟨E, i, none⟩) (blk_diff hcs h.blk (by decide)) _, h.en.put h.len.1.symm i x (by rw [h.len.1]; exact hi), own_setCell2 h.el h.ne.symm (i, Value.int .i64 x), ⟨by simpa using h.len.1, h.len.2⟩, h.ne⟩
theorem MkB.putS {w : World} {M base : Nat} {lv : Value} {E cE S cS n : Nat} {m : AB} (h : MkB w M base lv E cE S cS n m) (i : Nat) (x : Int) (hi : i < n) : MkB (w.setCell ⟨S, i, none⟩ (.int .i64 x)) M base lv E cE S cS n (m.1, m.2.set i x) := by
  have ht := (h.el.typ h.len.2 (by omega)).1
  obtain ⟨cs, hcs⟩ := ht
  exact ⟨h.blk.other (a := ⟨S, i, none⟩) (blk_diff hcs h.blk (by decide)) _, own_setCell2 h.en h.ne (i, Value.int .i64 x), h.el.put h.len.2.symm i x (by rw [h.len.2]; exact hi), ⟨h.len.1, by simpa using h.len.2⟩, h.ne⟩
/-- a list that is not empty, read in later worlds -/
theorem BodS.rows {W0 : World} {lv : Value} {l : List It} (h : BodS W0 lv l) (h0 : 0 < l.length) : ∃ b off cap, lv = .slice (some ⟨b, off, none⟩) l.length cap ∧ l.length ≤ cap ∧ ∀ wx, Below W0.heap.size W0 wx → ∀ k (hk : k < l.length), ∃ au cu, wx.cell? ⟨b, off + k * 4, none⟩ = some (.int .u8 l[k].op) ∧ wx.cell? ⟨b, off + k * 4 + 1, none⟩ = some (.int .i64 l[k].A) ∧ wx.cell? ⟨b, off + k * 4 + 2, none⟩ = some (.int .i64 l[k].B) ∧ wx.cell? ⟨b, off + k * 4 + 3, none⟩ = some (.slice au l[k].tos.length cu) ∧ Ints wx .i64 (.slice au l[k].tos.length cu) l[k].tos := by
  obtain ⟨b, off, cap, _, hv, hc, _⟩ := h.open 0 h0
  refine ⟨b, off, cap, hv, hc, fun wx hb k hk => ?_⟩
  obtain ⟨b2, off2, cap2, u, hv2, _, _, c0, c1, c2, c3, hto⟩ := (h.below hb).open k hk
  rw [hv] at hv2
  simp only [Value.slice.injEq, Option.some.injEq, Addr.mk.injEq, and_true, true_and] at hv2
  obtain ⟨⟨rfl, rfl⟩, rfl⟩ := hv2
  obtain ⟨au, cu, rfl, -⟩ := id hto
  exact ⟨au, cu, c0, c1, c2, c3, hto⟩
theorem seq_ok (l : List It) (f deep i : Nat) (m : AB) (hf : l.length ≤ i + f) (hd : deep ≤ 12) (h0 : (seqM itC It.op l f deep i m).2.1 = 0) :
    i ≤ (seqM itC It.op l f deep i m).1 ∧ (seqM itC It.op l f deep i m).1 < l.length ∧ (opAt It.op l (seqM itC It.op l f deep i m).1 = 5 ∨ opAt It.op l (seqM itC It.op l f deep i m).1 = 11) := by
  have G := (seq_run (c := itC) (o := It.op) l f deep i m 0 0 (List.replicate deep (0, 0)) hf hd (by simp)).2 h0
  obtain ⟨y, hy, _, hy2⟩ := G.at_
  refine ⟨G.le, G.lt, ?_⟩
  unfold opAt
  rw [hy]
  exact hy2
theorem seq_end (l : List It) (f deep i : Nat) (m : AB) (h : l.length ≤ i) : seqM itC It.op l f deep i m = (0, 3, m) := by
  cases f with
  | zero => rfl
  | succ f =>
    rw [seqM, List.getElem?_eq_none h]
theorem opAt_get (l : List It) (j : Nat) (h : j < l.length) : opAt It.op l j = l[j].op := by unfold opAt; rw [List.getElem?_eq_getElem h]
/-- seq, within so many blocks -/
def SeqC (W0 : World) (l : List It) (b off cap M E cE S cS deep : Nat) : Prop := ∀ (f i : Nat) (m : AB) (w : World), l.length ≤ i + f → i ≤ l.length → Below W0.heap.size W0 w → MkB w M W0.heap.size (.slice (some ⟨b, off, none⟩) l.length cap) E cE S cS l.length m →
      Calls Tryz.prog 139 #[.pointer (some ⟨M, 0, none⟩), .int .i64 i, .int .i64 deep] w fun e w' => e = .returned (.tuple #[.int .i64 (seqM itC It.op l f deep i m).1, .int .i64 (seqM itC It.op l f deep i m).2.1]) ∧ MkB w' M W0.heap.size (.slice (some ⟨b, off, none⟩) l.length cap) E cE S cS l.length (seqM itC It.op l f deep i m).2.2 ∧ Below W0.heap.size W0 w' ∧ ToM E S w w'
abbrev RowsAt (W0 : World) (l : List It) (b off : Nat) : Prop := ∀ wx, Below W0.heap.size W0 wx → ∀ k (hk : k < l.length), ∃ au cu, wx.cell? ⟨b, off + k * 4, none⟩ = some (.int .u8 l[k].op) ∧ wx.cell? ⟨b, off + k * 4 + 1, none⟩ = some (.int .i64 l[k].A) ∧ wx.cell? ⟨b, off + k * 4 + 2, none⟩ = some (.int .i64 l[k].B) ∧ wx.cell? ⟨b, off + k * 4 + 3, none⟩ = some (.slice au l[k].tos.length cu) ∧ Ints wx .i64 (.slice au l[k].tos.length cu) l[k].tos
end Go.Proofs.YtakfineljffoaaaGreatDoor
