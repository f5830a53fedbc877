/-
  FAULTS AS A LIST; numbers as bytes: the plain words of both sides' writers. No condition.
-/
import Derived.Test.YtakfineljffoaaaGreatDoorGFoldSays6
import Derived.Test.YtakfineljffoaaaGreatDoorGFoldSays9
namespace Go.Proofs.YtakfineljffoaaaGreatDoor
open Go.RowKit Go.Lib

theorem flatten_get {s : Nat} (css : List (List Value)) (hs : ∀ c ∈ css, c.length = s) : ∀ (j f : Nat) (_ : f < s) (h : j < css.length), css.flatten[j * s + f]? = (css[j])[f]? := by
  induction css with
  | nil => intro j f _ h; simp at h
  | cons c r ih =>
    intro j f hf h
    have hc := hs c (by simp)
    rw [List.flatten_cons]
    cases j with
    | zero => rw [List.getElem?_append_left (by omega)]; simp
    | succ j =>
      rw [List.getElem?_append_right (by rw [hc, Nat.succ_mul]; omega), hc, show (j + 1) * s + f - s = j * s + f by rw [Nat.succ_mul]; omega, ih (fun c hc => hs c (by simp [hc])) j f hf (by simpa using h)]
      simp
theorem flatten_len {s : Nat} (css : List (List Value)) (hs : ∀ c ∈ css, c.length = s) : css.flatten.length = css.length * s := by
  induction css with
  | nil => simp
  | cons c r ih => rw [List.flatten_cons, List.length_append, ih (fun c hc => hs c (by simp [hc])), hs c (by simp), List.length_cons, Nat.succ_mul]; omega
def IntsB (w : World) (base : Nat) (v : Value) (zs : List Int) : Prop := ∀ w', Below base w w' → Ints w' .i64 v zs
theorem IntsB.mono {w w' : World} {base : Nat} {v : Value} {zs : List Int} (h : IntsB w base v zs) (hb : Below base w w') : IntsB w' base v zs := fun w2 h2 => h w2 (hb.trans h2)
end Go.Proofs.YtakfineljffoaaaGreatDoor
namespace Go.Proofs.YtakfineljffoaaaGreatDoor
open Go.RowKit Go.Lib
attribute [local go_sem ↓] Go.wp_at_zero Go.wp_at_succ

structure It where
  op : Nat
  A : Int
  B : Int
  tos : List Int
def ItOk (x : It) : Prop := x.op < 256 ∧ (-9223372036854775808 ≤ x.A ∧ x.A ≤ 9223372036854775807)
def itC (x : It) : Int := chkI (tB x.op) x.A x.B x.tos
def ItAt (w : World) (cs : List Value) (x : It) : Prop := ∃ u, cs = [.int .u8 x.op, .int .i64 x.A, .int .i64 x.B, u] ∧ Ints w .i64 u x.tos
def BodS (w : World) (v : Value) (l : List It) : Prop := ∃ css : List (List Value), css.length = l.length ∧ Sl w v l.length css.flatten ∧ ∀ i (h1 : i < css.length) (h2 : i < l.length), ItAt w css[i] l[i]
theorem ItAt.below {w w' : World} {cs : List Value} {x : It} (h : ItAt w cs x) (hb : Below w.heap.size w w') : ItAt w' cs x := by
  obtain ⟨u, h1, h2⟩ := h
  exact ⟨u, h1, L1.below h2 hb⟩
theorem BodS.below {w w' : World} {v : Value} {l : List It} (h : BodS w v l) (hb : Below w.heap.size w w') : BodS w' v l := by
  obtain ⟨css, h1, h2, h3⟩ := h
  exact ⟨css, h1, h2.below hb, fun i g1 g2 => (h3 i g1 g2).below hb⟩
theorem BodS.open {w : World} {v : Value} {l : List It} (h : BodS w v l) (k : Nat) (hk : k < l.length) :
    ∃ b off cap u, v = .slice (some ⟨b, off, none⟩) l.length cap ∧ l.length ≤ cap ∧ cap ≤ 9223372036854775807 ∧ w.cell? ⟨b, off + k * 4, none⟩ = some (.int .u8 l[k].op) ∧ w.cell? ⟨b, off + k * 4 + 1, none⟩ = some (.int .i64 l[k].A) ∧ w.cell? ⟨b, off + k * 4 + 2, none⟩ = some (.int .i64 l[k].B) ∧ w.cell? ⟨b, off + k * 4 + 3, none⟩ = some u ∧ Ints w .i64 u l[k].tos := by
  obtain ⟨css, h1, ⟨ao, cap, hv, hc1, hc2, _, hcs⟩, h3⟩ := h
  obtain ⟨u, e1, e2⟩ := h3 k (by omega) hk
  have h4 : ∀ c ∈ css, c.length = 4 := by
    intro c hc
    obtain ⟨i, hi, rfl⟩ := List.getElem_of_mem hc
    obtain ⟨_, e, _⟩ := h3 i hi (by omega)
    rw [e]; rfl
  have hg : ∀ f, f < 4 → css.flatten[k * 4 + f]? = ([.int .u8 l[k].op, .int .i64 l[k].A, .int .i64 l[k].B, u] : List Value)[f]? := fun f hf => by rw [flatten_get css h4 k f hf (by omega), e1]
  rcases hcs with hcs | ⟨b, off, hao, hat⟩
  · have := hg 0 (by decide)
    rw [hcs] at this; simp at this
  · have hl : css.flatten.length = css.length * 4 := flatten_len css h4
    have hkl : k * 4 + 3 < css.flatten.length := by rw [hl]; omega
    have hx : ∀ f (hf : f < 4), w.cell? ⟨b, off + k * 4 + f, none⟩ = (css.flatten)[k * 4 + f]? := by
      intro f hf
      rw [Nat.add_assoc, hat (k * 4 + f) (by omega), List.getElem?_eq_getElem]
    refine ⟨b, off, cap, u, by rw [hv, hao], hc1, hc2, ?_, ?_, ?_, ?_, e2⟩
    · have := hx 0 (by decide); rw [hg 0 (by decide)] at this; simpa using this
    · rw [hx 1 (by decide), hg 1 (by decide)]; rfl
    · rw [hx 2 (by decide), hg 2 (by decide)]; rfl
    · rw [hx 3 (by decide), hg 3 (by decide)]; rfl
def ncM (l : List It) : Int := if 200 < l.length then 2 else chkR itC It.op l 0 ([(-1, 2)], false)

set_option maxRecDepth 100000 in
set_option maxHeartbeats 4000000 in
theorem ncheck_any (w : World) (v : Value) (l : List It) (hok : ∀ x ∈ l, ItOk x) (h : BodS w v l) :
    Calls Tryz.prog 37 #[v] w fun e w' => e = .returned (.int .i64 (ncM l)) ∧ Below w.heap.size w w' := by
  have H := hid h
  obtain ⟨css, _, ⟨ao, cap, rfl, _⟩, _⟩ := h
  unfold ncM
  by_cases hbig : 200 < l.length
  · rw [if_pos hbig]
    have hb2 : (200 : Int) < (l.length : Int) := by omega
    go_enter Tryz.func37, Tryz.ntmps37
    go_wp2_with fail
    go_ret
    exact ⟨rfl, Below.refl _ _⟩
  · rw [if_neg hbig]
    have hb2 : ¬ (200 : Int) < (l.length : Int) := by omega
    have HOK := hid hok
    have HBG := hid (begin_any w)
    have HFIN := hid (show chkR itC It.op (l.drop 0) 0 ([(-1, 2)], false) = chkR itC It.op l 0 ([(-1, 2)], false) from rfl)
    generalize chkR itC It.op l 0 ([(-1, 2)], false) = fin at *
    have hl200 : l.length ≤ 200 := by omega
    clear hok hbig
    go_enter Tryz.func37, Tryz.ntmps37
    go_wp2_with fail
    refine HBG.out.mono ?_
    rintro r w1 ⟨vo, vl, B, rfl, g1, g2⟩
    have W1 := hid g1
    have B1 := hid g2
    clear g1 g2
    go_wp2_with fail
    go_loopw [15] (fun i wr => ∃ (k : Nat) (T : Stk) (ov : Bool) (vo vl : Value), k ≤ l.length ∧ i = .int .i64 k ∧ Hid (WkB wr B w.heap.size vo vl (T, ov)) ∧ Hid (Below w.heap.size w wr) ∧ Hid (chkR itC It.op (l.drop k) k (T, ov) = fin)) (fun i _ => l.length - (RowKit.intOf i).toNat)
    case atStart => exact ⟨0, _, _, vo, vl, Nat.zero_le _, rfl, W1, B1, HFIN⟩
    case round =>
      obtain ⟨k, T, ov, vo, vl, hk, rfl, WK, BL, HF⟩ := hrel
      by_cases hlt : k < l.length
      · have hlt2 : (k : Int) < (l.length : Int) := by omega
        obtain ⟨b, off, cap', u, hv, _, _, c0, c1, c2, c3, hto⟩ := (H.out.below BL.out).open k hlt
        simp only [Value.slice.injEq] at hv
        obtain ⟨rfl, -, rfl⟩ := hv
        have hx : l[k]? = some l[k] := List.getElem?_eq_getElem hlt
        have hxok := HOK.out l[k] (List.getElem_mem hlt)
        have HX := hid hx
        clear hx
        generalize l[k] = x at *
        obtain ⟨op, A, C, xs⟩ := x
        simp only at c0 c1 c2 c3 hto
        obtain ⟨hop, hA⟩ := hxok
        simp only at hop hA
        obtain ⟨au, cu, rfl, -⟩ := id hto
        have X2 := hid (Blk.new wr #[.int .u8 op, .int .i64 A, .int .i64 C, .slice au xs.length cu] 97 _ rfl)
        have K2 := hid (WK.out.below (Below.alloc (Below.refl _ _) (Nat.le_refl _) (.cells #[.int .u8 op, .int .i64 A, .int .i64 C, .slice au xs.length cu] 97)))
        have B2 := hid (BL.out.alloc BL.out.size (.cells #[.int .u8 op, .int .i64 A, .int .i64 C, .slice au xs.length cu] 97))
        have HC := hid (pchk_any op hop A C hA xs _ (wr.alloc (.cells #[.int .u8 op, .int .i64 A, .int .i64 C, .slice au xs.length cu] 97)) (L1.below hto (Below.alloc (Below.refl _ _) (Nat.le_refl _) _)))
        have HE := hid (show itC ⟨op, A, C, xs⟩ = chkI (tB op) A C xs from rfl)
        generalize chkI (tB op) A C xs = E at *
        have x0 := X2.out.cell (i := 0) rfl
        have x1 := X2.out.cell (i := 1) rfl
        have x2 := X2.out.cell (i := 2) rfl
        have x3 := X2.out.cell (i := 3) rfl
        have hwk : wrap64 ((k : Int) + 1) = ((k + 1 : Nat) : Int) := by unfold wrap64; omega
        clear hto
        by_cases hE : E = 0
        · subst hE
          go_wp2_with fail
          refine HC.out.mono ?_
          rintro r w3 ⟨rfl, g1⟩
          have X3 := hid (X2.out.below g1)
          have K3 := hid (K2.out.below g1)
          have B3 := hid (B2.out.trans (g1.mono B2.out.size))
          clear g1 x0 x1 x2 x3
          have x0 := X3.out.cell (i := 0) rfl
          have x1 := X3.out.cell (i := 1) rfl
          have x2 := X3.out.cell (i := 2) rfl
          have x3 := X3.out.cell (i := 3) rfl
          have HN := hid (next_any w3 B w.heap.size vo vl T ov op hop A C (.slice au xs.length cu) k K3.out)
          have HST := hid (fun h1 => chk_step (c := itC) (o := It.op) (st := (T, ov)) HX.out HE.out h1)
          have HWR := hid (fun h1 => chk_wrong (c := itC) (o := It.op) (st := (T, ov)) HX.out HE.out h1)
          simp only at HST HWR
          generalize wnext (T, ov) op k = nx at *
          obtain ⟨⟨is, e⟩, T2, ov2⟩ := nx
          simp only at HN HST HWR
          go_wp2_with fail
          refine HN.out.mono ?_
          rintro r w4 ⟨rfl, ⟨vo', vl', g1⟩, g2⟩
          have K4 := hid g1
          have B4 := hid (B3.out.trans (g2.below B3.out.size (fun j hj => (K3.out.feet j hj).1)))
          clear g1 g2
          by_cases he : e = 0
          · have HS2 := hid (HST.out he)
            clear HST HWR
            subst he
            go_wp2_with fail
            go_roundw
            case rel => exact ⟨k + 1, T2, ov2, vo', vl', by omega, by go_num, K4, B4, hid (HS2.out.symm.trans HF.out)⟩
            case measure => simp [RowKit.intOf]; omega
          · have he2 : (e != 0) = true := by simpa using he
            have HR := hid (show e = fin from (HWR.out he).symm.trans HF.out)
            clear he
            go_wp2_with fail
            go_ret
            exact ⟨by rw [HR.out]; rfl, B4.out⟩
        · have hE2 : (E != 0) = true := by simpa using hE
          have HR := hid (show E = fin from HE.out.symm.trans ((chk_bad (c := itC) (o := It.op) (st := (T, ov)) HX.out (by rw [HE.out]; exact hE)).symm.trans HF.out))
          clear hE
          go_wp2_with fail
          refine HC.out.mono ?_
          rintro r w3 ⟨rfl, g1⟩
          have B3 := hid (B2.out.trans (g1.mono B2.out.size))
          clear g1 x0 x1 x2 x3
          go_wp2_with fail
          go_ret
          exact ⟨by rw [HR.out]; rfl, B3.out⟩
      · have hlt2 : ¬ (k : Int) < (l.length : Int) := by omega
        have HR := hid (show (if ov = true then (0 : Int) else 3) = fin by rw [← HF.out, List.drop_eq_nil_of_le (by omega)]; rfl)
        have b2 := WK.out.blk.cell (i := 2) rfl
        simp only at b2
        cases ov with
        | true =>
          go_wp2_with fail
          go_ret
          exact ⟨by rw [← HR.out]; rfl, BL.out⟩
        | false =>
          go_wp2_with fail
          go_ret
          exact ⟨by rw [← HR.out]; rfl, BL.out⟩
end Go.Proofs.YtakfineljffoaaaGreatDoor
