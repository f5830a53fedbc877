/-
  FOLDED BODIES: the program's Body. Conditions: math/bits' tables; the argument's instructions are instructions.
-/
import Derived.Test.YtakfineljffoaaaGreatDoorGFoldSays43
namespace Go.Proofs.YtakfineljffoaaaGreatDoor
open Go.RowKit Go.Lib

theorem clone_ins (w : World) (v : Value) (l : List It) (h : BodS w v l) (hl : l.length ≤ 200) (hne : l ≠ []) :
    Calls Tryz.prog 38 #[v] w fun e w' => ∃ v', e = .returned v' ∧ OwnF w w' w.heap.size v' l ∧ Below w.heap.size w w' := by
  obtain ⟨css, hI, hS⟩ := h.its
  obtain ⟨b, off, n, cap, hvv, hn⟩ : ∃ b off n cap, v = .slice (some ⟨b, off, none⟩) n cap ∧ n = l.length := by
    obtain ⟨x, t, rfl⟩ : ∃ x t, l = x :: t := by
      cases l with
      | nil => exact absurd rfl hne
      | cons x t => exact ⟨x, t, rfl⟩
    obtain ⟨b, off, n, cap, hv, hn, -⟩ := h.one
    exact ⟨b, off, n, cap, hv, by rw [hn]; rfl⟩
  subst hvv
  have hnil := fun wx : World => Lib.run_eql_slice_nil (P := Tryz.prog) wx 36 97 (some ⟨b, off, none⟩) n cap 0 0 Tryz.underlying36
  have h0 : Sl (w.alloc (.cells #[] 97)) (.slice (some ⟨b, off, none⟩) n cap) l.length css.flatten := Sl.below hS ((Below.refl _ _).alloc (Nat.le_refl _) _)
  have hlit : (w.alloc (.cells #[] 97)).ownsRow w.heap.size 97 4 (.slice (some ⟨w.heap.size, 0, none⟩) 0 0) 0 [] := World.ownsRow_lit (e := 97) (size := 4) w #[] 0 (Nat.le_refl _) (by decide) rfl
  have hl0 : ¬ n = 0 := fun e => hne (List.length_eq_zero_iff.1 (hn.symm.trans e))
  have HIX := hid hI
  have h1 := hI.len
  have h2 := hI.one
  generalize hfl : css.flatten = fl at *
  have HFL := hid hfl
  have HL := hid hn
  clear h hS hn hI hne hfl
  go_enter Tryz.func38, Tryz.ntmps38
  go_wp2_with (at_builtin; go_must (refine app_any elem_insv (base := w.heap.size) (m := l.length) (news := fl) rfl _ _ rfl rfl rfl hlit h0 h1 h2 (by omega) (by omega) (by simp) ?_); intro v' w' ho hb2 _)
  go_ret
  rw [Nat.zero_add, List.nil_append, ← HFL.out] at ho
  exact ⟨_, rfl, ⟨css, HIX.out, ho⟩, ((Below.refl _ _).alloc (Nat.le_refl _) _).trans hb2⟩
theorem clone_i64 (w : World) (v : Value) (xs : List Int) (hv : Ints w .i64 v xs) (hl : xs.length ≤ 1000) :
    Calls Tryz.prog 39 #[v] w fun e w' => ∃ v', e = .returned v' ∧ OwnI w' w.heap.size .i64 2 v' xs ∧ Below w.heap.size w w' := by
  by_cases hn : v = .slice none 0 0
  · subst hn
    have hx : xs = [] := by
      obtain ⟨ao, cap, hvv, _⟩ := hv
      simp only [Value.slice.injEq] at hvv
      exact List.length_eq_zero_iff.1 hvv.2.1.symm
    subst hx
    have hnil := fun wx : World => Lib.run_eql_slice_nil (P := Tryz.prog) wx 95 2 none 0 0 0 0 Tryz.underlying95
    go_enter Tryz.func39, Tryz.ntmps39
    go_wp2_with fail
    go_ret
    exact ⟨_, rfl, OwnI.nil _ _ _ _, Below.refl _ _⟩
  · obtain ⟨ao, cap, hvv, hc1, hc2, hc3, _⟩ := id hv
    obtain ⟨ad, rfl⟩ : ∃ ad, ao = some ad := by
      cases ao with
      | some ad => exact ⟨ad, rfl⟩
      | none =>
        have h1 := hc3 rfl
        have h2 : xs.length = 0 := by omega
        exact absurd (by rw [hvv, h1, h2]) hn
    have HV := hid hv
    clear hv hn hc3
    subst hvv
    have hnil := fun wx : World => Lib.run_eql_slice_nil (P := Tryz.prog) wx 95 2 (some ad) xs.length cap 0 0 Tryz.underlying95
    have h0 : Sl (w.alloc (.cells #[] 2)) (.slice (some ad) xs.length cap) xs.length (xs.map (Value.int .i64)) := Sl.below HV.out ((Below.refl _ _).alloc (Nat.le_refl _) _)
    have hlit : (w.alloc (.cells #[] 2)).ownsRow w.heap.size 2 1 (.slice (some ⟨w.heap.size, 0, none⟩) 0 0) 0 [] := World.ownsRow_lit (e := 2) (size := 1) w #[] 0 (Nat.le_refl _) (by decide) rfl
    go_enter Tryz.func39, Tryz.ntmps39
    go_wp2_with (at_builtin; go_must (refine app_any elem_i64v (base := w.heap.size) (m := xs.length) (news := xs.map (Value.int .i64)) rfl _ _ rfl rfl rfl hlit h0 (by simp) (by intro c hc; obtain ⟨a, _, rfl⟩ := List.mem_map.1 hc; rfl) (by omega) (by omega) (by simp) ?_); intro v' w' ho hb2 _)
    go_ret
    rw [Nat.zero_add, List.nil_append] at ho
    exact ⟨_, rfl, ho, ((Below.refl _ _).alloc (Nat.le_refl _) _).trans hb2⟩
theorem own_setF {w : World} {base size : Nat} {e : TypeId} {g n cap : Nat} {xs : List Value} (h : w.ownsRow base e size (.slice (some ⟨g, 0, none⟩) n cap) n xs) (i : Nat) (a : Value) : (w.setCell ⟨g, i, none⟩ a).ownsRow base e size (.slice (some ⟨g, 0, none⟩) n cap) n (xs.set i a) := by
  obtain ⟨h1, h2⟩ := h
  refine ⟨by rw [List.length_set]; exact h1, ?_⟩
  rcases h2 with ⟨h2, _⟩ | ⟨g', cap', cur, hv, hg, hh, hn, hc, hs, ht⟩
  · simp at h2
  simp only [Value.slice.injEq, Option.some.injEq, Addr.mk.injEq, and_true, true_and] at hv
  obtain ⟨rfl, rfl⟩ := hv
  refine .inr ⟨g, cap, _, rfl, hg, heap_setCell_same w g i cur e a hh, hn, hc, by simpa using hs, ?_⟩
  rw [← ht]
  simp [List.take_set]
theorem own_free {w : World} {base size : Nat} {e : TypeId} {g n cap : Nat} {xs : List Value} (h : w.ownsRow base e size (.slice (some ⟨g, 0, none⟩) n cap) n xs) : g < w.heap.size ∧ base ≤ g ∧ ∀ i, w.frozen? ⟨g, i, none⟩ = false := by
  rcases h.2 with ⟨h2, _⟩ | ⟨g', cap', cur, hv, hg, hh, -⟩
  · simp at h2
  simp only [Value.slice.injEq, Option.some.injEq, Addr.mk.injEq, and_true, true_and] at hv
  obtain ⟨rfl, rfl⟩ := hv
  have hb : Blk w g e cur.toList := hh
  exact ⟨hb.lt, hg, fun i => hb.free i⟩
theorem flat_set {s : Nat} (css : List (List Value)) (hs : ∀ c ∈ css, c.length = s) : ∀ (k f : Nat) (a : Value) (hk : k < css.length), f < s → css.flatten.set (k * s + f) a = (css.set k ((css[k]'hk).set f a)).flatten := by
  induction css with
  | nil => intro k f a hk; exact absurd hk (by simp)
  | cons c r ih =>
    intro k f a hk hf
    have hc := hs c (by simp)
    cases k with
    | zero => rw [Nat.zero_mul, Nat.zero_add, List.flatten_cons, List.set_append_left _ _ (by omega)]; rfl
    | succ k =>
      rw [List.flatten_cons, List.set_append_right _ _ (by rw [hc, Nat.succ_mul]; omega), hc, Nat.succ_mul, show k * s + s + f - s = k * s + f by omega,
        ih (fun d hd => hs d (by simp [hd])) k f a (by simpa using hk) hf]
      rfl
def ItsG (g : Nat) (w : World) (css : List (List Value)) (l : List It) : Prop := ∀ wx, Touch (fun k => k = g) w wx → Its0 wx css l
theorem ItsG.first {W w : World} {css : List (List Value)} {l : List It} {g : Nat} (h : Its0 W css l) (hb : Below W.heap.size W w) (hg : W.heap.size ≤ g) : ItsG g w css l := fun wx ht =>
  h.below ((hb.trans (ht.below (B := W.heap.size) hb.size (fun k hk => by rw [hk]; exact hg))))
theorem ItsG.step {g k base n cap : Nat} {wr w2 : World} {css : List (List Value)} {l : List It} {u' : Value} (h : ItsG g wr css l) (hk : k < l.length) (hg : g < wr.heap.size) (hb : Below wr.heap.size wr w2) (ho : OwnI w2 wr.heap.size .i64 2 u' (l[k]).tos)
    (hr : wr.ownsRow base 97 4 (.slice (some ⟨g, 0, none⟩) n cap) n css.flatten) :
    ∃ css', ItsG g (w2.setCell ⟨g, k * 4 + 3, none⟩ u') css' l ∧ (w2.setCell ⟨g, k * 4 + 3, none⟩ u').ownsRow base 97 4 (.slice (some ⟨g, 0, none⟩) n cap) n css'.flatten := by
  have h0 := h wr (Touch.refl _ _)
  have hkc : k < css.length := by rw [h0.1]; exact hk
  obtain ⟨u0, e0, -⟩ := h0.2 k hkc hk
  refine ⟨css.set k ((css[k]'hkc).set 3 u'), fun wx ht => ?_, ?_⟩
  · have ht0 : Touch (fun k => k = g) wr wx := (Touch.of_below hb).trans ((Touch.setCell (F := fun k => k = g) (a := ⟨g, k * 4 + 3, none⟩) rfl _).trans ht)
    have hx := h wx ht0
    refine ⟨by rw [List.length_set]; exact hx.1, fun i h1 h2 => ?_⟩
    by_cases hik : i = k
    · subst hik
      rw [List.getElem_set_self, e0]
      refine ⟨u', rfl, ?_⟩
      have hq : wx.ownsRow wr.heap.size 2 1 u' (l[i]).tos.length ((l[i]).tos.map (Value.int .i64)) := own_touch ho ((Touch.setCell (F := fun k => k = g) (a := ⟨g, i * 4 + 3, none⟩) rfl _).trans ht) (fun b hb2 e => by
        have h5 := own_block ho b hb2
        rw [e] at h5
        omega)
      exact own_sl hq
    · rw [List.getElem_set_ne (by omega)]
      exact hx.2 i (by simpa using h1) h2
  · rw [← flat_set css h0.four k 3 u' hkc (by decide)]
    exact own_setF (own_below hr hb) _ _
theorem ItsG.bod {g base n cap : Nat} {w : World} {css : List (List Value)} {l : List It} (h : ItsG g w css l) (hn : n = l.length) (hr : w.ownsRow base 97 4 (.slice (some ⟨g, 0, none⟩) n cap) n css.flatten) : BodS w (.slice (some ⟨g, 0, none⟩) n cap) l := by
  subst hn
  exact (h w (Touch.refl _ _)).bod (own_sl hr)
theorem tos_of {x : It} (h : itC x = 0) : x.tos.length ≤ 16 := by
  unfold itC chkI at h
  split at h
  · exact absurd h (by decide)
  · split at h
    · exact absurd h (by decide)
    · omega
theorem tos_all {l : List It} (h : ncM l = 0) : ∀ x ∈ l, x.tos.length ≤ 16 := by
  have h2 := (body_seg h).1
  unfold ncM at h
  rw [if_neg (by omega)] at h
  exact fun x hx => tos_of (chk_zero _ _ _ h x hx)
theorem step_items {l l' : List It} (h : firstM l = some l') (ho : ∀ z ∈ l, ItOk z) : ∀ z ∈ l', ItOk z := by
  unfold firstM stepM at h
  cases hp : placeM oM pM l l.length 0 with
  | none => rw [hp] at h; exact absurd h (by simp)
  | some q =>
    obtain ⟨i, g, c⟩ := q
    rw [hp] at h
    simp only [Option.some.injEq] at h
    subst h
    have hr := (place_is _ _ _ hp).2.2
    intro z hz
    simp only [List.mem_append] at hz
    rcases hz with hz | hz | hz
    · exact ho z (List.mem_of_mem_take hz)
    · exact rule_items hr (fun y hy => ho y (List.mem_of_mem_drop hy)) z hz
    · exact ho z (List.mem_of_mem_drop hz)
end Go.Proofs.YtakfineljffoaaaGreatDoor
namespace Go.Proofs.YtakfineljffoaaaGreatDoor
open Go.RowKit Go.Lib

def BdPost (w : World) (l : List It) (e : Ending) (w' : World) : Prop := Below w.heap.size w w' ∧ if ncM l = 0 then ∃ v', e = .returned (.tuple #[v', .int .i64 0]) ∧ BodS w' v' (foldM oM pM l) else e = .returned (.tuple #[.slice none 0 0, .int .i64 (ncM l)])
def agN : Value → Nat
  | .bool true => 1
  | _ => 0
set_option maxRecDepth 100000 in
set_option maxHeartbeats 16000000 in
theorem body_any (w : World) (v : Value) (l : List It) (hok : ∀ z ∈ l, ItOk z) (hT : Tabs w) (h : BodS w v l) :
    Calls Tryz.prog 8 #[v] w fun e w' => BdPost w l e w' := by
  have HN := hid (ncheck_any w v l hok h)
  have HB := hid h
  by_cases hz : ncM l = 0
  · have hfit := fits_of hz
    have h200 := (body_seg hz).1
    have htos := hid (tos_all hz)
    have hne : l ≠ [] := by
      rintro rfl
      exact absurd hfit (by simp [Fits, run])
    have HOK := hid hok
    have HTB := hid hT
    have HF := hid hfit
    have HPE := hid (fun (e : Ending) (w' : World) (h1 : Below w.heap.size w w') (h2 : ∃ v', e = .returned (.tuple #[v', .int .i64 0]) ∧ BodS w' v' (foldM oM pM l)) => show BdPost w l e w' from ⟨h1, by rw [if_pos hz]; exact h2⟩)
    have HCI := hid (fun (wx : World) (hb : Below w.heap.size w wx) => clone_ins wx v l (h.below hb) h200 hne)
    rw [hz] at HN
    have HL := hid h200
    clear hok hT h hfit hne hz h200
    go_enter Tryz.func8, Tryz.ntmps8
    go_wp2_with fail
    refine HN.out.mono ?_
    rintro r w1 ⟨rfl, hb1⟩
    have B1 := hid hb1
    clear hb1
    go_wp2_with fail
    refine (HCI.out _ B1.out).mono ?_
    rintro r w2 ⟨v', rfl, ho2, hb2⟩
    have B2 := hid (bel_tr B1.out hb2)
    obtain ⟨css, hI, hr⟩ := ho2
    have hl0 : 0 < l.length := by
      rcases Nat.eq_zero_or_pos l.length with h | h
      · rw [List.length_eq_zero_iff] at h; subst h; exact absurd HF.out (by simp [Fits, run])
      · exact h
    obtain ⟨g, cap, rfl, hbg, -, hnc, hcm⟩ := own_head hr hl0
    have HG1 := hid (ItsG.first hI hb2 hbg)
    have hbgw : w.heap.size ≤ g := Nat.le_trans B1.out.size hbg
    have HR1 := hid (own_mono hr B1.out.size)
    generalize hnn : l.length = n at *
    have HNN := hid hnn
    have hn2 : n ≤ 200 := HL.out
    clear hI hr hb2 hbg hnn
    go_wp2_with fail
    go_loopw [17] (fun kv wr => ∃ (k : Nat) (cs : List (List Value)), k ≤ n ∧ kv = .int .i64 k ∧ Hid (Below w.heap.size w wr) ∧ Hid (ItsG g wr cs l) ∧ Hid (wr.ownsRow w.heap.size 97 4 (.slice (some ⟨g, 0, none⟩) n cap) n cs.flatten)) (fun kv _ => n - (RowKit.intOf kv).toNat)
    case atStart => exact ⟨0, css, Nat.zero_le _, rfl, B2, HG1, HR1⟩
    case round =>
      obtain ⟨k, cs, hk, rfl, BL, HG, HR⟩ := hrel
      by_cases hlt : k < n
      · have hlt2 : (k : Int) < (n : Int) := by omega
        have hkl := hid (show k < l.length by rw [HNN.out]; exact hlt)
        have hfr := own_free HR.out
        have HBK := hid (HG.out.bod HNN.out.symm HR.out)
        obtain ⟨u, hit, hcell⟩ := HBK.out.at k hkl.out
        obtain ⟨u1, hu1, hin⟩ := hit
        obtain rfl : u = u1 := by simpa using hu1
        have HIN := hid hin
        obtain ⟨au, cu, hus, -⟩ := id hin
        subst hus
        have HC := hid hcell
        have HCL := hid (clone_i64 wr _ _ HIN.out (Nat.le_trans (htos.out _ (List.getElem_mem hkl.out)) (by decide)))
        have c3 := (HC.out wr (Below.refl _ _)).2.2.2
        simp only [Nat.zero_add] at c3
        have HGW := hid hfr.1
        have HGB := hid hfr.2.1
        have hwk : wrap64 ((k : Int) + 1) = ((k + 1 : Nat) : Int) := by unfold wrap64; omega
        have HTL := hid (show (l[k]'hkl.out).tos = (l[k]'hkl.out).tos from rfl)
        clear hfr hu1 hin hcell
        go_wp2_with fail
        refine HCL.out.mono ?_
        rintro r w4 ⟨v4, rfl, ho4, hb4⟩
        obtain ⟨ao4, cp4, rfl, _⟩ := own_sl ho4
        have d3 := cell_below hb4 c3
        have df := (own_free (own_below HR.out hb4)).2.2
        obtain ⟨cs2, hg2, hr2⟩ := HG.out.step hkl.out HGW.out hb4 ho4 HR.out
        have HG2 := hid hg2
        have HR2 := hid hr2
        have BL4 := hid (bel_set (bel_tr BL.out hb4) (p := ⟨g, k * 4 + 3, none⟩) HGB.out (.slice ao4 (l[k]'hkl.out).tos.length cp4))
        clear hg2 hr2 ho4 hb4 c3
        go_wp2_with fail
        go_roundw
        case rel => exact ⟨k + 1, cs2, by omega, by go_num, BL4, HG2, HR2⟩
        case measure => simp [RowKit.intOf]; omega
      · have hlt2 : ¬ (k : Int) < (n : Int) := by omega
        have HBK := hid (HG.out.bod HNN.out.symm HR.out)
        go_wp2_with fail
        refine (rules_any _).mono ?_
        rintro r w5 ⟨rfl, hrl, hb5⟩
        have B5 := hid (bel_tr BL.out hb5)
        have HBD := hid (HBK.out.below hb5)
        have HRL := hid hrl
        have HL2 := hid (show l.length ≤ 200 by rw [HNN.out]; exact hn2)
        have HGO := hid (fun (lc lc' : List It) (hf : Fits lc) (hi : firstM lc = some lc') => fold_go (o := oM) (p := pM) numR hf hi)
        have HSO := hid (fun (lc lc' : List It) (hf : Fits lc) (hi : firstM lc = some lc') => step_ok (o := oM) (p := pM) numR hf hi)
        obtain ⟨R, hR⟩ : ∃ R, wr.heap.size = R := ⟨_, rfl⟩
        rw [hR] at HRL
        rw [hR]
        clear hrl hb5 BL HG HR HBK hlt hlt2 hk B1 B2 HG1 HR1 HCI HN HB htos hR
        go_wp2_with fail
        go_loopw [0, 7] (fun lv av wr2 => ∃ (lc : List It) (ao : Option Addr) (cp : Nat) (ag : Bool), lc.length ≤ 200 ∧ lv = .slice ao lc.length cp ∧ av = .bool ag ∧ Hid (Below w.heap.size w wr2) ∧ Hid (BodS wr2 (.slice ao lc.length cp) lc) ∧ Hid (RulesAt wr2 R) ∧ Hid (Fits lc) ∧ Hid (∀ z ∈ lc, ItOk z) ∧ Hid (foldM oM pM lc = foldM oM pM l) ∧ Hid (ag = false → firstM lc = none)) (fun lv av _ => slLen lv + agN av)
        case atStart =>
          refine ⟨l, some ⟨g, 0, none⟩, cap, true, HL2.out, ?_, rfl, B5, ?_, HRL, HF, HOK, hid rfl, hid (fun h => by cases h)⟩
          · rw [HNN.out]
          · rw [HNN.out]; exact HBD
        case round =>
          obtain ⟨lc, ao, cp, ag, hlc, rfl, rfl, BL2, HB2, HR2, HF2, HO2, HFM, HAG⟩ := hrel
          cases ag with
          | false =>
            have HST := hid (fold_stop (o := oM) (p := pM) (HAG.out rfl))
            go_wp2_with fail
            refine bodyPost_ret (v := .tuple #[.slice ao lc.length cp, .int .i64 0]) (by simp [results, Tryz.results8, go_sem]) rfl ?_
            exact HPE.out _ _ BL2.out ⟨_, rfl, by rw [← HFM.out, HST.out]; exact HB2.out⟩
          | true =>
            have HFI := hid (first_any _ _ R lc HO2.out HF2.out (HTB.out.below BL2.out) HB2.out hlc HR2.out)
            go_wp2_with fail
            refine HFI.out.mono ?_
            rintro r w6 ⟨hb6, hm⟩
            have BL3 := hid (bel_tr BL2.out hb6)
            have HR3 := hid (HR2.out.below hb6)
            cases hfm : firstM lc with
            | none =>
              rw [hfm] at hm
              simp only at hm
              subst hm
              have HB3 := hid (HB2.out.below hb6)
              have HFN := hid hfm
              clear hb6 hfm
              go_wp2_with fail
              go_roundw
              case rel => exact ⟨lc, ao, cp, false, hlc, rfl, rfl, BL3, HB3, HR3, HF2, HO2, HFM, hid (fun _ => HFN.out)⟩
              case measure => simp [slLen, agN]
            | some lc' =>
              rw [hfm] at hm
              simp only at hm
              obtain ⟨v', rfl, hb'⟩ := hm
              obtain ⟨ao', cp', rfl⟩ : ∃ ao' cp', v' = .slice ao' lc'.length cp' := by
                obtain ⟨css, _, ⟨ao, cap', hv, _⟩, _⟩ := hb'
                exact ⟨ao, cap', hv⟩
              have HB3 := hid hb'
              have HSO2 := hid (HSO.out _ _ HF2.out hfm)
              have HO3 := hid (step_items hfm HO2.out)
              have HFM3 := hid ((HGO.out _ _ HF2.out hfm).symm.trans HFM.out)
              clear hb6 hfm hb'
              go_wp2_with fail
              go_roundw
              case rel => exact ⟨lc', ao', cp', true, by have := HSO2.out.2; omega, rfl, rfl, BL3, HB3, HR3, hid HSO2.out.1, HO3, HFM3, hid (fun h => by cases h)⟩
              case measure =>
                have := HSO2.out.2
                simp [slLen, agN]
                omega
  · have HPE := hid (fun (w' : World) (h1 : Below w.heap.size w w') => show BdPost w l (.returned (.tuple #[.slice none 0 0, .int .i64 (ncM l)])) w' from ⟨h1, by rw [if_neg hz]⟩)
    have hz2 : (ncM l != 0) = true := by simpa using hz
    generalize ncM l = E at *
    clear hz hok hT h
    go_enter Tryz.func8, Tryz.ntmps8
    go_wp2_with fail
    refine HN.out.mono ?_
    rintro r w1 ⟨rfl, hb1⟩
    go_wp2_with fail
    refine bodyPost_ret (v := .tuple #[.slice none 0 0, .int .i64 E]) (by simp [results, Tryz.results8, go_sem]) rfl ?_
    exact HPE.out _ hb1
end Go.Proofs.YtakfineljffoaaaGreatDoor
