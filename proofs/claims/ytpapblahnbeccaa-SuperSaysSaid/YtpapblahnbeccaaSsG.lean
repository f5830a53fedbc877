/-
  SUPERVISORS: the reference's Down, a child that ran. Conditions: at most 8 kids, a last time that is not negative.
-/
import Derived.Test.YtpapblahnbeccaaSsF
namespace Go.Proofs.Ytpapblahnbeccaa
open Go.RowKit Go.Lib
attribute [local go_sem ↓] Go.wp_at_zero Go.wp_at_succ

/-- a new row of kids is stored -/
theorem SBox.setKids {ty : TypeId} {w w1 : World} {base B : Nat} {kv pv kv' : Value} {s : SSt} (h : SBox ty w base B kv pv s) (ht : (ty == 74) = false) (ht2 : (ty == 3) = false) (hb : Below w.heap.size w w1) (ks : List Kd) (ho : Ok encKd 2 w1 w.heap.size 74 kv' ks) :
    SBox ty (w1.setCell ⟨B, 3, none⟩ kv') base B kv' pv { s with kids := ks } := by
  have h1 := h.below hb
  have hn : kv'.ownBlock ≠ some B := blk_ne2 h1.blk ho ht
  exact ⟨h1.blk.set 3 _, own_mono (ownsRow_setCell_other (a := ⟨B, 3, none⟩) ho hn _) h.base, ownsRow_setCell_other (a := ⟨B, 3, none⟩) h1.past (blk_ne2 h1.blk h1.past ht2) _, h.le, by have := h1.base; simp; omega⟩

theorem runsDown_up (ks : List Kd) (n : Nat) : runsDown ks 0 (n + 1) = (if (kdAt ks n).runs = true then [(n : Int)] else []) ++ runsDown ks 0 n := by
  unfold runsDown
  rw [Nat.sub_zero, Nat.sub_zero, List.range'_1_concat, List.filter_append, List.reverse_append, List.map_append, Nat.zero_add]
  by_cases hr : (kdAt ks n).runs = true
  · rw [if_pos hr, List.filter_cons, if_pos hr]; rfl
  · rw [if_neg hr, List.filter_cons, if_neg hr]; rfl
set_option maxRecDepth 100000 in
set_option maxHeartbeats 8000000 in
theorem rdown_good (w : World) (base B : Nat) (kv pv : Value) (s : SSt) (n : Nat) (now : Int) (h : SBox 78 w base B kv pv s) (hl0 : 0 ≤ s.last)
    (ho : s.over = false) (k2 : n < s.kids.length) (k3 : isT now) (k4 : s.last ≤ now) (k5 : (kdAt s.kids n).runs = true) (k6 : s.kids.length ≤ 8) :
    Calls Try.prog 40 #[.pointer (some ⟨B, 0, none⟩), .int .i64 n, .int .i64 now] w (DownPost 78 w base B kv pv (downF s n now)) := by
  have H := hid h
  have b3 := h.blk.cell (i := 3) rfl
  have b5 := h.blk.cell (i := 5) rfl
  have b6 := h.blk.cell (i := 6) rfl
  have bf := h.blk.free
  obtain ⟨g, cap, hkv, hg1, hg2, hcap1, hcap2⟩ := own_head h.kids (by omega)
  subst hkv
  clear h
  have hd : downF s n now = _ := (if_neg (by rw [ho]; decide)).trans ((if_neg (by rintro (h | h | h | h); omega; omega; exact h k3; omega)).trans (if_neg (by rw [show ((n : Int)).toNat = n from rfl, k5]; decide)))
  rw [show ((n : Int)).toNat = n from rfl] at hd
  obtain ⟨R, hR⟩ : ∃ R, R = downF s n now := ⟨_, rfl⟩
  rw [← hR]
  have HR := hid (hR.trans hd)
  clear hR
  have g2' : decide ((s.kids.length : Int) ≤ (n : Int)) = false := decide_eq_false (by omega)
  have g2'' : decide (s.kids.length ≤ n) = false := decide_eq_false (by omega)
  have g1' : decide ((n : Int) < 0) = false := decide_eq_false (by omega)
  have g4' : decide (now < s.last) = false := decide_eq_false (by omega)
  have g5' : decide (1099511627776 < now) = false := decide_eq_false (by unfold isT maxT at k3; omega)
  obtain ⟨c0, c1, cf⟩ := kd_cells H.out.kids n (by omega)
  rw [k5] at c0
  rw [ho] at b6
  have H1 := hid (H.out.setLast (by rfl) (by rfl) now)
  have HT1 := hid (Touch.setCell (w := w) (F := footS B (.slice (some ⟨g, 0, none⟩) s.kids.length cap) pv) (a := ⟨B, 5, none⟩) (.inl rfl) (.int .i64 now))
  have hcp := copy_Kd (.slice (some ⟨g, 0, none⟩) s.kids.length cap) s.kids _ (Ok.lk H1.out.kids) (by omega) (by omega)
  have HCP := hid hcp
  clear hcp hd
  go_enter Try.func40, Try.ntmps40
  go_wp2_with fail
  refine HCP.out.mono ?_
  rintro e w2 ⟨v2, rfl, ho2, hb2⟩
  have hb2' := hb2
  obtain ⟨g2, cap2, rfl, hh1, hh2, hh3, hh4⟩ := own_head ho2 (by omega)
  have hx2 := H1.out.below hb2'
  have x3 := hx2.blk.cell (i := 3) rfl
  have x3f := hx2.blk.free 3
  have HS3 := hid (SBox.setKids H1.out (by rfl) (by rfl) hb2' s.kids ho2)
  have HT3 := hid (HT1.out.trans ((Touch.of_below hb2').trans (Touch.setCell (F := footS B (.slice (some ⟨g, 0, none⟩) s.kids.length cap) pv) (a := ⟨B, 3, none⟩) (.inl rfl) (.slice (some ⟨g2, 0, none⟩) s.kids.length cap2))))
  have hgB := HS3.out.gne (by rfl)
  have hg2n : w.heap.size ≤ g2 := by simpa using hh1
  obtain ⟨y0, y1, yf⟩ := kd_cells HS3.out.kids n (by simpa using k2)
  simp only at y0 y1 yf
  have HS4 := hid (SBox.setRun (s := { s with last := now }) HS3.out (by rfl) n false k2)
  have z1 := (kd_cells HS4.out.kids n (by show n < (setR false s.kids n).length; rw [setR_len]; exact k2)).2.1
  have hkk : (kdAt (setR false s.kids n) n).keep = (kdAt s.kids n).keep := by
    unfold setR
    rw [show ((n : Int)).toNat = n from rfl]
    unfold kdAt
    rw [List.getD_eq_getElem?_getD, List.getElem?_set_self k2]
    rfl
  simp only at z1
  rw [hkk] at z1
  have hT4 : Touch (footS B (.slice (some ⟨g, 0, none⟩) s.kids.length cap) pv) w ((w2.setCell ⟨B, 3, none⟩ (.slice (some ⟨g2, 0, none⟩) s.kids.length cap2)).setCell ⟨g2, n * 2, none⟩ (.bool false)) := Touch.of_new (HT3.out.mono (fun _ _ h => .inl h) |>.trans (Touch.setCell (F := fun k => footS B (.slice (some ⟨g, 0, none⟩) s.kids.length cap) pv k ∨ w.heap.size ≤ k) (a := ⟨g2, n * 2, none⟩) (.inr hg2n) (.bool false)))
  have HT4 := hid hT4
  clear ho2 hb2 hb2' hx2 hkk hT4 HCP b3 b5 b6 c0 c1 cf HT1 HT3
  have hfl4 : ∀ k, footS B (.slice (some ⟨g2, 0, none⟩) s.kids.length cap2) pv k → footS B (.slice (some ⟨g, 0, none⟩) s.kids.length cap) pv k ∨ w.heap.size ≤ k := by
    rintro k (e | e | e)
    · exact .inl (.inl e)
    · have e2 : some g2 = some k := e
      injection e2 with e2
      exact .inr (by omega)
    · exact .inl (.inr (.inr e))
  have HFL4 := hid hfl4
  clear hfl4
  by_cases hk : (kdAt s.kids n).keep = false
  · have HR1 := hid (HR.out.trans (if_pos hk))
    rw [hk] at z1 y1
    go_wp2_with fail
    refine bodyPost_ret (v := .tuple #[.slice none 0 0, .slice none 0 0, .bool false, .int .i64 0]) (by simp [results, Try.results40, go_sem]) rfl ?_
    rw [HR1.out]
    exact ⟨_, _, _, pv, rfl, HS4.out, OwnI.nil _ _ _ _, OwnI.nil _ _ _ _, HT4.out, HFL4.out⟩
  · have HR1 := hid (HR.out.trans (if_neg hk))
    have hk' : (kdAt s.kids n).keep = true := by simpa using hk
    rw [hk'] at z1 y1
    go_wp2_with fail
    generalize hw1 : (w2.setCell ⟨B, 3, none⟩ (.slice (some ⟨g2, 0, none⟩) s.kids.length cap2)).setCell ⟨g2, n * 2, none⟩ (.bool false) = w1 at *
    obtain ⟨ks, hks⟩ : ∃ ks, ks = setR false s.kids n := ⟨_, rfl⟩
    have hkl : ks.length = s.kids.length := by rw [hks, setR_len]
    have hS4 := HS4.out
    rw [← hks, ← hkl] at hS4
    have hF4 := HFL4.out
    rw [← hkl] at hF4
    have HF4 := hid hF4
    have H1' : Hid (SBox 78 w1 base B (.slice (some ⟨g2, 0, none⟩) ks.length cap2) pv ⟨s.strategy, s.most, s.window, ks, s.past, now, s.over⟩) := hid hS4
    have HKS := hid hks
    have hk1 : 1 ≤ ks.length := by omega
    have hk8 : ks.length ≤ 8 := by omega
    have hwm : w.heap.size ≤ w1.heap.size := HT4.out.size
    have HKL := hid hkl
    clear hw1 y0 y1 yf z1 x3 x3f hks hS4 hF4 HS4 HS3 H1 hkl hh1 hh2 hh3 HFL4 bf
    have hD : ∀ w', Below w1.drew.heap.size w1.drew w' → (w'.cell? ⟨B, 4, none⟩ = some pv ∧ w'.frozen? ⟨B, 4, none⟩ = false) ∧ (w'.cell? ⟨B, 6, none⟩ = some (.bool s.over) ∧ w'.frozen? ⟨B, 6, none⟩ = false) ∧ w'.cell? ⟨B, 1, none⟩ = some (.int .i64 s.most) ∧ w'.cell? ⟨B, 2, none⟩ = some (.int .i64 s.window) ∧ SBox 78 w' base B (.slice (some ⟨g2, 0, none⟩) ks.length cap2) pv ⟨s.strategy, s.most, s.window, ks, s.past, now, s.over⟩ := by
      intro w' hb
      have hx := H1'.out.below ((drew_bel' (n := 1) (Below.refl _ _)).trans hb)
      exact ⟨⟨hx.blk.cell rfl, hx.blk.free 4⟩, ⟨hx.blk.cell rfl, hx.blk.free 6⟩, hx.blk.cell rfl, hx.blk.cell rfl, hx⟩
    have HD := hid hD
    obtain ⟨⟨b4, b4f⟩, ⟨b6, b6f⟩, b1, b2, _⟩ := hD _ (Below.refl _ _)
    clear hD
    go_cut [] (fun wx => ∃ pv', SBox 78 wx base B (.slice (some ⟨g2, 0, none⟩) ks.length cap2) pv' ⟨s.strategy, s.most, s.window, ks, (pastF s.past now s.most s.window).1, now, (pastF s.past now s.most s.window).2.1⟩ ∧ Touch (fun k => k = B) w1 wx ∧ (∀ k, pv'.ownBlock = some k → w1.heap.size ≤ k))
    case first =>
      have hpa := fun wx (hb : Below w1.drew.heap.size w1.drew wx) => refPast_any pv s.past now s.most s.window wx (OwnI.ints (HD.out wx hb).2.2.2.2.past)
      generalize pastF s.past now s.most s.window = P at *
      have HPA := hid hpa
      clear hpa
      go_region_law (first | (go_simp; go_at_call 104; refine (HPA.out _ (Below.refl _ _)).mono ?_; rintro e w2 ⟨v', rfl, ho', hb'⟩; obtain ⟨⟨x4, x4f⟩, ⟨x6, x6f⟩, _, _, hx⟩ := HD.out _ hb'; obtain ⟨ao2, cap2, rfl, _⟩ := own_sl ho'; have HP := hid (And.intro ho' hb'); clear ho' hb'))
      all_goals
        go_wp2_with fail
        go_meet
        refine ⟨_, SBox.setOver (s := ⟨s.strategy, s.most, s.window, ks, P.1, now, s.over⟩) (SBox.setPast (w := w1.drew) (H1'.out.below (drew_bel' (n := 1) (Below.refl _ _))) (by rfl) (by rfl) HP.out.2 _ HP.out.1) (by rfl) (by rfl) P.2.1, ?_, ?_⟩
        · exact ((Touch.of_below ((drew_bel' (n := 1) (Below.refl _ _)).trans HP.out.2)).trans (Touch.setCell (F := fun k => k = B) rfl _)).trans (Touch.setCell (F := fun k => k = B) rfl _)
        · intro k hk
          exact (World.ownsRow.lt HP.out.1 k hk).1
    case rest =>
    obtain ⟨pv', hs, ht, hf⟩ := hcut
    have hP1 : w1.heap.size ≤ wc.heap.size := ht.size
    have hTW : Touch (footS B (.slice (some ⟨g, 0, none⟩) s.kids.length cap) pv) w wc := HT4.out.trans (ht.mono (fun _ _ e => .inl e))
    have hfl : ∀ k, footS B (.slice (some ⟨g2, 0, none⟩) ks.length cap2) pv' k → (footS B (.slice (some ⟨g, 0, none⟩) s.kids.length cap) pv) k ∨ w.heap.size ≤ k := by
      rintro k (e | e | e)
      · exact HF4.out k (.inl e)
      · exact HF4.out k (.inr (.inl e))
      · exact .inr (Nat.le_trans hwm (hf k e))
    have hBl : B < wc.heap.size := hs.blk.lt
    have hgl : g2 < wc.heap.size := (World.ownsRow.lt hs.kids g2 rfl).2
    have hpl : ∀ k, pv'.ownBlock = some k → k < wc.heap.size := fun k e => (World.ownsRow.lt hs.past k e).2
    have HTW := hid hTW
    have HFL := hid hfl
    have HPL := hid hpl
    have hkg : ∀ k, (Value.slice (some ⟨g2, 0, none⟩) ks.length cap2).ownBlock = some k → k < wc.heap.size := fun k e => by have e2 : some g2 = some k := e; injection e2 with e2; omega
    have HKG := hid hkg
    clear hkg
    obtain ⟨⟨pp, ov, pe⟩, hPP⟩ : ∃ P, P = pastF s.past now s.most s.window := ⟨_, rfl⟩
    rw [← hPP] at hs
    have HPP := hid hPP
    simp only at hs
    have HS := hid hs
    have hbs := hs.base
    clear hPP hs ht hf hTW hfl hpl HD b4 b4f b6 b6f b1 b2
    obtain ⟨wd, hwd⟩ : ∃ wd, wd = wc := ⟨wc, rfl⟩
    subst hwd
    have b3 := HS.out.blk.cell (i := 3) rfl
    have b6 := HS.out.blk.cell (i := 6) rfl
    have b0 := HS.out.blk.cell (i := 0) rfl
    have hm := plan_mem s.strategy ks n
    have hm1 := hm.1
    have hm2 := hm.2
    have hpl := fun wx (hb : Below wd.heap.size wd wx) => refPlan_any (.slice (some ⟨g2, 0, none⟩) ks.length cap2) (prs ks) s.strategy n wx (kids_of (Ok.lk (HS.out.below hb).kids))
    obtain ⟨⟨q1, q2, q3⟩, hQQ⟩ : ∃ Q, Q = planF s.strategy (prs ks) n := ⟨_, rfl⟩
    have HQQ := hid hQQ
    rw [← hQQ] at hm1 hm2
    have hpl2 : ∀ wx, Below wd.heap.size wd wx → Calls Try.prog 105 #[.int .i64 s.strategy, (.slice (some ⟨g2, 0, none⟩) ks.length cap2), .int .i64 n] wx (PlanPost wx (q1, q2, q3)) := by
      intro wx hb
      have := hpl wx hb
      rw [← hQQ] at this
      exact this
    simp only at hm1 hm2
    have HPLN := hid hpl2
    have b0d : wd.drew.cell? ⟨B, 0, none⟩ = some (.int .i64 s.strategy) := b0
    have b3d : wd.drew.cell? ⟨B, 3, none⟩ = some (.slice (some ⟨g2, 0, none⟩) ks.length cap2) := b3
    clear hpl hpl2 hm hQQ
    go_wp2_with fail
    go_cut [10, 11] (fun a b wx => ∃ v u, a = v ∧ b = u ∧ OwnI wx wd.heap.size .i64 3 v q1 ∧ OwnI wx wd.heap.size .i64 3 u q2 ∧ Below wd.heap.size wd wx)
    case first =>
      go_region_held3 (fun w' => w'.cell? ⟨B, 0, none⟩ = some (.int .i64 s.strategy) ∧ w'.cell? ⟨B, 3, none⟩ = some (.slice (some ⟨g2, 0, none⟩) ks.length cap2)) (first | exact ⟨b0d, b3d⟩ | go_keep) (first | (go_at_call 105; refine (HPLN.out _ (drew_bel' (n := 1) (Below.refl _ _))).mono ?_; rintro e w2 ⟨v, u, rfl, hv, hu, _, hb⟩; have HQ := hid (And.intro hv (And.intro hu hb)); have x0 := (HS.out.below ((drew_bel' (n := 1) (Below.refl _ _)).trans hb)).blk.cell (i := 0) rfl; have x3 := (HS.out.below ((drew_bel' (n := 1) (Below.refl _ _)).trans hb)).blk.cell (i := 3) rfl; clear hv hu hb))
      all_goals
        go_wp2_with fail
        go_meet
        exact ⟨v, u, rfl, rfl, HQ.out.1, HQ.out.2.1, (drew_bel' (n := 1) (Below.refl _ _)).trans HQ.out.2.2⟩
    case rest =>
    obtain ⟨v1, v2, hv1, hv2, ho1, ho2, hb9⟩ := hcut
    have hv1' := hv1.symm
    have hv2' := hv2.symm
    subst hv1' hv2'
    clear hv1 hv2 b0 b3 b6 b0d b3d
    obtain ⟨we, hwe⟩ : ∃ we, we = wc := ⟨wc, rfl⟩
    subst hwe
    have HSe := hid (HS.out.below hb9)
    have HTe := hid (HTW.out.trans (Touch.of_below hb9))
    have hsz9 := hb9.size
    have b3 := HSe.out.blk.cell (i := 3) rfl
    have b6 := HSe.out.blk.cell (i := 6) rfl
    have hdgb := HR1.out
    rw [← HKS.out, ← HPP.out] at hdgb
    cases ov with
    | false =>
      have hdg : R = ((q1, q2, false, 0), (⟨s.strategy, s.most, s.window, setAll true (setAll false ks q1) q2, pp, now, s.over⟩ : SSt)) := by
        rw [hdgb, show downG s ks (pp, false, pe) n now = downH s ks pp (planF s.strategy (prs ks) n) now from if_neg (by simp), ← HQQ.out]
        rfl
      rw [ho] at hdg
      have HDG := hid hdg
      have HM1 := hid hm1
      have HM2 := hid hm2
      clear hdg hdgb HR HR1 hm1 hm2
      obtain ⟨L1, hL1⟩ : ∃ L, L = q1 := ⟨_, rfl⟩
      obtain ⟨L2, hL2⟩ : ∃ L, L = q2 := ⟨_, rfl⟩
      subst hL1 hL2
      obtain ⟨a1, n1, rfl, _⟩ := own_sl ho1
      obtain ⟨a2, n2, rfl, _⟩ := own_sl ho2
      have HKL1 := hid (setAll_len false L1 ks)
      obtain ⟨HSf, HTf, hszf⟩ := And.intro HSe (And.intro HTe hsz9)
      clear hb9
      go_wp2_with fail
      go_loopw [144] (fun i wr => ∃ k : Nat, k ≤ L1.length ∧ i = .int .i64 k ∧ OwnI wr wd.heap.size .i64 3 (.slice a1 L1.length n1) L1 ∧ OwnI wr wd.heap.size .i64 3 (.slice a2 L2.length n2) L2 ∧ Hid (SBox 78 wr base B (.slice (some ⟨g2, 0, none⟩) ks.length cap2) pv' ⟨s.strategy, s.most, s.window, setAll false ks (L1.take k), pp, now, false⟩) ∧ Hid (Touch (footS B (.slice (some ⟨g, 0, none⟩) s.kids.length cap) pv) w wr) ∧ wd.heap.size ≤ wr.heap.size) (fun i _ => L1.length - (RowKit.intOf i).toNat)
      case atStart => exact ⟨0, Nat.zero_le _, rfl, ho1, ho2, HSf, HTf, hszf⟩
      case round =>
        obtain ⟨k, hk9, rfl, ho1, ho2, hS9, hT9, hsz⟩ := hrel
        by_cases hlt : k < L1.length
        · rcases (OwnI.ints ho1).open with ⟨_, _, _, e, _⟩ | ⟨lb, lo, cap', hv, _, _, _, hcl⟩
          · rw [e] at hlt; simp at hlt
          simp only [Value.slice.injEq, true_and] at hv
          obtain ⟨rfl, rfl⟩ := hv
          have e0 := hcl k hlt
          have hj := HM1.out _ (List.getElem_mem hlt)
          have hst : setR false (setAll false ks (L1.take k)) L1[k] = setAll false ks (L1.take (k + 1)) := by
            rw [List.take_succ_eq_append_getElem hlt, setAll_snoc]
          have HST := hid hst
          have hMl := setAll_len false (L1.take k) ks
          obtain ⟨j, hjj⟩ := Int.eq_ofNat_of_zero_le hj.1
          rw [hjj] at e0 hj
          have hjl : j < ks.length := by omega
          have x3 := hS9.out.blk.cell (i := 3) rfl
          generalize hMM : setAll false ks (L1.take k) = M at *
          have hjk : j < M.length := by omega
          obtain ⟨c0, _, cf⟩ := kd_cells hS9.out.kids j hjk
          simp only at c0 cf
          have hx9 : SBox 78 wr base B (.slice (some ⟨g2, 0, none⟩) M.length cap2) pv' ⟨s.strategy, s.most, s.window, M, pp, now, false⟩ := by rw [hMl]; exact hS9.out
          have hx10 := SBox.setRun (s := ⟨s.strategy, s.most, s.window, M, pp, now, false⟩) hx9 (by rfl) j false hjk
          have hst2 := HST.out
          rw [hjj] at hst2
          rw [hMl, hst2] at hx10
          have HX10 := hid hx10
          have ho11 := hid (ownsRow_setCell_other (a := ⟨g2, j * 2, none⟩) ho1 (fun e => by have := (World.ownsRow.lt ho1 g2 e).1; omega) (.bool false))
          have ho12 := hid (ownsRow_setCell_other (a := ⟨g2, j * 2, none⟩) ho2 (fun e => by have := (World.ownsRow.lt ho2 g2 e).1; omega) (.bool false))
          have HT10 := hid (Touch.of_new (Touch.trans (F := fun k => (footS B (.slice (some ⟨g, 0, none⟩) s.kids.length cap) pv) k ∨ w.heap.size ≤ k) (hT9.out.mono (fun _ _ h => .inl h)) (Touch.setCell (a := ⟨g2, j * 2, none⟩) (.inr hg2n) (.bool false))))
          have hjl0 : (0 : Int) ≤ (j : Int) := by omega
          have hjl1 : (j : Int) < (ks.length : Int) := by omega
          clear hcl hx9 hx10 hst hst2 hS9 hMM hT9
          go_wp2_with fail
          go_roundw
          case rel => exact ⟨k + 1, by omega, by go_num, ho11.out, ho12.out, HX10, HT10, by simpa using hsz⟩
          case measure => simp [RowKit.intOf]; omega
        · obtain rfl : k = L1.length := by omega
          have hS8 := hS9.out
          rw [List.take_length] at hS8
          have HS8 := hid hS8
          clear hS8 hS9
          go_wp2_with fail
          go_loopw [158] (fun i wr => ∃ k : Nat, k ≤ L2.length ∧ i = .int .i64 k ∧ OwnI wr wd.heap.size .i64 3 (.slice a1 L1.length n1) L1 ∧ OwnI wr wd.heap.size .i64 3 (.slice a2 L2.length n2) L2 ∧ Hid (SBox 78 wr base B (.slice (some ⟨g2, 0, none⟩) ks.length cap2) pv' ⟨s.strategy, s.most, s.window, setAll true (setAll false ks L1) (L2.take k), pp, now, false⟩) ∧ Hid (Touch (footS B (.slice (some ⟨g, 0, none⟩) s.kids.length cap) pv) w wr) ∧ wd.heap.size ≤ wr.heap.size) (fun i _ => L2.length - (RowKit.intOf i).toNat)
          case atStart => exact ⟨0, Nat.zero_le _, rfl, ho1, ho2, HS8, hT9, hsz⟩
          case round =>
            clear ho1 ho2 HS8 hT9 hsz hlt hk9 HSf HTf
            obtain ⟨k, hk9, rfl, ho1, ho2, hS9, hT9, hsz⟩ := hrel
            by_cases hlt : k < L2.length
            · rcases (OwnI.ints ho2).open with ⟨_, _, _, e, _⟩ | ⟨lb, lo, cap', hv, _, _, _, hcl⟩
              · rw [e] at hlt; simp at hlt
              simp only [Value.slice.injEq, true_and] at hv
              obtain ⟨rfl, rfl⟩ := hv
              have e0 := hcl k hlt
              have hj := HM2.out _ (List.getElem_mem hlt)
              have hst : setR true (setAll true (setAll false ks L1) (L2.take k)) L2[k] = setAll true (setAll false ks L1) (L2.take (k + 1)) := by
                rw [List.take_succ_eq_append_getElem hlt, setAll_snoc]
              have HST := hid hst
              have hMl := setAll_len true (L2.take k) (setAll false ks L1)
              rw [HKL1.out] at hMl
              obtain ⟨j, hjj⟩ := Int.eq_ofNat_of_zero_le hj.1
              rw [hjj] at e0 hj
              have hjl : j < ks.length := by omega
              have x3 := hS9.out.blk.cell (i := 3) rfl
              generalize hMM : setAll true (setAll false ks L1) (L2.take k) = M at *
              have hjk : j < M.length := by omega
              obtain ⟨c0, _, cf⟩ := kd_cells hS9.out.kids j hjk
              simp only at c0 cf
              have hx9 : SBox 78 wr base B (.slice (some ⟨g2, 0, none⟩) M.length cap2) pv' ⟨s.strategy, s.most, s.window, M, pp, now, false⟩ := by rw [hMl]; exact hS9.out
              have hx10 := SBox.setRun (s := ⟨s.strategy, s.most, s.window, M, pp, now, false⟩) hx9 (by rfl) j true hjk
              have hst2 := HST.out
              rw [hjj] at hst2
              rw [hMl, hst2] at hx10
              have HX10 := hid hx10
              have ho11 := hid (ownsRow_setCell_other (a := ⟨g2, j * 2, none⟩) ho1 (fun e => by have := (World.ownsRow.lt ho1 g2 e).1; omega) (.bool true))
              have ho12 := hid (ownsRow_setCell_other (a := ⟨g2, j * 2, none⟩) ho2 (fun e => by have := (World.ownsRow.lt ho2 g2 e).1; omega) (.bool true))
              have HT10 := hid (Touch.of_new (Touch.trans (F := fun k => (footS B (.slice (some ⟨g, 0, none⟩) s.kids.length cap) pv) k ∨ w.heap.size ≤ k) (hT9.out.mono (fun _ _ h => .inl h)) (Touch.setCell (a := ⟨g2, j * 2, none⟩) (.inr hg2n) (.bool true))))
              have hjl0 : (0 : Int) ≤ (j : Int) := by omega
              have hjl1 : (j : Int) < (ks.length : Int) := by omega
              clear hcl hx9 hx10 hst hst2 hS9 hMM hT9
              go_wp2_with fail
              go_roundw
              case rel => exact ⟨k + 1, by omega, by go_num, ho11.out, ho12.out, HX10, HT10, by simpa using hsz⟩
              case measure => simp [RowKit.intOf]; omega
            · obtain rfl : k = L2.length := by omega
              have hS8 := hS9.out
              rw [List.take_length] at hS8
              have HS8 := hid hS8
              clear hS8 hS9
              have z6 := HS8.out.blk.cell (i := 6) rfl
              simp only at z6
              go_wp2_with fail
              go_region_held3 (fun w' => w'.cell? ⟨B, 6, none⟩ = some (.bool false)) (first | exact z6 | go_keep) (fail)
              go_wp2_with fail
              refine bodyPost_ret (v := .tuple #[.slice a1 L1.length n1, .slice a2 L2.length n2, .bool false, .int .i64 0]) (by simp [results, Try.results40, go_sem]) rfl ?_
              rw [HDG.out]
              have hS10 := HS8.out.below (drew_bel' (n := 1) (Below.refl _ _))
              exact ⟨_, _, _, pv', rfl, hS10, own_mono (OwnI.below ho1 (drew_bel' (n := 1) (Below.refl _ _))) (by omega), own_mono (OwnI.below ho2 (drew_bel' (n := 1) (Below.refl _ _))) (by omega), hT9.out.drew 1, HFL.out⟩
    | true =>
      have hdg : R = ((runsDown ks 0 ks.length, [], true, 0), (⟨s.strategy, s.most, s.window, setAll true (setAll false ks (runsDown ks 0 ks.length)) [], pp, now, true⟩ : SSt)) := by
        rw [hdgb, show downG s ks (pp, true, pe) n now = downO s ks pp now from if_pos rfl]
        rfl
      have HDG := hid hdg
      clear hdg hdgb HR HR1 hm1 hm2 ho1 ho2
      go_wp2_with fail
      go_loopw [130, 10] (fun i v wr => ∃ (k : Nat) (vv : Value), k ≤ ks.length ∧ i = .int .i64 k ∧ v = vv ∧ OwnI wr wd.heap.size .i64 3 vv (runsDown ks 0 k) ∧ Hid (Below wd.heap.size wd wr) ∧ wd.heap.size ≤ wr.heap.size) (fun i _ _ => ks.length - (RowKit.intOf i).toNat)
      case atStart => exact ⟨0, _, Nat.zero_le _, rfl, rfl, OwnI.nil _ _ _ _, hid hb9, hsz9⟩
      case round =>
        obtain ⟨k, vv, hk9, rfl, hvv, hown, hbl9, hsz⟩ := hrel
        have hvv2 := hvv.symm
        subst hvv2
        clear hvv
        by_cases hlt : k < ks.length
        · have hS9 := HS.out.below hbl9.out
          obtain ⟨c0, c1, _⟩ := kd_cells hS9.kids k (by simpa using hlt)
          simp only at c0 c1
          have hst := runsDown_up ks k
          have hrl : (runsDown ks 0 k).length ≤ k := by
            unfold runsDown
            rw [List.length_map, List.length_reverse]
            exact Nat.le_trans (List.length_filter_le _ _) (by simp)
          have HST := hid hst
          have hbc := (Blk.new wr #[.bool (kdAt ks k).runs, .bool (kdAt ks k).keep] 74 _ rfl).cell (i := 0) rfl
          have HBN := hid (Below.alloc (Below.refl wd.heap.size wr) hsz (.cells #[.bool (kdAt ks k).runs, .bool (kdAt ks k).keep] 74))
          have HOA := hid (World.ownsRow.alloc hown (.cells #[.bool (kdAt ks k).runs, .bool (kdAt ks k).keep] 74))
          clear hst hS9
          cases hr : (kdAt ks k).runs with
          | false =>
            rw [hr] at c0 hbc HBN HOA
            have e9 := HST.out
            rw [hr, if_neg (by decide), List.nil_append] at e9
            have E9 := hid e9
            clear e9
            go_wp2_with fail
            go_roundw
            case rel => exact ⟨k + 1, vv, by omega, by go_num, rfl, by rw [E9.out]; exact HOA.out, hid (hbl9.out.trans HBN.out), by simp; omega⟩
            case measure => simp [RowKit.intOf]; omega
          | true =>
            rw [hr] at c0 hbc HBN HOA
            have e9 := HST.out
            rw [hr, if_pos rfl] at e9
            have E9 := hid e9
            clear e9
            go_wp2_with (at_builtin; go_loud (refine app_cons elem_int (base := wd.heap.size) (y := (k : Int)) rfl _ _ rfl rfl rfl (by simp) HOA.out (by omega) (by omega) (by simp; omega) ?_); intro v' w' ho' hb' hn'; have HO := hid ho'; have HBB := hid hb'; clear ho' hb' hn')
            go_roundw
            case rel => exact ⟨k + 1, v', by omega, by go_num, rfl, by rw [E9.out]; exact HO.out, hid (hbl9.out.trans (HBN.out.trans (HBB.out.mono (by simp; omega)))), by have := HBB.out.size; simp at this; omega⟩
            case measure => simp [RowKit.intOf]; omega
        · obtain rfl : k = ks.length := by omega
          have HSf := hid (HS.out.below hbl9.out)
          have HTf := hid (HTW.out.trans (Touch.of_below hbl9.out))
          have hszf := hsz
          have HM1 : Hid (∀ i ∈ runsDown ks 0 ks.length, 0 ≤ i ∧ i < ks.length) := hid (fun i hi => by have := runsDown_mem hi; omega)
          have HM2 : Hid (∀ i ∈ ([] : List Int), 0 ≤ i ∧ i < ks.length) := hid (fun i hi => by cases hi)
          obtain ⟨L1, hL1⟩ : ∃ L, L = runsDown ks 0 ks.length := ⟨_, rfl⟩
          rw [← hL1] at HM1 hown HDG
          have ho1 := hown
          have ho2 : OwnI wr wd.heap.size .i64 3 (.slice none 0 0) [] := OwnI.nil _ _ _ _
          obtain ⟨a1, n1, rfl, _⟩ := own_sl ho1
          have HKL1 := hid (setAll_len false L1 ks)
          have b3 := HSf.out.blk.cell (i := 3) rfl
          have b6 := HSf.out.blk.cell (i := 6) rfl
          clear hb9 hown hL1 hbl9 hsz HM2
          go_wp2_with fail
          go_loopw [144] (fun i wr => ∃ k : Nat, k ≤ L1.length ∧ i = .int .i64 k ∧ OwnI wr wd.heap.size .i64 3 (.slice a1 L1.length n1) L1 ∧ OwnI wr wd.heap.size .i64 3 (.slice none 0 0) [] ∧ Hid (SBox 78 wr base B (.slice (some ⟨g2, 0, none⟩) ks.length cap2) pv' ⟨s.strategy, s.most, s.window, setAll false ks (L1.take k), pp, now, true⟩) ∧ Hid (Touch (footS B (.slice (some ⟨g, 0, none⟩) s.kids.length cap) pv) w wr) ∧ wd.heap.size ≤ wr.heap.size) (fun i _ => L1.length - (RowKit.intOf i).toNat)
          case atStart => exact ⟨0, Nat.zero_le _, rfl, ho1, ho2, HSf, HTf, hszf⟩
          case round =>
            obtain ⟨k, hk9, rfl, ho1, ho2, hS9, hT9, hsz⟩ := hrel
            by_cases hlt : k < L1.length
            · rcases (OwnI.ints ho1).open with ⟨_, _, _, e, _⟩ | ⟨lb, lo, cap', hv, _, _, _, hcl⟩
              · rw [e] at hlt; simp at hlt
              simp only [Value.slice.injEq, true_and] at hv
              obtain ⟨rfl, rfl⟩ := hv
              have e0 := hcl k hlt
              have hj := HM1.out _ (List.getElem_mem hlt)
              have hst : setR false (setAll false ks (L1.take k)) L1[k] = setAll false ks (L1.take (k + 1)) := by
                rw [List.take_succ_eq_append_getElem hlt, setAll_snoc]
              have HST := hid hst
              have hMl := setAll_len false (L1.take k) ks
              obtain ⟨j, hjj⟩ := Int.eq_ofNat_of_zero_le hj.1
              rw [hjj] at e0 hj
              have hjl : j < ks.length := by omega
              have x3 := hS9.out.blk.cell (i := 3) rfl
              generalize hMM : setAll false ks (L1.take k) = M at *
              have hjk : j < M.length := by omega
              obtain ⟨c0, _, cf⟩ := kd_cells hS9.out.kids j hjk
              simp only at c0 cf
              have hx9 : SBox 78 wr base B (.slice (some ⟨g2, 0, none⟩) M.length cap2) pv' ⟨s.strategy, s.most, s.window, M, pp, now, true⟩ := by rw [hMl]; exact hS9.out
              have hx10 := SBox.setRun (s := ⟨s.strategy, s.most, s.window, M, pp, now, true⟩) hx9 (by rfl) j false hjk
              have hst2 := HST.out
              rw [hjj] at hst2
              rw [hMl, hst2] at hx10
              have HX10 := hid hx10
              have ho11 := hid (ownsRow_setCell_other (a := ⟨g2, j * 2, none⟩) ho1 (fun e => by have := (World.ownsRow.lt ho1 g2 e).1; omega) (.bool false))
              have ho12 := hid (ownsRow_setCell_other (a := ⟨g2, j * 2, none⟩) ho2 (fun e => by have := (World.ownsRow.lt ho2 g2 e).1; omega) (.bool false))
              have HT10 := hid (Touch.of_new (Touch.trans (F := fun k => (footS B (.slice (some ⟨g, 0, none⟩) s.kids.length cap) pv) k ∨ w.heap.size ≤ k) (hT9.out.mono (fun _ _ h => .inl h)) (Touch.setCell (a := ⟨g2, j * 2, none⟩) (.inr hg2n) (.bool false))))
              have hjl0 : (0 : Int) ≤ (j : Int) := by omega
              have hjl1 : (j : Int) < (ks.length : Int) := by omega
              clear hcl hx9 hx10 hst hst2 hS9 hMM hT9
              go_wp2_with fail
              go_roundw
              case rel => exact ⟨k + 1, by omega, by go_num, ho11.out, ho12.out, HX10, HT10, by simpa using hsz⟩
              case measure => simp [RowKit.intOf]; omega
            · obtain rfl : k = L1.length := by omega
              have hS8 := hS9.out
              rw [List.take_length] at hS8
              have HS8 := hid hS8
              clear hS8 hS9
              go_wp2_with fail
              go_loopw [158] (fun i wq => i = .int .i64 0 ∧ wq = wr) (fun _ _ => 0)
              case atStart => exact ⟨rfl, rfl⟩
              case round =>
                obtain ⟨rfl, rfl⟩ := hrel
                have z6 := HS8.out.blk.cell (i := 6) rfl
                simp only at z6
                go_wp2_with fail
                go_region_held3 (fun w' => w'.cell? ⟨B, 6, none⟩ = some (.bool true)) (first | exact z6 | go_keep) (fail)
                go_wp2_with fail
                refine bodyPost_ret (v := .tuple #[.slice a1 L1.length n1, .slice none 0 0, .bool true, .int .i64 0]) (by simp [results, Try.results40, go_sem]) rfl ?_
                rw [HDG.out]
                have hS10 := HS8.out.below (drew_bel' (n := 1) (Below.refl _ _))
                exact ⟨_, _, _, pv', rfl, hS10, own_mono (OwnI.below ho1 (drew_bel' (n := 1) (Below.refl _ _))) (by omega), OwnI.nil _ _ _ _, hT9.out.drew 1, HFL.out⟩
end Go.Proofs.Ytpapblahnbeccaa
