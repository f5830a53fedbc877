/-
  THE LAW SuperSays: a supervisor answers as the reference does, for every sequence of calls. No condition.
-/
import Derived.Test.YtpapblahnbeccaaSsK
import Derived.Test.YtpapblahnbeccaaLawK
import Derived.Test.YtpapblahnbeccaaDecU
namespace Go.Proofs.Ytpapblahnbeccaa
open Go.RowKit Go.Lib
attribute [local go_sem ↓] Go.wp_at_zero Go.wp_at_succ

def encDs (y : D_trouperef_DownStep) : List Value := [.int .i64 y.1, .int .i64 y.2.1]
theorem encDs_len (y : D_trouperef_DownStep) : (encDs y).length = 2 := rfl
theorem ds_open {W : World} (cs : List Value) (y : D_trouperef_DownStep) (h : R_trouperef_DownStep W cs y) : cs = encDs y ∧ True := by
  obtain ⟨_, _, rfl, ⟨rfl, w1⟩, _, _, rfl, ⟨rfl, w2⟩, rfl⟩ := h
  exact ⟨rfl, trivial⟩
theorem flat_oneB {α : Type} (f : α → Value) (l : List α) : l.flatMap (fun x => [f x]) = l.map f := by
  induction l with
  | nil => rfl
  | cons a r ih => rw [List.flatMap_cons, List.map_cons, ih]; rfl
theorem bools_of {W : World} {v : Value} {zs : List Bool} (h : sliceR W 1 1 boolR [v] zs) : L1 Value.bool W v zs := by
  obtain ⟨h1, _, _⟩ := slice_flat (fun n => [Value.bool n]) (fun _ => True) (fun cs y h => ⟨h, trivial⟩) h
  unfold Lk at h1
  rw [flat_oneB] at h1
  exact h1
theorem new_ok (st mo wi : Int) (keep : List Bool) (h : newE st mo wi keep.length = 0) : okSS (newS st mo wi keep) := by
  refine ⟨?_, Int.le_refl 0⟩
  show (keep.map _).length ≤ 8
  rw [List.length_map]
  unfold newE at h
  by_cases h8 : 8 < keep.length
  · rw [if_pos h8] at h; omega
  · omega
def InvS (w : World) (base B1 B2 : Nat) (s : SSt) : Prop := ∃ k1 p1 k2 p2, DuoS w base B1 B2 k1 p1 k2 p2 s s ∧ okSS s

set_option maxRecDepth 100000 in
set_option maxHeartbeats 8000000 in
theorem law_SuperSays (v0 v1 v2 v3 v4 : Value) (x0 : Int) (x1 : D_s_bool) (x2 x3 : Int) (x4 : D_s_trouperef_DownStep) (W : World) (i0 : IsInt .i64 W v0 x0) (i1 : R_s_bool W [v1] x1) (i2 : IsInt .i64 W v2 x2) (i3 : IsInt .i64 W v3 x3) (i4 : R_s_trouperef_DownStep W [v4] x4) :
    Calls Try.prog 6 #[v0, v1, v2, v3, v4] W fun e w' => e = .returned (.bool true) ∧ Below W.heap.size W w' := by
  obtain ⟨rfl, _⟩ := i0
  obtain ⟨rfl, _⟩ := i2
  obtain ⟨rfl, _⟩ := i3
  have hkeep := bools_of i1
  obtain ⟨hl, _, _⟩ := slice_flat encDs _ ds_open i4
  have HL := hid hl
  have HKP := hid hkeep
  have HN1 := hid (newS_any W x0 x2 x3 v1 x1 hkeep)
  have hn2 := fun wx (hb : Below W.heap.size W wx) => newR_any wx x0 x2 x3 v1 x1 (L1.below hkeep hb)
  have HN2 := hid hn2
  obtain ⟨ao4, cap4, hv4, _⟩ := id HL.out
  obtain ⟨ao1, cap1, hv1, _⟩ := id HKP.out
  subst hv4 hv1
  clear i1 i4 hl hkeep hn2
  go_enter Try.func6, Try.ntmps6
  go_wp2_with fail
  refine HN1.out.mono ?_
  rintro e w1 hp1
  by_cases hE : newE x0 x2 x3 x1.length = 0
  · rcases hp1 with ⟨h, _⟩ | ⟨_, B1, k1, p1, rfl, hs1, hb1⟩
    · exact absurd hE h
    have HS1 := hid hs1
    have HB1 := hid hb1
    clear hs1 hb1
    go_wp2_with fail
    refine (HN2.out _ HB1.out).mono ?_
    rintro e w2 hp2
    rcases hp2 with ⟨h, _⟩ | ⟨_, B2, k2, p2, rfl, hs2, hb2⟩
    · exact absurd hE h
    have hD : DuoS w2 W.heap.size B1 B2 k1 p1 k2 p2 (newS x0 x2 x3 x1) (newS x0 x2 x3 x1) := by
      refine ⟨HS1.out.part.below hb2, (hs2.down HB1.out.size).part, ?_⟩
      intro k hf hg
      have h1 := (HS1.out.part.lt k hf).2
      have h2 := (hs2.part.lt k hg).1
      omega
    have HI : Hid (InvS w2 W.heap.size B1 B2 (newS x0 x2 x3 x1)) := hid ⟨_, _, _, _, hD, new_ok _ _ _ _ hE⟩
    have HB2 := hid (HB1.out.trans (hb2.mono HB1.out.size))
    clear hs2 hb2 hD HS1 HB1 HN1 HN2 hE
    go_wp2_with fail
    go_loopw [57] (fun i wr => ∃ (k : Nat) (s : SSt), k ≤ x4.length ∧ i = .int .i64 k ∧ Hid (InvS wr W.heap.size B1 B2 s) ∧ Hid (Below W.heap.size W wr)) (fun i _ => x4.length - (RowKit.intOf i).toNat)
    case atStart => exact ⟨0, _, Nat.zero_le _, rfl, HI, HB2⟩
    case round =>
      obtain ⟨k, s, hk, rfl, hT, hbel⟩ := hrel
      obtain ⟨k1, p1, k2, p2, hD, hok⟩ := hT.out
      by_cases hlt : k < x4.length
      · rcases (Lk.below HL.out hbel.out).open encDs_len (by decide) with ⟨_, _, _, e, _⟩ | ⟨lb, lo, cap', hv, _, hcap, hcap2, hc⟩
        · rw [e] at hlt; simp at hlt
        simp only [Value.slice.injEq, true_and] at hv
        obtain ⟨rfl, rfl⟩ := hv
        have y0 := hc k hlt 0 (by decide); have y1 := hc k hlt 1 (by decide)
        clear hc
        generalize x4[k] = y at *
        obtain ⟨kid, now, u⟩ := y
        rw [show (encDs (kid, now, u))[0]? = some (.int .i64 kid) from rfl, Nat.add_zero] at y0; rw [show (encDs (kid, now, u))[1]? = some (.int .i64 now) from rfl] at y1
        obtain ⟨w0, hw0⟩ : ∃ w0, w0 = wr.alloc (.cells #[.int .i64 kid, .int .i64 now] 68) := ⟨_, rfl⟩
        have hD0 := hD.alloc (.cells #[.int .i64 kid, .int .i64 now] 68)
        have hxb := Blk.new wr #[.int .i64 kid, .int .i64 now] 68 _ rfl
        have hb0 : Below W.heap.size W (wr.alloc (.cells #[.int .i64 kid, .int .i64 now] 68)) := hbel.out.alloc hbel.out.size _
        have hdn1 := sdown_any _ _ _ _ _ s kid now hD0.p.holds hok
        rw [← hw0] at hD0 hxb hb0 hdn1
        have hdn2 := fun wx (hh : SBox 78 wx W.heap.size B2 k2 p2 s) => rdown_any wx _ _ _ _ s kid now hh hok
        have hok2 := down_ok hok kid now
        have n1 : ∀ j, footS B1 k1 p1 j → j ≠ wr.heap.size := fun j hj => by have := (hD.p.lt j hj).2; omega
        have n2 : ∀ j, footS B2 k2 p2 j → j ≠ wr.heap.size := fun j hj => by have := (hD.q.lt j hj).2; omega
        have c0 := hxb.cell (i := 0) rfl
        have c1 := hxb.cell (i := 1) rfl
        have hwx : wr.heap.size < w0.heap.size := hxb.lt
        obtain ⟨⟨⟨a1, a2, a3, a4⟩, s'⟩, hR⟩ : ∃ R, R = downF s kid now := ⟨_, rfl⟩
        rw [← hR] at hdn1 hok2
        have hdn2' : ∀ wx, SBox 78 wx W.heap.size B2 k2 p2 s → Calls Try.prog 40 #[.pointer (some ⟨B2, 0, none⟩), .int .i64 kid, .int .i64 now] wx (DownPost 78 wx W.heap.size B2 k2 p2 ((a1, a2, a3, a4), s')) := by
          intro wx hh; rw [hR]; exact hdn2 wx hh
        have HD0 := hid hD0
        have HXB := hid hxb
        have HB0 := hid hb0
        have HDN1 := hid hdn1
        have HDN2 := hid hdn2'
        have HOK2 := hid hok2
        have N1 := hid n1
        have N2 := hid n2
        clear hdn1 hdn2 hdn2' hD0 hxb hb0 hok2 n1 n2 hR hT hD hbel
        go_wp2_with fail
        rw [← hw0]
        clear hw0 y0 y1
        refine HDN1.out.mono ?_
        rintro e w3 hp
        obtain ⟨r1, r2, k1', p1', rfl, hd1, ht1, o1, o2⟩ := sup_left HD0.out hp
        have hx := Blk.touch HXB.out ht1 (fun e => N1.out _ e rfl)
        have c0 := hx.cell (i := 0) rfl
        have c1 := hx.cell (i := 1) rfl
        have HX := hid hx
        have HD1 := hid hd1
        have HB3 := hid (HB0.out.trans (HD0.out.p.under ht1 (Nat.le_refl _)))
        have O1 := hid o1
        have O2 := hid o2
        have hsz3 := ht1.size
        clear hp hd1 ht1 hx o1 o2 HDN1
        go_wp2_with fail
        refine (HDN2.out _ HD1.out.q.holds).mono ?_
        rintro e w4 hp
        obtain ⟨r3, r4, k2', p2', rfl, hd2, ht2, o3, o4⟩ := sup_right HD1.out hp
        have hfl : ∀ j, footS B2 k2 p2 j → j < w0.heap.size := fun j hj => (HD0.out.q.lt j hj).2
        have P1 := hid (own_touch O1.out ht2 (fun j hj hf => by have := (World.ownsRow.lt O1.out j hj).1; have := hfl j hf; omega))
        have P2 := hid (own_touch O2.out ht2 (fun j hj hf => by have := (World.ownsRow.lt O2.out j hj).1; have := hfl j hf; omega))
        have P3 := hid o3
        have P4 := hid o4
        have HD2 := hid hd2
        have HB4 := hid (HB3.out.trans (HD1.out.q.under ht2 (Nat.le_refl _)))
        clear hp hd2 ht2 o3 o4 HDN2 hfl O1 O2 c0 c1
        simp only at P1 P2 P3 P4
        go_wp2_with fail
        have hok' := HOK2.out
        obtain ⟨ak, ck, hkv, _⟩ := own_sl HD2.out.q.holds.kids
        subst hkv
        have HDr := HD2.out.drew1
        have HDR := hid HDr
        have hD5 : ∀ w', Below w4.drew.heap.size w4.drew w' → (w'.cell? ⟨B2, 3, none⟩ = some (.slice ak s'.kids.length ck) ∧ w'.cell? ⟨B2, 6, none⟩ = some (.bool s'.over)) := by
          intro w' hb
          have hx := (HDR.out.below hb).q.holds.blk
          exact ⟨hx.cell rfl, hx.cell rfl⟩
        have HD5 := hid hD5
        have D0 := hid (Below.refl w4.drew.heap.size w4.drew)
        have e1 := fun wx (hb : Below w4.drew.heap.size w4.drew wx) => eq_int r1 r3 a1 a1 wx (L1.below (OwnI.ints P1.out) ((drew_bel' (n := 1) (Below.refl _ _)).trans hb)) (L1.below (OwnI.ints P3.out) ((drew_bel' (n := 1) (Below.refl _ _)).trans hb))
        have e2 := fun wx (hb : Below w4.drew.heap.size w4.drew wx) => eq_int r2 r4 a2 a2 wx (L1.below (OwnI.ints P2.out) ((drew_bel' (n := 1) (Below.refl _ _)).trans hb)) (L1.below (OwnI.ints P4.out) ((drew_bel' (n := 1) (Below.refl _ _)).trans hb))
        have e3 := fun wx (hb : Below w4.drew.heap.size w4.drew wx) => skids_any wx _ _ _ _ s' (HDR.out.below hb).p.holds hok'
        have e4 := fun wx (hb : Below w4.drew.heap.size w4.drew wx) => sover_any wx _ _ _ _ s' (HDR.out.below hb).p.holds
        have e5 := fun va wx (hb : Below w4.drew.heap.size w4.drew wx) (ha : Lk encKd wx va s'.kids) => eq_Kd va (.slice ak s'.kids.length ck) s'.kids s'.kids wx ha (HDR.out.below hb).q.holds.kids.lk
        simp only [decide_true] at e1 e2 e5
        have E1 := hid e1
        have E2 := hid e2
        have E3 := hid e3
        have E4 := hid e4
        have E5 := hid e5
        clear hD5 e1 e2 e3 e4 e5 HDr hok'
        go_region_held3 (fun w' => (w'.cell? ⟨B2, 3, none⟩ = some (.slice ak s'.kids.length ck) ∧ w'.cell? ⟨B2, 6, none⟩ = some (.bool s'.over))) (exact HD5.out _ D0.out) (first | (go_at_call 41; (with_reducible refine (E1.out _ D0.out).mono ?_); rintro e w5 ⟨rfl, rfl⟩) | (go_at_call 41; (with_reducible refine (E2.out _ D0.out).mono ?_); rintro e w5 ⟨rfl, rfl⟩) | (go_at_call 43; (refine (E3.out _ D0.out).mono ?_); rintro e w5 ⟨va, rfl, hva, hb⟩; have D0 := hid (D0.out.trans (hb.mono D0.out.size)); have HVA := hid hva; clear hva hb) | (go_at_call 44; (refine (E4.out _ D0.out).mono ?_); rintro e w5 ⟨rfl, rfl⟩) | (go_at_call 42; (refine (E5.out _ _ D0.out HVA.out).mono ?_); rintro e w5 ⟨rfl, hb⟩; have D0 := hid (D0.out.trans (hb.mono D0.out.size)); clear hb))
        all_goals
          go_wp2_with fail
          go_roundw
          case rel => exact ⟨k + 1, s', by omega, by go_num, hid ⟨_, _, _, _, HDR.out.below D0.out, HOK2.out⟩, hid ((drew_bel' (n := 1) HB4.out).trans (D0.out.mono HB4.out.size))⟩
          case measure => simp [RowKit.intOf]; omega
      · obtain rfl : k = x4.length := by omega
        obtain ⟨ak, ck, hkv, _⟩ := own_sl hD.q.holds.kids
        subst hkv
        have HDR := hid hD.drew1
        have hD5 : ∀ w', Below wr.drew.heap.size wr.drew w' → w'.cell? ⟨B2, 3, none⟩ = some (.slice ak s.kids.length ck) := fun w' hb => (HDR.out.below hb).q.holds.blk.cell rfl
        have HD5 := hid hD5
        have D0 := hid (Below.refl wr.drew.heap.size wr.drew)
        have e3 := fun wx (hb : Below wr.drew.heap.size wr.drew wx) => skids_any wx _ _ _ _ s (HDR.out.below hb).p.holds hok
        have e5 := fun va wx (hb : Below wr.drew.heap.size wr.drew wx) (ha : Lk encKd wx va s.kids) => eq_Kd va (.slice ak s.kids.length ck) s.kids s.kids wx ha (HDR.out.below hb).q.holds.kids.lk
        simp only [decide_true] at e5
        have E3 := hid e3
        have E5 := hid e5
        have HB5 := hbel
        clear hD5 e3 e5 hT hD hbel
        go_wp2_with fail
        go_region_held3 (fun w' => w'.cell? ⟨B2, 3, none⟩ = some (.slice ak s.kids.length ck)) (exact HD5.out _ D0.out) (first | (go_at_call 43; (refine (E3.out _ D0.out).mono ?_); rintro e w5 ⟨va, rfl, hva, hb⟩; have D0 := hid (D0.out.trans (hb.mono D0.out.size)); have HVA := hid hva; clear hva hb) | (go_at_call 42; (refine (E5.out _ _ D0.out HVA.out).mono ?_); rintro e w5 ⟨rfl, hb⟩; have D0 := hid (D0.out.trans (hb.mono D0.out.size)); clear hb))
        all_goals
          go_wp2_with fail
          go_ret
          exact ⟨rfl, (drew_bel' (n := 1) HB5.out).trans (D0.out.mono HB5.out.size)⟩
  · rcases hp1 with ⟨_, rfl, hb1⟩ | ⟨h, _⟩
    · have HB1 := hid hb1
      clear hb1
      have hne : (newE x0 x2 x3 x1.length != 0) = true := by simpa using hE
      go_wp2_with fail
      refine (HN2.out _ HB1.out).mono ?_
      rintro e w2 hp2
      rcases hp2 with ⟨_, rfl, hb2⟩ | ⟨h, _⟩
      · have HB2 := hid (HB1.out.trans (hb2.mono HB1.out.size))
        generalize newE x0 x2 x3 x1.length = E at *
        clear hb2 HN1 HN2
        go_wp2_with fail
        go_ret
        exact ⟨rfl, HB2.out⟩
      · exact absurd h hE
    · exact absurd h hE
end Go.Proofs.Ytpapblahnbeccaa
