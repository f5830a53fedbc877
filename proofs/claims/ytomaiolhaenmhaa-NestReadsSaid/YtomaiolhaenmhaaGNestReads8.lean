/-
  INSTRUCTIONS: the program's Read. Conditions: lengths in the form's reach.
-/
import Derived.Test.YtomaiolhaenmhaaGNestReads7
import Derived.Test.YtomaiolhaenmhaaInA
import Derived.Test.YtomaiolhaenmhaaInE
namespace Go.Proofs.Ytomaiolhaenmhaa
open Go.RowKit Go.Lib
attribute [local go_sem ↓] Go.wp_at_zero Go.wp_at_succ

/-- what Read makes of a text: the letter, what stands beside it, what is left -/
def rdI (t : ByteArray) : Nat × (Int × Int × List Int) × (ByteArray × Int) :=
  ((octM (t, 0)).1, if (sayM (decide (tB (octM (t, 0)).1 = 0)) 6 (octM (t, 0)).2).2 = 0 then besM (tB (octM (t, 0)).1) (sayM (decide (tB (octM (t, 0)).1 = 0)) 6 (octM (t, 0)).2) else ((0, 0, []), sayM (decide (tB (octM (t, 0)).1 = 0)) 6 (octM (t, 0)).2))
/-- how it is given -/
def RdP (w : World) (t : ByteArray) (e : Ending) (w' : World) : Prop :=
  ∃ u, (if (rdI t).2.2.2 = 0 then e = .returned (.tuple #[insV (rdI t).1 (rdI t).2.1.1 (rdI t).2.1.2.1 u, .int .i64 (t.size - (rdI t).2.2.1.size), .int .i64 0]) ∧ OwnI w' w.heap.size .i64 2 u (rdI t).2.1.2.2
    else e = .returned (.tuple #[insV 0 0 0 (.slice none 0 0), .int .i64 0, .int .i64 (rdI t).2.2.2])) ∧ Below w.heap.size w w'

/-- a block of four cells, stored whole -/
theorem res4 {w : World} {B : Nat} {ty : TypeId} {cs : List Value} (h : Blk w B ty cs) (hl : cs.length = 4) (a0 a1 a2 a3 : Value) :
    Blk ((((w.setCell ⟨B, 0, none⟩ a0).setCell ⟨B, 1, none⟩ a1).setCell ⟨B, 2, none⟩ a2).setCell ⟨B, 3, none⟩ a3) B ty [a0, a1, a2, a3] := by
  match cs, hl with
  | [c0, c1, c2, c3], _ => exact (((h.set 0 a0).set 1 a1).set 2 a2).set 3 a3
theorem touch4 {w : World} {B : Nat} (a0 a1 a2 a3 : Value) : Touch (fun j => j = B) w ((((w.setCell ⟨B, 0, none⟩ a0).setCell ⟨B, 1, none⟩ a1).setCell ⟨B, 2, none⟩ a2).setCell ⟨B, 3, none⟩ a3) :=
  (((Touch.setCell (F := fun j => j = B) (a := ⟨B, 0, none⟩) rfl a0).trans (Touch.setCell (F := fun j => j = B) (a := ⟨B, 1, none⟩) rfl a1)).trans (Touch.setCell (F := fun j => j = B) (a := ⟨B, 2, none⟩) rfl a2)).trans (Touch.setCell (F := fun j => j = B) (a := ⟨B, 3, none⟩) rfl a3)
theorem DuI.below {w w' : World} {R X : Nat} {t : ByteArray} {s : ByteArray × Int} {op : Nat} {A B : Int} {u : Value} (h : DuI w R X t s op A B u) (hb : Below w.heap.size w w') : DuI w' R X t s op A B u := by
  obtain ⟨a, h1, h2, h3⟩ := h.rd
  exact ⟨⟨a, h1, h2, h3.below hb⟩, h.ins.below hb, h.ne, h.sz⟩
set_option maxRecDepth 100000 in
set_option maxHeartbeats 4000000 in
theorem pread_any (w : World) (t : ByteArray) (ht : t.size ≤ 140737488351232) :
    Calls Try.prog 49 #[.string t] w fun e w' => RdP w t e w' := by
  have hl0 : left t 0 = t := by unfold left; simp
  have h0 : IrB ((w.alloc (.cells #[.int .u8 0, .int .i64 0, .int .i64 0, .slice none 0 0] 90)).alloc (.cells #[.string t, .int .i64 0, .int .i64 0] 170)) (w.heap.size + 1) t 0 0 := Blk.new _ _ _ _ (by simp)
  have hres : Blk ((w.alloc (.cells #[.int .u8 0, .int .i64 0, .int .i64 0, .slice none 0 0] 90)).alloc (.cells #[.string t, .int .i64 0, .int .i64 0] 170)) w.heap.size 90 [.int .u8 0, .int .i64 0, .int .i64 0, .slice none 0 0] := (Blk.new w _ _ _ rfl).alloc _
  have hB : Below w.heap.size w ((w.alloc (.cells #[.int .u8 0, .int .i64 0, .int .i64 0, .slice none 0 0] 90)).alloc (.cells #[.string t, .int .i64 0, .int .i64 0] 170)) := ((Below.refl _ _).alloc (Nat.le_refl _) _).alloc (by simp) _
  have HO0 := ioctet_any _ (w.heap.size + 1) t 0 0 h0 (Nat.zero_le _) ht
  rw [hl0] at HO0
  have HO := hid HO0
  clear HO0
  have HRES := hid hres
  have HB := hid hB
  have hop := octM_lt (t, 0)
  unfold RdP rdI
  generalize octM (t, 0) = o at *
  obtain ⟨op, so⟩ := o
  simp only at HO hop ⊢
  have HBS := hid (fun w' => besides_any op hop w')
  have hk9 := tB_le ⟨op, hop⟩
  simp only at hk9
  have HS := hid (fun k wx R X s (h1 : 1 ≤ k ∧ k ≤ 9) h h0 => ibs_any wx R X t s op k h1 h h0)
  generalize tB op = k at *
  clear h0 hres hB
  by_cases hk : k = 0
  · subst hk
    rw [decide_eq_true rfl]
    have hb := say_bad (e := 6) (by decide) so
    have HF := hid (fun wx R X (h : DuI wx R X t so op 0 0 (.slice none 0 0)) => dfail 6 h)
    generalize sayM true 6 so = s2 at *
    rw [if_neg hb]
    simp only [if_neg hb]
    have hbz : (s2.2 == 0) = false := by simpa using hb
    have hbn : (s2.2 != 0) = true := by simpa using hb
    clear hb
    go_enter Try.func49, Try.ntmps49
    go_wp2_with fail
    refine HO.out.mono ?_
    rintro r w3 ⟨rfl, ⟨a1, p1, p2, p3⟩, p4⟩
    have HR3 := hid (HRES.out.touch p4 (by omega))
    have HB3 := hid (HB.out.trans (p4.below HB.out.size (fun j hj => by omega)))
    have hlt3 := p3.lt
    have D4 : Hid (DuI (w3.alloc (.cells #[.int .u8 op, .int .i64 0, .int .i64 0, .slice none 0 0] 90)) (w.heap.size + 1) w3.heap.size t so op 0 0 (.slice none 0 0)) := hid ⟨⟨a1, p1, p2, p3.alloc _⟩, Blk.new _ _ _ _ rfl, by omega, ht⟩
    have HR4 := hid (HR3.out.alloc (.cells #[.int .u8 op, .int .i64 0, .int .i64 0, .slice none 0 0] 90))
    have HB4 := hid (HB3.out.alloc HB3.out.size (.cells #[.int .u8 op, .int .i64 0, .int .i64 0, .slice none 0 0] 90))
    clear p1 p2 p3 p4
    go_wp2_with fail
    refine (HBS.out _).mono ?_
    rintro r w5 ⟨rfl, hb⟩
    have D5 := hid (DuI.below D4.out hb)
    have HR5 := hid (HR4.out.below hb)
    have HB5 := hid (HB4.out.trans (hb.mono HB4.out.size))
    have hlt5 := hb.size
    have hlt5 : w3.heap.size + 1 ≤ w5.heap.size := by simpa using hlt5
    clear hb
    go_wp2_with fail
    refine (HF.out _ _ _ D5.out).mono ?_
    rintro r w6 ⟨rfl, g1, g2⟩
    have HR6 := hid (HR5.out.touch g2 (by omega))
    have HB6 := hid (HB5.out.trans (g2.below HB5.out.size (fun j hj => by omega)))
    have D6 := hid g1
    clear g1 g2
    have hrf := HR6.out.free
    have hr0 := HR6.out.cell (i := 0) rfl
    have hr1 := HR6.out.cell (i := 1) rfl
    have hr2 := HR6.out.cell (i := 2) rfl
    have hr3 := HR6.out.cell (i := 3) rfl
    obtain ⟨a5, p1, p2, p3⟩ := D6.out.rd
    have pb := p3.cell (i := 2) rfl
    clear p1 p2 p3
    have q0 : w6.drew.cell? ⟨w.heap.size, 0, none⟩ = some (.int .u8 0) := hr0
    have q1 : w6.drew.cell? ⟨w.heap.size, 1, none⟩ = some (.int .i64 0) := hr1
    have q2 : w6.drew.cell? ⟨w.heap.size, 2, none⟩ = some (.int .i64 0) := hr2
    have q3 : w6.drew.cell? ⟨w.heap.size, 3, none⟩ = some (.slice none 0 0) := hr3
    have qf : ∀ i, w6.drew.frozen? ⟨w.heap.size, i, none⟩ = false := hrf
    have qb : w6.drew.cell? ⟨w.heap.size + 1, 2, none⟩ = some (.int .i64 s2.2) := pb
    go_wp2_with fail
    go_region_law (fail)
    all_goals
      go_wp2_with fail
      refine bodyPost_ret (v := .tuple #[insV 0 0 0 (.slice none 0 0), .int .i64 0, .int .i64 s2.2]) (by simp [results, Try.results49, go_sem, insV, hr0, hr1, hr2, hr3]) rfl ?_
      exact ⟨.slice none 0 0, rfl, drew_bel' (n := 1) (HB6.out.trans ((touch4 (w := w6) (.int .u8 0) (.int .i64 0) (.int .i64 0) (.slice none 0 0)).below (HB6.out.size) (fun j hj => by omega)))⟩
  · rw [decide_eq_false hk, say_false]
    have hkz : ((k : Int) == 0) = false := by simp; omega
    by_cases hb : so.2 = 0
    · rw [if_pos hb]
      have HS5 := hid (fun wx R X h => HS.out k wx R X so (by omega) h hb)
      have hbz : (so.2 == 0) = true := by rw [hb]; rfl
      generalize besM k so = bm at *
      obtain ⟨⟨A, B, xs⟩, s2⟩ := bm
      simp only at HS5 ⊢
      by_cases hc : s2.2 = 0
      · simp only [if_pos hc]
        have hcz : (s2.2 == 0) = true := by rw [hc]; rfl
        have hcn : (s2.2 != 0) = false := by rw [hc]; rfl
        clear hc
        clear hb hk
        go_enter Try.func49, Try.ntmps49
        go_wp2_with fail
        refine HO.out.mono ?_
        rintro r w3 ⟨rfl, ⟨a1, p1, p2, p3⟩, p4⟩
        have HR3 := hid (HRES.out.touch p4 (by omega))
        have HB3 := hid (HB.out.trans (p4.below HB.out.size (fun j hj => by omega)))
        have hlt3 := p3.lt
        have D4 : Hid (DuI (w3.alloc (.cells #[.int .u8 op, .int .i64 0, .int .i64 0, .slice none 0 0] 90)) (w.heap.size + 1) w3.heap.size t so op 0 0 (.slice none 0 0)) := hid ⟨⟨a1, p1, p2, p3.alloc _⟩, Blk.new _ _ _ _ rfl, by omega, ht⟩
        have HR4 := hid (HR3.out.alloc (.cells #[.int .u8 op, .int .i64 0, .int .i64 0, .slice none 0 0] 90))
        have HB4 := hid (HB3.out.alloc HB3.out.size (.cells #[.int .u8 op, .int .i64 0, .int .i64 0, .slice none 0 0] 90))
        clear p1 p2 p3 p4
        go_wp2_with fail
        refine (HBS.out _).mono ?_
        rintro r w5 ⟨rfl, hb⟩
        have D5 := hid (DuI.below D4.out hb)
        have HR5 := hid (HR4.out.below hb)
        have HB5 := hid (HB4.out.trans (hb.mono HB4.out.size))
        have hlt5 := hb.size
        have hlt5 : w3.heap.size + 1 ≤ w5.heap.size := by simpa using hlt5
        clear hb
        have pb0 := D5.out.rd
        obtain ⟨a5, p1, p2, p3⟩ := pb0
        have pb := p3.cell (i := 2) rfl
        clear p1 p2 p3
        go_wp2_with fail
        clear pb
        refine (HS5.out _ _ _ D5.out).mono ?_
        rintro r w6 ⟨rfl, ⟨u, g1, g3⟩, g2⟩
        have HR6 := hid (HR5.out.touch g2 (by omega))
        have HB6 := hid (HB5.out.trans (g2.below HB5.out.size (fun j hj => by omega)))
        have D6 := hid g1
        have OW6 := hid g3
        clear g1 g2 g3
        obtain ⟨au, cu, hu, _⟩ := own_sl OW6.out
        subst hu
        have hrf := HR6.out.free
        have hr0 := HR6.out.cell (i := 0) rfl
        have hr1 := HR6.out.cell (i := 1) rfl
        have hr2 := HR6.out.cell (i := 2) rfl
        have hr3 := HR6.out.cell (i := 3) rfl
        obtain ⟨a5, p1, p2, p3⟩ := D6.out.rd
        have pb := p3.cell (i := 2) rfl
        clear p1 p2 p3
        have q0 : w6.drew.cell? ⟨w.heap.size, 0, none⟩ = some (.int .u8 0) := hr0
        have q1 : w6.drew.cell? ⟨w.heap.size, 1, none⟩ = some (.int .i64 0) := hr1
        have q2 : w6.drew.cell? ⟨w.heap.size, 2, none⟩ = some (.int .i64 0) := hr2
        have q3 : w6.drew.cell? ⟨w.heap.size, 3, none⟩ = some (.slice none 0 0) := hr3
        have qf : ∀ i, w6.drew.frozen? ⟨w.heap.size, i, none⟩ = false := hrf
        have x0 : w6.drew.cell? ⟨w3.heap.size, 0, none⟩ = some (.int .u8 op) := D6.out.ins.cell (i := 0) rfl
        have x1 : w6.drew.cell? ⟨w3.heap.size, 1, none⟩ = some (.int .i64 A) := D6.out.ins.cell (i := 1) rfl
        have x2 : w6.drew.cell? ⟨w3.heap.size, 2, none⟩ = some (.int .i64 B) := D6.out.ins.cell (i := 2) rfl
        have x3 : w6.drew.cell? ⟨w3.heap.size, 3, none⟩ = some (.slice au xs.length cu) := D6.out.ins.cell (i := 3) rfl
        obtain ⟨a6, p1, p2, p3⟩ := D6.out.rd
        have qa0 := p3.cell (i := 1) rfl
        have qa : w6.drew.cell? ⟨w.heap.size + 1, 1, none⟩ = some (.int .i64 a6) := p3.cell (i := 1) rfl
        have HA := hid (show (a6 : Int) = (t.size : Int) - (s2.1.size : Int) by rw [p2, left_size]; omega)
        clear p1 p2 p3
        have hd1 : ¬ (w.heap.size = w3.heap.size) := by omega
        have hd2 : ¬ (w3.heap.size = w.heap.size) := by omega
        go_wp2_with fail
        go_region_law (fail)
        all_goals
          go_wp2_with fail
          refine bodyPost_ret (v := .tuple #[insV op A B (.slice au xs.length cu), .int .i64 a6, .int .i64 0]) (by simp [results, Try.results49, go_sem, insV, hr0, hr1, hr2, hr3]) rfl ?_
          have HX := hid (HB6.out.trans (Touch.below (B := w.heap.size) (touch4 (w := w6) (B := w.heap.size) (.int .u8 op) (.int .i64 A) (.int .i64 B) (.slice au xs.length cu)) HB6.out.size (fun j hj => by omega)))
          refine ⟨_, ⟨by rw [HA.out], ?_⟩, drew_bel' (n := 1) HX.out⟩
          exact own_mono' (c := w5.heap.size) (own_touch (F := fun j => j = w.heap.size) OW6.out (touch4 (w := w6) (B := w.heap.size) (.int .u8 op) (.int .i64 A) (.int .i64 B) (.slice au xs.length cu)).drew1 (fun j g e => by
            have h9 : w5.heap.size ≤ j := (World.ownsRow.lt OW6.out j g).1
            have e9 : j = w.heap.size := e
            omega)) HB5.out.size
      · simp only [if_neg hc]
        have hcz : (s2.2 == 0) = false := by simpa using hc
        have hcn : (s2.2 != 0) = true := by simpa using hc
        clear hc
        clear hb hk
        go_enter Try.func49, Try.ntmps49
        go_wp2_with fail
        refine HO.out.mono ?_
        rintro r w3 ⟨rfl, ⟨a1, p1, p2, p3⟩, p4⟩
        have HR3 := hid (HRES.out.touch p4 (by omega))
        have HB3 := hid (HB.out.trans (p4.below HB.out.size (fun j hj => by omega)))
        have hlt3 := p3.lt
        have D4 : Hid (DuI (w3.alloc (.cells #[.int .u8 op, .int .i64 0, .int .i64 0, .slice none 0 0] 90)) (w.heap.size + 1) w3.heap.size t so op 0 0 (.slice none 0 0)) := hid ⟨⟨a1, p1, p2, p3.alloc _⟩, Blk.new _ _ _ _ rfl, by omega, ht⟩
        have HR4 := hid (HR3.out.alloc (.cells #[.int .u8 op, .int .i64 0, .int .i64 0, .slice none 0 0] 90))
        have HB4 := hid (HB3.out.alloc HB3.out.size (.cells #[.int .u8 op, .int .i64 0, .int .i64 0, .slice none 0 0] 90))
        clear p1 p2 p3 p4
        go_wp2_with fail
        refine (HBS.out _).mono ?_
        rintro r w5 ⟨rfl, hb⟩
        have D5 := hid (DuI.below D4.out hb)
        have HR5 := hid (HR4.out.below hb)
        have HB5 := hid (HB4.out.trans (hb.mono HB4.out.size))
        have hlt5 := hb.size
        have hlt5 : w3.heap.size + 1 ≤ w5.heap.size := by simpa using hlt5
        clear hb
        have pb0 := D5.out.rd
        obtain ⟨a5, p1, p2, p3⟩ := pb0
        have pb := p3.cell (i := 2) rfl
        clear p1 p2 p3
        go_wp2_with fail
        clear pb
        refine (HS5.out _ _ _ D5.out).mono ?_
        rintro r w6 ⟨rfl, ⟨u, g1, g3⟩, g2⟩
        have HR6 := hid (HR5.out.touch g2 (by omega))
        have HB6 := hid (HB5.out.trans (g2.below HB5.out.size (fun j hj => by omega)))
        have D6 := hid g1
        have OW6 := hid g3
        clear g1 g2 g3
        have hrf := HR6.out.free
        have hr0 := HR6.out.cell (i := 0) rfl
        have hr1 := HR6.out.cell (i := 1) rfl
        have hr2 := HR6.out.cell (i := 2) rfl
        have hr3 := HR6.out.cell (i := 3) rfl
        obtain ⟨a5, p1, p2, p3⟩ := D6.out.rd
        have pb := p3.cell (i := 2) rfl
        clear p1 p2 p3
        have q0 : w6.drew.cell? ⟨w.heap.size, 0, none⟩ = some (.int .u8 0) := hr0
        have q1 : w6.drew.cell? ⟨w.heap.size, 1, none⟩ = some (.int .i64 0) := hr1
        have q2 : w6.drew.cell? ⟨w.heap.size, 2, none⟩ = some (.int .i64 0) := hr2
        have q3 : w6.drew.cell? ⟨w.heap.size, 3, none⟩ = some (.slice none 0 0) := hr3
        have qf : ∀ i, w6.drew.frozen? ⟨w.heap.size, i, none⟩ = false := hrf
        have qb : w6.drew.cell? ⟨w.heap.size + 1, 2, none⟩ = some (.int .i64 s2.2) := pb
        go_wp2_with fail
        go_region_law (fail)
        all_goals
          go_wp2_with fail
          refine bodyPost_ret (v := .tuple #[insV 0 0 0 (.slice none 0 0), .int .i64 0, .int .i64 s2.2]) (by simp [results, Try.results49, go_sem, insV, hr0, hr1, hr2, hr3]) rfl ?_
          exact ⟨.slice none 0 0, rfl, drew_bel' (n := 1) (HB6.out.trans ((touch4 (w := w6) (.int .u8 0) (.int .i64 0) (.int .i64 0) (.slice none 0 0)).below (HB6.out.size) (fun j hj => by omega)))⟩
    · rw [if_neg hb]
      simp only [if_neg hb]
      have hbz : (so.2 == 0) = false := by simpa using hb
      have hbn : (so.2 != 0) = true := by simpa using hb
      clear hb hk
      go_enter Try.func49, Try.ntmps49
      go_wp2_with fail
      refine HO.out.mono ?_
      rintro r w3 ⟨rfl, ⟨a1, p1, p2, p3⟩, p4⟩
      have HR3 := hid (HRES.out.touch p4 (by omega))
      have HB3 := hid (HB.out.trans (p4.below HB.out.size (fun j hj => by omega)))
      have hlt3 := p3.lt
      have D4 : Hid (DuI (w3.alloc (.cells #[.int .u8 op, .int .i64 0, .int .i64 0, .slice none 0 0] 90)) (w.heap.size + 1) w3.heap.size t so op 0 0 (.slice none 0 0)) := hid ⟨⟨a1, p1, p2, p3.alloc _⟩, Blk.new _ _ _ _ rfl, by omega, ht⟩
      have HR4 := hid (HR3.out.alloc (.cells #[.int .u8 op, .int .i64 0, .int .i64 0, .slice none 0 0] 90))
      have HB4 := hid (HB3.out.alloc HB3.out.size (.cells #[.int .u8 op, .int .i64 0, .int .i64 0, .slice none 0 0] 90))
      clear p1 p2 p3 p4
      go_wp2_with fail
      refine (HBS.out _).mono ?_
      rintro r w5 ⟨rfl, hb⟩
      have D5 := hid (DuI.below D4.out hb)
      have HR5 := hid (HR4.out.below hb)
      have HB5 := hid (HB4.out.trans (hb.mono HB4.out.size))
      have hlt5 := hb.size
      have hlt5 : w3.heap.size + 1 ≤ w5.heap.size := by simpa using hlt5
      clear hb
      have hrf := HR5.out.free
      have hr0 := HR5.out.cell (i := 0) rfl
      have hr1 := HR5.out.cell (i := 1) rfl
      have hr2 := HR5.out.cell (i := 2) rfl
      have hr3 := HR5.out.cell (i := 3) rfl
      obtain ⟨a5, p1, p2, p3⟩ := D5.out.rd
      have pb := p3.cell (i := 2) rfl
      clear p1 p2 p3
      have q0 : w5.drew.cell? ⟨w.heap.size, 0, none⟩ = some (.int .u8 0) := hr0
      have q1 : w5.drew.cell? ⟨w.heap.size, 1, none⟩ = some (.int .i64 0) := hr1
      have q2 : w5.drew.cell? ⟨w.heap.size, 2, none⟩ = some (.int .i64 0) := hr2
      have q3 : w5.drew.cell? ⟨w.heap.size, 3, none⟩ = some (.slice none 0 0) := hr3
      have qf : ∀ i, w5.drew.frozen? ⟨w.heap.size, i, none⟩ = false := hrf
      have qb : w5.drew.cell? ⟨w.heap.size + 1, 2, none⟩ = some (.int .i64 so.2) := pb
      go_wp2_with fail
      go_region_law (fail)
      all_goals
        go_wp2_with fail
        refine bodyPost_ret (v := .tuple #[insV 0 0 0 (.slice none 0 0), .int .i64 0, .int .i64 so.2]) (by simp [results, Try.results49, go_sem, insV, hr0, hr1, hr2, hr3]) rfl ?_
        exact ⟨.slice none 0 0, rfl, drew_bel' (n := 1) (HB5.out.trans ((touch4 (w := w5) (.int .u8 0) (.int .i64 0) (.int .i64 0) (.slice none 0 0)).below (HB5.out.size) (fun j hj => by omega)))⟩
end Go.Proofs.Ytomaiolhaenmhaa
