/-
  INSTRUCTIONS: the program's reader: fail, octet, plain, signed, nought; and the reference's octet. Conditions: lengths in the form's reach.
-/
import Derived.Test.YtakfineljffoaaaGreatDoorGBinReads8
import Derived.Test.YtakfineljffoaaaGreatDoorGBinReads10
namespace Go.Proofs.YtakfineljffoaaaGreatDoor
open Go.RowKit Go.Lib
attribute [local go_sem ↓] Go.wp_at_zero Go.wp_at_succ

/-- one letter taken -/
def octM (s : ByteArray × Int) : Nat × ByteArray × Int := if s.2 ≠ 0 then (0, s) else if h : 0 < s.1.size then ((s.1[0]).toNat, (s.1.extract 1 s.1.size, 0)) else (0, (s.1, 3))
/-- the program's reader: its text t, of which s.1 is what is left -/
abbrev IrB (w : World) (B : Nat) (t : ByteArray) (at0 : Nat) (bad : Int) : Prop := Blk w B 208 [.string t, .int .i64 at0, .int .i64 bad]
def left (t : ByteArray) (at0 : Nat) : ByteArray := t.extract at0 t.size
abbrev ToI (B : Nat) (w w' : World) : Prop := Touch (fun k => k = B) w w'
theorem left_size (t : ByteArray) (a : Nat) : (left t a).size = t.size - a := by unfold left; rw [ByteArray.size_extract]; omega
theorem left_left (t : ByteArray) (a k : Nat) : (left t a).extract k (left t a).size = left t (a + k) := by
  rw [left_size]
  unfold left
  rw [ByteArray.extract_extract]
  congr 1
  omega
theorem ext_get (t : ByteArray) (a : Nat) (h : a < t.size) (h0 : 0 < (t.extract a t.size).size) : (t.extract a t.size)[0]'h0 = t[a]'h := by simp [ByteArray.getElem_extract]
theorem left_get (t : ByteArray) (a : Nat) (h : a < t.size) (h0 : 0 < (left t a).size) : (left t a)[0]'h0 = t[a]'h := ext_get t a h h0
/-- the fault that stays -/
def bad1 (e b : Int) : Int := if b = 0 then e else b

set_option maxRecDepth 100000 in
set_option maxHeartbeats 1000000 in
theorem ifail_any (w : World) (B : Nat) (t : ByteArray) (a : Nat) (bad e : Int) (h : IrB w B t a bad) :
    Calls Tryz.prog 152 #[.pointer (some ⟨B, 0, none⟩), .int .i64 e] w fun r w' => r = .returned (.tuple #[]) ∧ IrB w' B t a (bad1 e bad) ∧ ToI B w w' := by
  have H := hid h
  have b2 := h.cell (i := 2) rfl
  have bf := h.free 2
  clear h
  unfold bad1
  by_cases hb : bad = 0
  · subst hb
    rw [if_pos rfl]
    have H2 := hid (Blk.set H.out 2 (.int .i64 e))
    go_enter Tryz.func152, Tryz.ntmps152
    go_wp2_with fail
    go_end0
    exact ⟨rfl, H2.out, Touch.setCell (F := fun j => j = B) (a := ⟨B, 2, none⟩) rfl _⟩
  · rw [if_neg hb]
    have hb2 : (bad == 0) = false := by simpa using hb
    clear hb
    go_enter Tryz.func152, Tryz.ntmps152
    go_wp2_with fail
    go_end0
    exact ⟨rfl, H.out, Touch.refl _ _⟩

set_option maxRecDepth 100000 in
set_option maxHeartbeats 1000000 in
theorem ioctet_any (w : World) (B : Nat) (t : ByteArray) (a : Nat) (bad : Int) (h : IrB w B t a bad) (ha : a ≤ t.size) (hs : t.size ≤ 140737488351232) :
    Calls Tryz.prog 151 #[.pointer (some ⟨B, 0, none⟩)] w fun r w' => r = .returned (.int .u8 (octM (left t a, bad)).1) ∧ (∃ a', a' ≤ t.size ∧ (octM (left t a, bad)).2.1 = left t a' ∧ IrB w' B t a' (octM (left t a, bad)).2.2) ∧ ToI B w w' := by
  have H := hid h
  have b0 := h.cell (i := 0) rfl
  have b1 := h.cell (i := 1) rfl
  have b2 := h.cell (i := 2) rfl
  have bf := h.free
  have HF := hid (ifail_any w.drew B t a bad 3 (h.drew 1))
  clear h
  unfold octM
  simp only
  by_cases hb : bad ≠ 0
  · rw [if_pos hb]
    have hb2 : (bad != 0) = true := by simpa using hb
    clear hb
    go_enter Tryz.func151, Tryz.ntmps151
    go_wp2_with fail
    go_ret
    exact ⟨rfl, ⟨a, ha, rfl, H.out⟩, Touch.refl _ _⟩
  · rw [if_neg hb]
    have hb0 : bad = 0 := Classical.byContradiction hb
    subst hb0
    clear hb
    have d0 : w.drew.cell? ⟨B, 0, none⟩ = some (.string t) := b0
    have d1 : w.drew.cell? ⟨B, 1, none⟩ = some (.int .i64 a) := b1
    have dz : IntKind.i64.wrap (t.size : Int) = t.size := IntWalk.i64_in _ (by omega)
    by_cases hz : t.size ≤ a
    · have hz2 : decide ((t.size : Int) ≤ (a : Int)) = true := decide_eq_true (by omega)
      rw [dif_neg (by rw [left_size]; omega)]
      go_enter Tryz.func151, Tryz.ntmps151
      go_wp2_with fail
      go_region_held3 (fun w' => w'.cell? ⟨B, 0, none⟩ = some (.string t) ∧ w'.cell? ⟨B, 1, none⟩ = some (.int .i64 a)) (first | exact ⟨d0, d1⟩ | go_keep) (fail)
      go_wp2_with fail
      refine HF.out.mono ?_
      rintro r w1 ⟨rfl, h1, h2⟩
      have HX := hid (And.intro h1 h2)
      clear h1 h2
      go_wp2_with fail
      go_ret
      exact ⟨rfl, ⟨a, ha, rfl, HX.out.1⟩, (Touch.of_below (num_below (n := 1) (Below.refl _ _))).trans HX.out.2⟩
    · have hz2 : decide ((t.size : Int) ≤ (a : Int)) = false := decide_eq_false (by omega)
      have hlt : a < t.size := by omega
      rw [dif_pos (by rw [left_size]; omega), left_get t a hlt]
      have hlt2 : (a : Int) < (t.size : Int) := by omega
      have hge : (0 : Int) ≤ (a : Int) := by omega
      have RI := fun wx => (run_index_string wx 9 t .i64 (a : Int) Tryz.underlying9).trans (dif_pos (show (0 : Int) ≤ (a : Int) ∧ (a : Int) < (t.size : Int) from ⟨hge, hlt2⟩))
      simp only [Int.toNat_natCast] at RI
      generalize (t[a]'hlt).toNat = V at *
      go_enter Tryz.func151, Tryz.ntmps151
      go_wp2_with fail
      go_region_held3 (fun w' => w'.cell? ⟨B, 0, none⟩ = some (.string t) ∧ w'.cell? ⟨B, 1, none⟩ = some (.int .i64 a)) (first | exact ⟨d0, d1⟩ | go_keep) (fail)
      have e1 : wrap64 ((a : Int) + 1) = ((a + 1 : Nat) : Int) := by unfold wrap64; omega
      have e2 : IntKind.i64.wrap ((a : Int) + 1 - 1) = (a : Int) := by
        rw [IntKind.wrap_i64]; omega
      have e3 : IntKind.i64.wrap (((a + 1 : Nat) : Int) - 1) = (a : Int) := by
        rw [IntKind.wrap_i64]; omega
      have e4 : IntKind.i64.wrap (a : Int) = (a : Int) := IntWalk.i64_in _ (by omega)
      have H2 := hid (Blk.set (H.out.drew 1) 1 (.int .i64 ((a : Int) + 1)))
      have f0 : ((w.drewN 1).setCell ⟨B, 1, none⟩ (.int .i64 ((a : Int) + 1))).drew.cell? ⟨B, 0, none⟩ = some (.string t) := H2.out.cell (i := 0) rfl
      have f1 : ((w.drewN 1).setCell ⟨B, 1, none⟩ (.int .i64 ((a : Int) + 1))).drew.cell? ⟨B, 1, none⟩ = some (.int .i64 ((a : Int) + 1)) := H2.out.cell (i := 1) rfl
      have HG := hid (And.intro f0 f1)
      clear f0 f1
      go_wp2_with fail
      go_region_held3 (fun w' => w'.cell? ⟨B, 0, none⟩ = some (.string t) ∧ w'.cell? ⟨B, 1, none⟩ = some (.int .i64 ((a : Int) + 1))) (first | exact HG.out | go_keep) (fail)
      go_wp2_with fail
      go_ret
      exact ⟨rfl, ⟨a + 1, hlt, left_left t a 1, H2.out⟩, ((Touch.of_below (num_below (n := 1) (Below.refl _ _))).trans (Touch.setCell (F := fun j => j = B) (a := ⟨B, 1, none⟩) rfl _)).trans (Touch.of_below (num_below (n := 1) (Below.refl _ _)))⟩

set_option maxRecDepth 100000 in
set_option maxHeartbeats 1000000 in
theorem iplain_any (w : World) (B : Nat) (t : ByteArray) (a : Nat) (bad : Int) (h : IrB w B t a bad) (ha : a ≤ t.size) (hs : t.size ≤ 140737488351232) :
    Calls Tryz.prog 163 #[.pointer (some ⟨B, 0, none⟩)] w fun r w' => r = .returned (.int .i64 (numM (left t a, bad)).1) ∧ (∃ a', a' ≤ t.size ∧ (numM (left t a, bad)).2.1 = left t a' ∧ IrB w' B t a' (numM (left t a, bad)).2.2) ∧ ToI B w w' := by
  have hls := left_size t a
  have hf := ru_facts (b := 32) (.inl rfl) (left t a).data.toList 0 0 (by decide) (by decide)
  have hrd := fun wx => readU_ok (left t a) 32 wx (okSc_max (s := (left t a, 0)) (by unfold okSc; simp only; omega)) (.inl rfl)
  have hlen : (left t a).data.toList.length = (left t a).size := by simp
  have hll := left_left t a
  unfold numM
  unfold tup3 at hrd
  simp only at hf hrd ⊢
  generalize ru 32 (left t a).data.toList 0 0 = q at *
  obtain ⟨n, k, e⟩ := q
  simp only at hf hrd ⊢
  have hk : a + k ≤ t.size := by
    by_cases h0 : e = 0
    · have := (hf.1 h0).2.1; omega
    · have := (hf.2 h0).2; omega
  have hw : wrap64 (n : Int) = n := by
    have hn : n < 4294967296 := by
      by_cases h0 : e = 0
      · have := (hf.1 h0).2.2; have e2 : (2 : Nat) ^ 32 = 4294967296 := by decide
        omega
      · have := (hf.2 h0).1; omega
    unfold wrap64; omega
  have hwi : IntKind.i64.wrap (n : Int) = n := by
    rw [IntKind.wrap_i64]; unfold wrap64 at hw; exact hw
  have b2 := h.cell (i := 2) rfl
  have H := hid h
  by_cases hb : bad ≠ 0
  · rw [if_pos hb]
    dsimp only
    have hb2 : (bad != 0) = true := by simpa using hb
    clear hf hrd h hlen hb hll
    go_enter Tryz.func163, Tryz.ntmps163
    go_wp2_with fail
    go_ret
    exact ⟨rfl, ⟨a, ha, rfl, H.out⟩, Touch.refl _ _⟩
  · rw [if_neg hb]
    dsimp only
    have hb0 : bad = 0 := Classical.byContradiction hb
    subst hb0
    have d0 : w.drew.cell? ⟨B, 0, none⟩ = some (.string t) := h.cell (i := 0) rfl
    have d1 : w.drew.cell? ⟨B, 1, none⟩ = some (.int .i64 a) := h.cell (i := 1) rfl
    have hk1 : (a : Int) ≤ (t.size : Int) := by omega
    have hk0 : (0 : Int) ≤ (a : Int) := by omega
    have hx : ¬ (9223372036854775807 < t.size) := by omega
    have e1 : wrap64 ((a : Int) + (k : Int)) = ((a + k : Nat) : Int) := by unfold wrap64; omega
    have e2 : IntKind.i64.wrap ((a : Int) + (k : Int)) = (a : Int) + (k : Int) := IntWalk.i64_in _ (by omega)
    have e3 : bad1 (e : Int) 0 = (e : Int) := rfl
    have HL := hid (And.intro (hll k) hk)
    have HRD := hid hrd
    simp only [show ((32 : Nat) : Int) = 32 from rfl] at HRD
    unfold left at HRD
    have HF := hid (fun wx (hx : IrB wx B t a 0) => ifail_any wx B t a 0 e hx)
    clear hf hrd h hlen hb hll
    go_enter Tryz.func163, Tryz.ntmps163
    go_wp2_with fail
    go_region_held3 (fun w' => w'.cell? ⟨B, 0, none⟩ = some (.string t) ∧ w'.cell? ⟨B, 1, none⟩ = some (.int .i64 a)) (first | exact ⟨d0, d1⟩ | go_keep) (first | (go_at_call 84; (with_reducible refine (HRD.out _).mono ?_); rintro r w5 ⟨rfl, rfl⟩))
    go_wp2_with fail
    refine (HF.out _ (H.out.drew 1)).mono ?_
    rintro r w1 ⟨rfl, h1, h2⟩
    rw [e3] at h1
    have c1 := h1.cell (i := 1) rfl
    have cf := h1.free 1
    have HX := hid (And.intro (h1.set 1 (.int .i64 ((a : Int) + (k : Int)))) h2)
    clear h1 h2
    go_wp2_with fail
    go_ret
    exact ⟨rfl, ⟨a + k, HL.out.2, HL.out.1, HX.out.1⟩, ((Touch.of_below (num_below (n := 1) (Below.refl _ _))).trans HX.out.2).trans (Touch.setCell (F := fun j => j = B) (a := ⟨B, 1, none⟩) rfl _)⟩

set_option maxRecDepth 100000 in
set_option maxHeartbeats 1000000 in
theorem isigned_any (w : World) (B : Nat) (t : ByteArray) (a : Nat) (bits : Nat) (hbits : bits = 32 ∨ bits = 64) (h : IrB w B t a 0) (ha : a ≤ t.size) (hs : t.size ≤ 140737488351232) :
    Calls Tryz.prog 165 #[.pointer (some ⟨B, 0, none⟩), .int .i64 bits] w fun r w' => r = .returned (.int .i64 (sgnM bits (left t a, 0)).1) ∧ (∃ a', a' ≤ t.size ∧ (sgnM bits (left t a, 0)).2.1 = left t a' ∧ IrB w' B t a' (sgnM bits (left t a, 0)).2.2) ∧ ToI B w w' := by
  have hls := left_size t a
  have hf := rs_facts hbits (left t a).data.toList 0 0 (by decide) (by omega)
  have hrd := fun wx => readS_ok (left t a) bits wx (okSc_max (s := (left t a, 0)) (by unfold okSc; simp only; omega)) hbits
  have hlen : (left t a).data.toList.length = (left t a).size := by simp
  have hll := left_left t a
  unfold sgnM
  unfold tupS at hrd
  simp only at hf hrd ⊢
  rw [if_neg (by simp)]
  generalize rs bits (left t a).data.toList 0 0 = q at *
  obtain ⟨n, k, e⟩ := q
  simp only at hf hrd ⊢
  have hk : a + k ≤ t.size := by
    by_cases h0 : e = 0
    · have := hf.1 h0; omega
    · have := hf.2 h0; omega
  have H := hid h
  have d0 : w.drew.cell? ⟨B, 0, none⟩ = some (.string t) := h.cell (i := 0) rfl
  have d1 : w.drew.cell? ⟨B, 1, none⟩ = some (.int .i64 a) := h.cell (i := 1) rfl
  have hk1 : (a : Int) ≤ (t.size : Int) := by omega
  have hk0 : (0 : Int) ≤ (a : Int) := by omega
  have hx : ¬ (9223372036854775807 < t.size) := by omega
  have e1 : wrap64 ((a : Int) + (k : Int)) = ((a + k : Nat) : Int) := by unfold wrap64; omega
  have e2 : IntKind.i64.wrap ((a : Int) + (k : Int)) = (a : Int) + (k : Int) := IntWalk.i64_in _ (by omega)
  have e3 : bad1 (e : Int) 0 = (e : Int) := rfl
  have HL := hid (And.intro (hll k) hk)
  have HRD := hid hrd
  unfold left at HRD
  have HF := hid (fun wx (hx : IrB wx B t a 0) => ifail_any wx B t a 0 e hx)
  clear hf hrd h hlen hll
  go_enter Tryz.func165, Tryz.ntmps165
  go_wp2_with fail
  go_region_held3 (fun w' => w'.cell? ⟨B, 0, none⟩ = some (.string t) ∧ w'.cell? ⟨B, 1, none⟩ = some (.int .i64 a)) (first | exact ⟨d0, d1⟩ | go_keep) (first | (go_at_call 117; (with_reducible refine (HRD.out _).mono ?_); rintro r w5 ⟨rfl, rfl⟩))
  go_wp2_with fail
  refine (HF.out _ (H.out.drew 1)).mono ?_
  rintro r w1 ⟨rfl, h1, h2⟩
  rw [e3] at h1
  have c1 := h1.cell (i := 1) rfl
  have cf := h1.free 1
  have HX := hid (And.intro (h1.set 1 (.int .i64 ((a : Int) + (k : Int)))) h2)
  clear h1 h2
  go_wp2_with fail
  go_ret
  exact ⟨rfl, ⟨a + k, HL.out.2, HL.out.1, HX.out.1⟩, ((Touch.of_below (num_below (n := 1) (Below.refl _ _))).trans HX.out.2).trans (Touch.setCell (F := fun j => j = B) (a := ⟨B, 1, none⟩) rfl _)⟩

/-- a letter that must be nought -/
def nogM (s : ByteArray × Int) : ByteArray × Int := sayM (decide ((octM s).1 ≠ 0)) 4 (octM s).2
set_option maxRecDepth 100000 in
set_option maxHeartbeats 1000000 in
theorem inought_any (w : World) (B : Nat) (t : ByteArray) (a : Nat) (bad : Int) (h : IrB w B t a bad) (ha : a ≤ t.size) (hs : t.size ≤ 140737488351232) :
    Calls Tryz.prog 164 #[.pointer (some ⟨B, 0, none⟩)] w fun r w' => r = .returned (.tuple #[]) ∧ (∃ a', a' ≤ t.size ∧ (nogM (left t a, bad)).1 = left t a' ∧ IrB w' B t a' (nogM (left t a, bad)).2) ∧ ToI B w w' := by
  have HO := hid (ioctet_any w B t a bad h ha hs)
  unfold nogM
  generalize octM (left t a, bad) = q at *
  obtain ⟨n, l, e⟩ := q
  simp only at HO ⊢
  clear h
  have HF := hid (fun wx a' (hx : IrB wx B t a' e) => ifail_any wx B t a' e 4 hx)
  by_cases hn : n = 0
  · subst hn
    go_enter Tryz.func164, Tryz.ntmps164
    go_wp2_with fail
    refine HO.out.mono ?_
    rintro r w1 ⟨rfl, ⟨a', h1, h2, h3⟩, h4⟩
    have HX := hid (And.intro (And.intro h1 h2) (And.intro h3 h4))
    clear h1 h2 h3 h4
    go_wp2_with fail
    go_end0
    exact ⟨rfl, ⟨a', HX.out.1.1, HX.out.1.2, HX.out.2.1⟩, HX.out.2.2⟩
  · have hn2 : ((n : Int) != 0) = true := by simp; omega
    have hsay : sayM (decide (n ≠ 0)) 4 (l, e) = (l, bad1 4 e) := by
      rw [decide_eq_true hn]
      unfold sayM bad1
      simp only [true_and]
      split <;> rfl
    rw [hsay]
    clear hn hsay
    go_enter Tryz.func164, Tryz.ntmps164
    go_wp2_with fail
    refine HO.out.mono ?_
    rintro r w1 ⟨rfl, ⟨a', h1, h2, h3⟩, h4⟩
    have HX := hid (And.intro (And.intro h1 h2) (And.intro h3 h4))
    clear h1 h2 h3 h4
    go_wp2_with fail
    refine (HF.out _ a' HX.out.2.1).mono ?_
    rintro r w2 ⟨rfl, h1, h2⟩
    have HY := hid (And.intro h1 h2)
    clear h1 h2
    go_wp2_with fail
    go_end0
    exact ⟨rfl, ⟨a', HX.out.1.1, HX.out.1.2, HY.out.1⟩, HX.out.2.2.trans HY.out.2⟩
end Go.Proofs.YtakfineljffoaaaGreatDoor
namespace Go.Proofs.YtakfineljffoaaaGreatDoor
open Go.RowKit Go.Lib

/-- which letters an instruction takes and gives, by number -/
def tT (op : Nat) : Nat := [0, 0, 0, 0, 0, 0, 0, 0, 0, 0, 0, 0, 0, 0, 0, 0, 0, 0, 0, 0, 0, 0, 0, 0, 0, 0, 0, 0, 0, 0, 0, 0, 0, 0, 0, 0, 0, 0, 0, 0, 1, 7, 0, 0, 1, 1, 1, 1, 7, 7, 7, 7, 7, 7, 8, 9, 0, 0, 8, 8, 9, 9, 9, 10, 1, 10, 11, 0, 0, 1, 3, 3, 3, 3, 3, 3, 3, 3, 3, 3, 2, 4, 4, 4, 4, 4, 4, 4, 4, 4, 4, 0, 0, 0, 0, 0, 0, 0, 0, 0, 0, 0, 0, 1, 1, 1, 3, 3, 3, 3, 3, 3, 3, 3, 3, 3, 3, 3, 3, 3, 3, 5, 5, 5, 6, 6, 6, 6, 6, 6, 6, 6, 6, 6, 6, 6, 6, 6, 6, 0, 0, 0, 0, 0, 0, 0, 0, 0, 0, 0, 0, 0, 0, 0, 0, 0, 0, 0, 0, 0, 0, 0, 0, 0, 0, 0, 0, 2, 0, 0, 0, 0, 7, 7, 0, 0, 0, 0, 0, 0, 0, 0, 0, 0, 0, 0, 0, 0, 0, 0, 0, 0, 1, 1, 5, 5, 5, 0, 0, 0, 0, 0, 0, 0, 0, 0, 0, 0, 0, 0, 0, 0, 0, 0, 0, 0, 0, 0, 0, 0, 0, 0, 0, 0, 0, 0, 0, 0, 0, 0, 0, 0, 0, 0, 0, 0, 0, 0, 0, 0, 0, 0, 0, 0, 0, 0, 0, 0, 0, 0, 0, 0, 0, 0, 0, 0].getD op 0
def tkL (i : Nat) : List UInt8 := [[63], [105, 62, 105], [108, 62, 105], [105, 105, 62, 105], [108, 108, 62, 105], [108, 62, 108], [108, 108, 62, 108], [105, 62, 108], [105, 105, 62], [105, 108, 62], [62, 105], [62, 108]].getD i []
/-- the letters of what stands beside an instruction, by its kind -/
def sdL (i : Nat) : List UInt8 := [[63], [], [107], [97], [116], [97, 122], [97, 98], [122], [99], [100]].getD i []
def takes_any_l0 : List (Nat × Nat × Nat) := [(0, 39, 0), (40, 40, 1), (41, 41, 7), (42, 43, 0), (44, 47, 1), (48, 53, 7), (54, 54, 8), (55, 55, 9), (56, 57, 0), (58, 58, 8), (59, 59, 8), (60, 62, 9), (63, 63, 10), (64, 64, 1), (65, 65, 10), (66, 66, 11), (67, 68, 0), (69, 69, 1), (70, 79, 3), (80, 80, 2), (81, 90, 4), (91, 102, 0), (103, 105, 1), (106, 120, 3), (121, 123, 5), (124, 138, 6), (139, 166, 0), (167, 167, 2), (168, 171, 0), (172, 172, 7), (173, 173, 7), (174, 191, 0), (192, 192, 1), (193, 193, 1), (194, 196, 5), (197, 255, 0)]
theorem takes_any_c : ∀ x : Fin 256, (takes_any_l0.any (fun c => decide (c.1 ≤ x.val ∧ x.val ≤ c.2.1 ∧ tT x.val = c.2.2))) = true := by decide +kernel
set_option maxRecDepth 100000 in
set_option maxHeartbeats 16000000 in
theorem takes_any (op : Nat) (hop : op < 256) (w : World) :
    Calls Tryz.prog 78 #[.int .u8 op] w fun e w' => e = .returned (.string (S (tkL (tT op)))) ∧ w = w' := by
  have g := takes_any_c ⟨op, hop⟩
  simp only [List.any_eq_true, decide_eq_true_eq] at g
  rcases g with ⟨c, hc, h1, h2, t1⟩
  simp only [takes_any_l0, List.mem_cons, List.not_mem_nil, or_false] at hc
  rcases hc with rfl | rfl | rfl | rfl | rfl | rfl | rfl | rfl | rfl | rfl | rfl | rfl | rfl | rfl | rfl | rfl | rfl | rfl | rfl | rfl | rfl | rfl | rfl | rfl | rfl | rfl | rfl | rfl | rfl | rfl | rfl | rfl | rfl | rfl | rfl | rfl
  all_goals
    dsimp only at h1 h2 t1
    first | have e40 := bF op 40 (by omega) | have e40 := bT op 40 (by omega)
    first | have e41 := bF op 41 (by omega) | have e41 := bT op 41 (by omega)
    first | have e54 := bF op 54 (by omega) | have e54 := bT op 54 (by omega)
    first | have e55 := bF op 55 (by omega) | have e55 := bT op 55 (by omega)
    first | have e58 := bF op 58 (by omega) | have e58 := bT op 58 (by omega)
    first | have e59 := bF op 59 (by omega) | have e59 := bT op 59 (by omega)
    first | have e63 := bF op 63 (by omega) | have e63 := bT op 63 (by omega)
    first | have e64 := bF op 64 (by omega) | have e64 := bT op 64 (by omega)
    first | have e65 := bF op 65 (by omega) | have e65 := bT op 65 (by omega)
    first | have e66 := bF op 66 (by omega) | have e66 := bT op 66 (by omega)
    first | have e69 := bF op 69 (by omega) | have e69 := bT op 69 (by omega)
    first | have e80 := bF op 80 (by omega) | have e80 := bT op 80 (by omega)
    first | have e167 := bF op 167 (by omega) | have e167 := bT op 167 (by omega)
    first | have e172 := bF op 172 (by omega) | have e172 := bT op 172 (by omega)
    first | have e173 := bF op 173 (by omega) | have e173 := bT op 173 (by omega)
    first | have e192 := bF op 192 (by omega) | have e192 := bT op 192 (by omega)
    first | have e193 := bF op 193 (by omega) | have e193 := bT op 193 (by omega)
    first | have g103e : (103 : Int) ≤ op := by omega | have g103e : ¬ (103 : Int) ≤ op := by omega
    first | have k105e : (op : Int) ≤ 105 := by omega | have k105e : ¬ (op : Int) ≤ 105 := by omega
    first | have g44e : (44 : Int) ≤ op := by omega | have g44e : ¬ (44 : Int) ≤ op := by omega
    first | have k47e : (op : Int) ≤ 47 := by omega | have k47e : ¬ (op : Int) ≤ 47 := by omega
    first | have g70e : (70 : Int) ≤ op := by omega | have g70e : ¬ (70 : Int) ≤ op := by omega
    first | have k79e : (op : Int) ≤ 79 := by omega | have k79e : ¬ (op : Int) ≤ 79 := by omega
    first | have g106e : (106 : Int) ≤ op := by omega | have g106e : ¬ (106 : Int) ≤ op := by omega
    first | have k120e : (op : Int) ≤ 120 := by omega | have k120e : ¬ (op : Int) ≤ 120 := by omega
    first | have g81e : (81 : Int) ≤ op := by omega | have g81e : ¬ (81 : Int) ≤ op := by omega
    first | have k90e : (op : Int) ≤ 90 := by omega | have k90e : ¬ (op : Int) ≤ 90 := by omega
    first | have g121e : (121 : Int) ≤ op := by omega | have g121e : ¬ (121 : Int) ≤ op := by omega
    first | have k123e : (op : Int) ≤ 123 := by omega | have k123e : ¬ (op : Int) ≤ 123 := by omega
    first | have g194e : (194 : Int) ≤ op := by omega | have g194e : ¬ (194 : Int) ≤ op := by omega
    first | have k196e : (op : Int) ≤ 196 := by omega | have k196e : ¬ (op : Int) ≤ 196 := by omega
    first | have g124e : (124 : Int) ≤ op := by omega | have g124e : ¬ (124 : Int) ≤ op := by omega
    first | have k138e : (op : Int) ≤ 138 := by omega | have k138e : ¬ (op : Int) ≤ 138 := by omega
    first | have g48e : (48 : Int) ≤ op := by omega | have g48e : ¬ (48 : Int) ≤ op := by omega
    first | have k53e : (op : Int) ≤ 53 := by omega | have k53e : ¬ (op : Int) ≤ 53 := by omega
    first | have g60e : (60 : Int) ≤ op := by omega | have g60e : ¬ (60 : Int) ≤ op := by omega
    first | have k62e : (op : Int) ≤ 62 := by omega | have k62e : ¬ (op : Int) ≤ 62 := by omega
    rw [t1]
    go_enter Tryz.func78, Tryz.ntmps78
    go_wp2_with fail
    go_ret
    exact ⟨rfl, rfl⟩
def rbeside_any_l0 : List (Nat × Nat × Nat × Nat × ByteArray) := [(2, 4, 2, 0, ⟨#[63]⟩), (12, 12, 3, 0, ⟨#[63]⟩), (13, 13, 3, 0, ⟨#[63]⟩), (14, 14, 4, 0, ⟨#[63]⟩), (16, 16, 3, 0, ⟨#[63]⟩), (17, 17, 5, 0, ⟨#[63]⟩), (32, 36, 3, 0, ⟨#[63]⟩)]
def rbeside_any_l1 : List (Nat × Nat × Nat × Nat × ByteArray) := [(0, 0, 1, 0, ⟨#[63]⟩), (1, 1, 1, 0, ⟨#[63]⟩), (5, 5, 1, 0, ⟨#[63]⟩), (6, 10, 0, 0, ⟨#[63]⟩), (11, 11, 1, 0, ⟨#[63]⟩), (15, 15, 1, 0, ⟨#[63]⟩), (18, 25, 0, 0, ⟨#[63]⟩), (26, 26, 1, 0, ⟨#[63]⟩), (27, 27, 1, 0, ⟨#[63]⟩), (28, 31, 0, 0, ⟨#[63]⟩), (37, 39, 0, 0, ⟨#[63]⟩), (42, 43, 0, 0, ⟨#[63]⟩), (56, 57, 0, 0, ⟨#[63]⟩), (63, 63, 7, 0, ⟨#[62, 105]⟩), (64, 64, 7, 0, ⟨#[105, 62, 105]⟩), (65, 65, 8, 0, ⟨#[62, 105]⟩), (66, 66, 9, 0, ⟨#[62, 108]⟩), (67, 68, 0, 0, ⟨#[63]⟩), (69, 69, 1, 0, ⟨#[105, 62, 105]⟩), (70, 79, 1, 0, ⟨#[105, 105, 62, 105]⟩), (80, 80, 1, 0, ⟨#[108, 62, 105]⟩), (81, 90, 1, 0, ⟨#[108, 108, 62, 105]⟩), (91, 102, 0, 0, ⟨#[63]⟩), (103, 105, 1, 0, ⟨#[105, 62, 105]⟩), (106, 120, 1, 0, ⟨#[105, 105, 62, 105]⟩), (121, 123, 1, 0, ⟨#[108, 62, 108]⟩), (124, 138, 1, 0, ⟨#[108, 108, 62, 108]⟩), (139, 166, 0, 0, ⟨#[63]⟩), (167, 167, 1, 0, ⟨#[108, 62, 105]⟩), (168, 171, 0, 0, ⟨#[63]⟩), (172, 173, 1, 0, ⟨#[105, 62, 108]⟩), (174, 191, 0, 0, ⟨#[63]⟩), (192, 193, 1, 0, ⟨#[105, 62, 105]⟩), (194, 196, 1, 0, ⟨#[108, 62, 108]⟩), (197, 255, 0, 0, ⟨#[63]⟩)]
def rbeside_any_l2 : List (Nat × Nat × Nat × ByteArray) := [(40, 40, 6, ⟨#[105, 62, 105]⟩), (41, 41, 6, ⟨#[105, 62, 108]⟩), (44, 47, 6, ⟨#[105, 62, 105]⟩), (48, 53, 6, ⟨#[105, 62, 108]⟩), (54, 54, 6, ⟨#[105, 105, 62]⟩), (55, 55, 6, ⟨#[105, 108, 62]⟩), (58, 59, 6, ⟨#[105, 105, 62]⟩), (60, 62, 6, ⟨#[105, 108, 62]⟩)]
theorem rbeside_any_c : ∀ x : Fin 256, (rbeside_any_l0.any (fun c => decide (c.1 ≤ x.val ∧ x.val ≤ c.2.1 ∧ tB x.val = c.2.2.1 ∧ tW x.val = c.2.2.2.1 ∧ S (tkL (tT x.val)) = c.2.2.2.2)) || (rbeside_any_l1.any (fun c => decide (c.1 ≤ x.val ∧ x.val ≤ c.2.1 ∧ tB x.val = c.2.2.1 ∧ tW x.val = c.2.2.2.1 ∧ S (tkL (tT x.val)) = c.2.2.2.2)) || (rbeside_any_l2.any (fun c => decide (c.1 ≤ x.val ∧ x.val ≤ c.2.1 ∧ tB x.val = c.2.2.1 ∧ 0 < tW x.val ∧ S (tkL (tT x.val)) = c.2.2.2))))) = true := by decide +kernel
set_option maxRecDepth 100000 in
set_option maxHeartbeats 16000000 in
theorem rbeside_any (op : Nat) (hop : op < 256) (w : World) (hM : MaxL w) :
    Calls Tryz.prog 155 #[.int .u8 op] w fun e w' => e = .returned (.string (S (sdL (tB op)))) ∧ Below w.heap.size w w' := by
  have g := rbeside_any_c ⟨op, hop⟩
  simp only [Bool.or_eq_true, List.any_eq_true, decide_eq_true_eq] at g
  rcases g with ⟨c, hc, h1, h2, t1, t2, t3⟩ | ⟨c, hc, h1, h2, t1, t2, t3⟩ | ⟨c, hc, h1, h2, t1, t2, t3⟩
  · simp only [rbeside_any_l0, List.mem_cons, List.not_mem_nil, or_false] at hc
    rcases hc with rfl | rfl | rfl | rfl | rfl | rfl | rfl
    all_goals
      dsimp only at h1 h2 t1 t2 t3
      first | have e0 := bF op 0 (by omega) | have e0 := bT op 0 (by omega)
      first | have e1 := bF op 1 (by omega) | have e1 := bT op 1 (by omega)
      first | have e5 := bF op 5 (by omega) | have e5 := bT op 5 (by omega)
      first | have e11 := bF op 11 (by omega) | have e11 := bT op 11 (by omega)
      first | have e12 := bF op 12 (by omega) | have e12 := bT op 12 (by omega)
      first | have e13 := bF op 13 (by omega) | have e13 := bT op 13 (by omega)
      first | have e14 := bF op 14 (by omega) | have e14 := bT op 14 (by omega)
      first | have e15 := bF op 15 (by omega) | have e15 := bT op 15 (by omega)
      first | have e16 := bF op 16 (by omega) | have e16 := bT op 16 (by omega)
      first | have e17 := bF op 17 (by omega) | have e17 := bT op 17 (by omega)
      first | have e26 := bF op 26 (by omega) | have e26 := bT op 26 (by omega)
      first | have e27 := bF op 27 (by omega) | have e27 := bT op 27 (by omega)
      first | have e63 := bF op 63 (by omega) | have e63 := bT op 63 (by omega)
      first | have e64 := bF op 64 (by omega) | have e64 := bT op 64 (by omega)
      first | have e65 := bF op 65 (by omega) | have e65 := bT op 65 (by omega)
      first | have e66 := bF op 66 (by omega) | have e66 := bT op 66 (by omega)
      first | have g2e : (2 : Int) ≤ op := by omega | have g2e : ¬ (2 : Int) ≤ op := by omega
      first | have k4e : (op : Int) ≤ 4 := by omega | have k4e : ¬ (op : Int) ≤ 4 := by omega
      first | have g32e : (32 : Int) ≤ op := by omega | have g32e : ¬ (32 : Int) ≤ op := by omega
      first | have k36e : (op : Int) ≤ 36 := by omega | have k36e : ¬ (op : Int) ≤ 36 := by omega
      rw [t1]
      clear hM
      have HT := hid (fun w2 => takes_any op hop w2)
      rw [t3] at HT
      go_enter Tryz.func155, Tryz.ntmps155
      go_wp2_with (first | (go_at_call 166; refine HW.out.mono ?_; rintro r w1 ⟨rfl, hb1⟩; have B1 := hid hb1; clear hb1) | (go_at_call 78; refine (HT.out _).mono ?_; rintro r w2 ⟨rfl, rfl⟩))
      go_ret
      first | exact ⟨rfl, B1.out⟩ | exact ⟨rfl, Below.refl _ _⟩
  · simp only [rbeside_any_l1, List.mem_cons, List.not_mem_nil, or_false] at hc
    rcases hc with rfl | rfl | rfl | rfl | rfl | rfl | rfl | rfl | rfl | rfl | rfl | rfl | rfl | rfl | rfl | rfl | rfl | rfl | rfl | rfl | rfl | rfl | rfl | rfl | rfl | rfl | rfl | rfl | rfl | rfl | rfl | rfl | rfl | rfl | rfl
    all_goals
      dsimp only at h1 h2 t1 t2 t3
      first | have e0 := bF op 0 (by omega) | have e0 := bT op 0 (by omega)
      first | have e1 := bF op 1 (by omega) | have e1 := bT op 1 (by omega)
      first | have e5 := bF op 5 (by omega) | have e5 := bT op 5 (by omega)
      first | have e11 := bF op 11 (by omega) | have e11 := bT op 11 (by omega)
      first | have e12 := bF op 12 (by omega) | have e12 := bT op 12 (by omega)
      first | have e13 := bF op 13 (by omega) | have e13 := bT op 13 (by omega)
      first | have e14 := bF op 14 (by omega) | have e14 := bT op 14 (by omega)
      first | have e15 := bF op 15 (by omega) | have e15 := bT op 15 (by omega)
      first | have e16 := bF op 16 (by omega) | have e16 := bT op 16 (by omega)
      first | have e17 := bF op 17 (by omega) | have e17 := bT op 17 (by omega)
      first | have e26 := bF op 26 (by omega) | have e26 := bT op 26 (by omega)
      first | have e27 := bF op 27 (by omega) | have e27 := bT op 27 (by omega)
      first | have e63 := bF op 63 (by omega) | have e63 := bT op 63 (by omega)
      first | have e64 := bF op 64 (by omega) | have e64 := bT op 64 (by omega)
      first | have e65 := bF op 65 (by omega) | have e65 := bT op 65 (by omega)
      first | have e66 := bF op 66 (by omega) | have e66 := bT op 66 (by omega)
      first | have g2e : (2 : Int) ≤ op := by omega | have g2e : ¬ (2 : Int) ≤ op := by omega
      first | have k4e : (op : Int) ≤ 4 := by omega | have k4e : ¬ (op : Int) ≤ 4 := by omega
      first | have g32e : (32 : Int) ≤ op := by omega | have g32e : ¬ (32 : Int) ≤ op := by omega
      first | have k36e : (op : Int) ≤ 36 := by omega | have k36e : ¬ (op : Int) ≤ 36 := by omega
      rw [t1]
      have HW := hid (rwidth_any op hop w hM)
      rw [t2] at HW
      have HT := hid (fun w2 => takes_any op hop w2)
      rw [t3] at HT
      go_enter Tryz.func155, Tryz.ntmps155
      go_wp2_with (first | (go_at_call 166; refine HW.out.mono ?_; rintro r w1 ⟨rfl, hb1⟩; have B1 := hid hb1; clear hb1) | (go_at_call 78; refine (HT.out _).mono ?_; rintro r w2 ⟨rfl, rfl⟩))
      go_ret
      first | exact ⟨rfl, B1.out⟩ | exact ⟨rfl, Below.refl _ _⟩
  · simp only [rbeside_any_l2, List.mem_cons, List.not_mem_nil, or_false] at hc
    rcases hc with rfl | rfl | rfl | rfl | rfl | rfl | rfl | rfl
    all_goals
      dsimp only at h1 h2 t1 t2 t3
      first | have e0 := bF op 0 (by omega) | have e0 := bT op 0 (by omega)
      first | have e1 := bF op 1 (by omega) | have e1 := bT op 1 (by omega)
      first | have e5 := bF op 5 (by omega) | have e5 := bT op 5 (by omega)
      first | have e11 := bF op 11 (by omega) | have e11 := bT op 11 (by omega)
      first | have e12 := bF op 12 (by omega) | have e12 := bT op 12 (by omega)
      first | have e13 := bF op 13 (by omega) | have e13 := bT op 13 (by omega)
      first | have e14 := bF op 14 (by omega) | have e14 := bT op 14 (by omega)
      first | have e15 := bF op 15 (by omega) | have e15 := bT op 15 (by omega)
      first | have e16 := bF op 16 (by omega) | have e16 := bT op 16 (by omega)
      first | have e17 := bF op 17 (by omega) | have e17 := bT op 17 (by omega)
      first | have e26 := bF op 26 (by omega) | have e26 := bT op 26 (by omega)
      first | have e27 := bF op 27 (by omega) | have e27 := bT op 27 (by omega)
      first | have e63 := bF op 63 (by omega) | have e63 := bT op 63 (by omega)
      first | have e64 := bF op 64 (by omega) | have e64 := bT op 64 (by omega)
      first | have e65 := bF op 65 (by omega) | have e65 := bT op 65 (by omega)
      first | have e66 := bF op 66 (by omega) | have e66 := bT op 66 (by omega)
      first | have g2e : (2 : Int) ≤ op := by omega | have g2e : ¬ (2 : Int) ≤ op := by omega
      first | have k4e : (op : Int) ≤ 4 := by omega | have k4e : ¬ (op : Int) ≤ 4 := by omega
      first | have g32e : (32 : Int) ≤ op := by omega | have g32e : ¬ (32 : Int) ≤ op := by omega
      first | have k36e : (op : Int) ≤ 36 := by omega | have k36e : ¬ (op : Int) ≤ 36 := by omega
      rw [t1]
      have HW := hid (rwidth_any op hop w hM)
      have hp2 : (0 : Int) < (tW op : Nat) := by omega
      generalize tW op = W at *
      have HT := hid (fun w2 => takes_any op hop w2)
      rw [t3] at HT
      go_enter Tryz.func155, Tryz.ntmps155
      go_wp2_with (first | (go_at_call 166; refine HW.out.mono ?_; rintro r w1 ⟨rfl, hb1⟩; have B1 := hid hb1; clear hb1) | (go_at_call 78; refine (HT.out _).mono ?_; rintro r w2 ⟨rfl, rfl⟩))
      go_ret
      first | exact ⟨rfl, B1.out⟩ | exact ⟨rfl, Below.refl _ _⟩
end Go.Proofs.YtakfineljffoaaaGreatDoor
