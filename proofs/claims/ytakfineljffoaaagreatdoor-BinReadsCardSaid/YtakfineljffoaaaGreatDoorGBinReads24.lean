/-
  MODULES READ, the program's reader: throw, octet, fixed, number, signed, count, kind, done. Conditions: a text in the form's reach.
-/
import Derived.Test.YtakfineljffoaaaGreatDoorGBinReads2
import Derived.Test.YtakfineljffoaaaGreatDoorGBinReads11
import Derived.Test.YtakfineljffoaaaGreatDoorGBinReads23
import Derived.WalkLawsBesides
import Derived.Deep.RegionHeld3
namespace Go.Proofs.YtakfineljffoaaaGreatDoor
open Go.RowKit Go.Lib

/-- what is thrown up to Read -/
def wrongV (e : Int) : Value := .iface 42 (.agg #[.int .i64 e])
abbrev BrB (w : World) (B : Nat) (t : ByteArray) (a : Nat) : Prop := Blk w B 46 [.string t, .int .i64 (a : Int)]
/-- what a step of the reader leaves: its answer and where it stands, or the fault thrown -/
def PR (B : Nat) (t : ByteArray) (v : Value) (s : ByteArray × Int) (w : World) (e : Ending) (w' : World) : Prop :=
  Touch (fun k => k = B) w w' ∧ ((s.2 = 0 ∧ e = .returned v ∧ ∃ a, a ≤ t.size ∧ s.1 = left t a ∧ BrB w' B t a) ∨ (s.2 ≠ 0 ∧ e = .panicked [{ v := wrongV s.2, recovered := false }]))
set_option maxRecDepth 100000 in
theorem throw_no (w : World) (v : Value) (e : Int) :
    Calls Tryz.prog 14 #[v, .bool false, .int .i64 e] w fun r w' => r = .returned (.tuple #[]) ∧ w' = w := by
  go_enter Tryz.func14, Tryz.ntmps14
  go_wp2_with fail
  go_end0
  exact ⟨rfl, rfl⟩
set_option maxRecDepth 100000 in
theorem throw_yes (w : World) (v : Value) (e : Int) :
    Calls Tryz.prog 14 #[v, .bool true, .int .i64 e] w fun r w' => r = .panicked [{ v := wrongV e, recovered := false }] ∧ w' = w := by
  go_enter Tryz.func14, Tryz.ntmps14
  go_wp2_with fail
  exact ⟨rfl, rfl, rfl⟩
theorem left_end (t : ByteArray) (a : Nat) (h : t.size ≤ a) : (left t a).size = 0 := by rw [left_size]; omega
set_option maxRecDepth 100000 in
set_option maxHeartbeats 2000000 in
theorem boctet_any (w : World) (B : Nat) (t : ByteArray) (a : Nat) (h : BrB w B t a) (ha : a ≤ t.size) (hs : t.size ≤ 1000000000) :
    Calls Tryz.prog 13 #[.pointer (some ⟨B, 0, none⟩)] w (PR B t (.int .u8 ((octM (left t a, 0)).1 : Int)) (octM (left t a, 0)).2 w) := by
  have H := hid h
  have b0 := h.cell (i := 0) rfl
  have b1 := h.cell (i := 1) rfl
  have bf := h.free
  have d0 : w.drew.cell? ⟨B, 0, none⟩ = some (.string t) := b0
  have d1 : w.drew.cell? ⟨B, 1, none⟩ = some (.int .i64 (a : Int)) := b1
  clear h
  by_cases hz : t.size ≤ a
  · have hz1 : decide ((t.size : Int) ≤ (a : Int)) = true := decide_eq_true (by omega)
    have hz2 : decide (t.size ≤ a) = true := decide_eq_true hz
    have HO := hid (show octM (left t a, 0) = (0, (left t a, 3)) from by unfold octM; rw [if_neg (by simp), dif_neg (by rw [left_size]; simp; omega)])
    rw [HO.out]
    clear hz
    go_enter Tryz.func13, Tryz.ntmps13
    go_wp2_with fail
    refine wp_region_tail (S := (fun w' => w'.cell? ⟨B, 0, none⟩ = some (.string t) ∧ w'.cell? ⟨B, 1, none⟩ = some (.int .i64 (a : Int)))) 11 (by kernel_rfl) (by kernel_rfl) ?_ (fun hHeld => ?_)
    · exact ⟨d0, d1⟩
    repeat ((first | refine tk 0 ?_ rfl ?_ ?_ | refine tk 1 ?_ rfl ?_ ?_ | refine tk 2 ?_ rfl ?_ ?_ | refine tk 3 ?_ rfl ?_ ?_ | refine tk 4 ?_ rfl ?_ ?_ | refine tk 5 ?_ rfl ?_ ?_ | refine tk 6 ?_ rfl ?_ ?_ | refine tk 7 ?_ rfl ?_ ?_ | refine tk 8 ?_ rfl ?_ ?_ | refine tk 9 ?_ rfl ?_ ?_ | refine tk 10 ?_ rfl ?_ ?_); rotate_left; (intro wy hSw; (try dsimp only at hSw); (go_simp <;> with_reducible rfl)); (try simp only [List.getElem_toArray, List.getElem_cons_zero, List.getElem_cons_succ, Act.put, List.setIfInBounds_toArray, List.set_cons_zero, List.set_cons_succ]))
    refine wpT_done (by kernel_rfl) ?_
    go_wp2_with fail
    refine (throw_yes _ _ _).mono ?_
    rintro r w1 ⟨rfl, rfl⟩
    go_wp2_with fail
    exact ⟨rfl, Touch.of_below (Below.refl _ _).drew, .inr ⟨(by decide : (3 : Int) ≠ 0), rfl⟩⟩
  · have hlt : a < t.size := by omega
    have hz1 : decide ((t.size : Int) ≤ (a : Int)) = false := decide_eq_false (by omega)
    have hz2 : decide (t.size ≤ a) = false := decide_eq_false hz
    have HO := hid (show octM (left t a, 0) = ((t[a]'hlt).toNat, (left t (a + 1), 0)) from by
      unfold octM
      rw [if_neg (by simp), dif_pos (by rw [left_size]; omega), left_get t a hlt, left_left])
    have hlt2 : (a : Int) < (t.size : Int) := by omega
    have hge : (0 : Int) ≤ (a : Int) := by omega
    have RI := fun wx => (run_index_string wx 9 t .i64 (a : Int) Tryz.underlying9).trans (dif_pos (show (0 : Int) ≤ (a : Int) ∧ (a : Int) < (t.size : Int) from ⟨hge, hlt2⟩))
    simp only [Int.toNat_natCast] at RI
    rw [HO.out]
    generalize (t[a]'hlt).toNat = V at *
    have ha9 : (a : Int) ≤ 1000000000 := by omega
    have ew : IntKind.i64.wrap (((a + 1 : Nat) : Int) - 1) = (a : Int) := by rw [IntKind.wrap_i64]; omega
    have ewa : IntKind.i64.wrap (a : Int) = (a : Int) := IntWalk.i64_in _ (by omega)
    have HN := hid (Blk.set (Blk.drew H.out 1) 1 (.int .i64 ((a + 1 : Nat) : Int)))
    clear hz HO
    go_enter Tryz.func13, Tryz.ntmps13
    go_wp2_with fail
    refine wp_region_tail (S := (fun w' => w'.cell? ⟨B, 0, none⟩ = some (.string t) ∧ w'.cell? ⟨B, 1, none⟩ = some (.int .i64 (a : Int)))) 11 (by kernel_rfl) (by kernel_rfl) ?_ (fun hHeld => ?_)
    · exact ⟨d0, d1⟩
    repeat ((first | refine tk 0 ?_ rfl ?_ ?_ | refine tk 1 ?_ rfl ?_ ?_ | refine tk 2 ?_ rfl ?_ ?_ | refine tk 3 ?_ rfl ?_ ?_ | refine tk 4 ?_ rfl ?_ ?_ | refine tk 5 ?_ rfl ?_ ?_ | refine tk 6 ?_ rfl ?_ ?_ | refine tk 7 ?_ rfl ?_ ?_ | refine tk 8 ?_ rfl ?_ ?_ | refine tk 9 ?_ rfl ?_ ?_ | refine tk 10 ?_ rfl ?_ ?_); rotate_left; (intro wy hSw; (try dsimp only at hSw); (go_simp <;> with_reducible rfl)); (try simp only [List.getElem_toArray, List.getElem_cons_zero, List.getElem_cons_succ, Act.put, List.setIfInBounds_toArray, List.set_cons_zero, List.set_cons_succ]))
    refine wpT_done (by kernel_rfl) ?_
    go_wp2_with fail
    refine (throw_no _ _ _).mono ?_
    rintro r w1 ⟨rfl, rfl⟩
    have e0 := HN.out.cell (i := 0) rfl
    have e1 := HN.out.cell (i := 1) rfl
    have n0 := (HN.out.drew 1).cell (i := 0) rfl
    have n1 := (HN.out.drew 1).cell (i := 1) rfl
    go_wp2_with fail
    refine wp_region_tail (S := (fun w' => w'.cell? ⟨B, 0, none⟩ = some (.string t) ∧ w'.cell? ⟨B, 1, none⟩ = some (.int .i64 ((a + 1 : Nat) : Int)))) 10 (by kernel_rfl) (by kernel_rfl) ?_ (fun hHeld => ?_)
    · exact ⟨n0, n1⟩
    repeat ((first | refine tk 0 ?_ rfl ?_ ?_ | refine tk 1 ?_ rfl ?_ ?_ | refine tk 2 ?_ rfl ?_ ?_ | refine tk 3 ?_ rfl ?_ ?_ | refine tk 4 ?_ rfl ?_ ?_ | refine tk 5 ?_ rfl ?_ ?_ | refine tk 6 ?_ rfl ?_ ?_ | refine tk 7 ?_ rfl ?_ ?_ | refine tk 8 ?_ rfl ?_ ?_ | refine tk 9 ?_ rfl ?_ ?_); rotate_left; (intro wy hSw; (try dsimp only at hSw); (go_simp <;> with_reducible rfl)); (try simp only [List.getElem_toArray, List.getElem_cons_zero, List.getElem_cons_succ, Act.put, List.setIfInBounds_toArray, List.set_cons_zero, List.set_cons_succ]))
    refine wpT_done (by kernel_rfl) ?_
    go_wp2_with fail
    go_ret
    exact ⟨((Touch.of_below (Below.refl _ _).drew).trans (Touch.setCell (F := fun k => k = B) (a := ⟨B, 1, none⟩) rfl _)).trans (Touch.of_below (Below.refl _ _).drew), .inl ⟨rfl, rfl, a + 1, by omega, rfl, HN.out.drew 1⟩⟩
set_option maxRecDepth 100000 in
set_option maxHeartbeats 2000000 in
theorem bnumber_any (w : World) (B : Nat) (t : ByteArray) (a : Nat) (h : BrB w B t a) (ha : a ≤ t.size) (hs : t.size ≤ 1000000000) :
    Calls Tryz.prog 47 #[.pointer (some ⟨B, 0, none⟩)] w (PR B t (.int .i64 (numM (left t a, 0)).1) (numM (left t a, 0)).2 w) := by
  have hls := left_size t a
  have hf := ru_facts (b := 32) (.inl rfl) (left t a).data.toList 0 0 (by decide) (by decide)
  have hrd := fun wx => readU_ok (left t a) 32 wx (okSc_max (s := (left t a, 0)) (by unfold okSc; simp only; omega)) (.inl rfl)
  have hlen : (left t a).data.toList.length = (left t a).size := by simp
  have hll := left_left t a
  unfold numM
  unfold tup3 at hrd
  simp only at hf hrd ⊢
  rw [if_neg (by simp)]
  generalize ru 32 (left t a).data.toList 0 0 = q at *
  obtain ⟨n, k, e⟩ := q
  simp only at hf hrd ⊢
  have hk : a + k ≤ t.size := by
    by_cases h0 : e = 0
    · have := (hf.1 h0).2.1; omega
    · have := (hf.2 h0).2; omega
  have hw : wrap64 (n : Int) = n := by
    have hn : n < 4294967296 := by
      by_cases h0 : e = 0
      · have := (hf.1 h0).2.2; have e2 : (2 : Nat) ^ 32 = 4294967296 := by decide
        omega
      · have := (hf.2 h0).1; omega
    unfold wrap64; omega
  have hwi : IntKind.i64.wrap (n : Int) = n := by
    rw [IntKind.wrap_i64]; unfold wrap64 at hw; exact hw
  have H := hid h
  have d0 : w.drew.cell? ⟨B, 0, none⟩ = some (.string t) := h.cell (i := 0) rfl
  have d1 : w.drew.cell? ⟨B, 1, none⟩ = some (.int .i64 (a : Int)) := h.cell (i := 1) rfl
  have hk1 : (a : Int) ≤ (t.size : Int) := by omega
  have hk0 : (0 : Int) ≤ (a : Int) := by omega
  have hx : ¬ (9223372036854775807 < t.size) := by omega
  have e1 : wrap64 ((a : Int) + (k : Int)) = ((a + k : Nat) : Int) := by unfold wrap64; omega
  have e2 : IntKind.i64.wrap ((a : Int) + (k : Int)) = (a : Int) + (k : Int) := IntWalk.i64_in _ (by omega)
  have HL := hid (And.intro (hll k) hk)
  have HRD := hid hrd
  simp only [show ((32 : Nat) : Int) = 32 from rfl] at HRD
  unfold left at HRD
  have D := hid (show BrB w.drew B t a from Blk.drew H.out 1)
  have c1 := D.out.cell (i := 1) rfl
  have cf := D.out.free 1
  have HX := hid (D.out.set 1 (.int .i64 ((a : Int) + (k : Int))))
  have hb1 : (a : Int) ≤ 1000000000 := by omega
  have hb2 : (k : Int) ≤ 1000000000 := by omega
  by_cases h0 : e = 0
  · subst h0
    clear hf hrd h hlen hll
    go_enter Tryz.func47, Tryz.ntmps47
    go_wp2_with fail
    go_region_held3 (fun w' => w'.cell? ⟨B, 0, none⟩ = some (.string t) ∧ w'.cell? ⟨B, 1, none⟩ = some (.int .i64 (a : Int))) (first | exact ⟨d0, d1⟩ | go_keep) (first | (go_at_call 84; (with_reducible refine (HRD.out _).mono ?_); rintro r w5 ⟨rfl, rfl⟩))
    go_wp2_with fail
    refine (throw_no _ _ _).mono ?_
    rintro r w1 ⟨rfl, rfl⟩
    go_wp2_with fail
    go_ret
    exact ⟨(Touch.of_below (num_below (n := 1) (Below.refl _ _))).trans (Touch.setCell (F := fun j => j = B) (a := ⟨B, 1, none⟩) rfl _), .inl ⟨rfl, rfl, a + k, HL.out.2, HL.out.1, HX.out⟩⟩
  · have hne : ((e : Int) != 0) = true := by rw [bne_iff_ne]; omega
    have HE := hid (show (e : Int) ≠ 0 from by omega)
    clear hf hrd h hlen hll h0
    go_enter Tryz.func47, Tryz.ntmps47
    go_wp2_with fail
    go_region_held3 (fun w' => w'.cell? ⟨B, 0, none⟩ = some (.string t) ∧ w'.cell? ⟨B, 1, none⟩ = some (.int .i64 (a : Int))) (first | exact ⟨d0, d1⟩ | go_keep) (first | (go_at_call 84; (with_reducible refine (HRD.out _).mono ?_); rintro r w5 ⟨rfl, rfl⟩))
    go_wp2_with fail
    refine (throw_yes _ _ _).mono ?_
    rintro r w1 ⟨rfl, rfl⟩
    go_wp2_with fail
    exact ⟨rfl, Touch.of_below (num_below (n := 1) (Below.refl _ _)), .inr ⟨HE.out, rfl⟩⟩
set_option maxRecDepth 100000 in
set_option maxHeartbeats 2000000 in
theorem bsigned_any (w : World) (B : Nat) (t : ByteArray) (a : Nat) (bits : Nat) (hbits : bits = 32 ∨ bits = 64) (h : BrB w B t a) (ha : a ≤ t.size) (hs : t.size ≤ 1000000000) :
    Calls Tryz.prog 87 #[.pointer (some ⟨B, 0, none⟩), .int .i64 bits] w (PR B t (.int .i64 (sgnM bits (left t a, 0)).1) (sgnM bits (left t a, 0)).2 w) := by
  have hls := left_size t a
  have hf := rs_facts hbits (left t a).data.toList 0 0 (by decide) (by omega)
  have hrd := fun wx => readS_ok (left t a) bits wx (okSc_max (s := (left t a, 0)) (by unfold okSc; simp only; omega)) hbits
  have hlen : (left t a).data.toList.length = (left t a).size := by simp
  have hll := left_left t a
  unfold sgnM
  unfold tupS at hrd
  simp only at hf hrd ⊢
  rw [if_neg (by simp)]
  generalize rs bits (left t a).data.toList 0 0 = q at *
  obtain ⟨n, k, e⟩ := q
  simp only at hf hrd ⊢
  have hk : a + k ≤ t.size := by
    by_cases h0 : e = 0
    · have := hf.1 h0; omega
    · have := hf.2 h0; omega
  have H := hid h
  have d0 : w.drew.cell? ⟨B, 0, none⟩ = some (.string t) := h.cell (i := 0) rfl
  have d1 : w.drew.cell? ⟨B, 1, none⟩ = some (.int .i64 (a : Int)) := h.cell (i := 1) rfl
  have hk1 : (a : Int) ≤ (t.size : Int) := by omega
  have hk0 : (0 : Int) ≤ (a : Int) := by omega
  have hx : ¬ (9223372036854775807 < t.size) := by omega
  have e1 : wrap64 ((a : Int) + (k : Int)) = ((a + k : Nat) : Int) := by unfold wrap64; omega
  have e2 : IntKind.i64.wrap ((a : Int) + (k : Int)) = (a : Int) + (k : Int) := IntWalk.i64_in _ (by omega)
  have HL := hid (And.intro (hll k) hk)
  have HRD := hid hrd
  unfold left at HRD
  have D := hid (show BrB w.drew B t a from Blk.drew H.out 1)
  have c1 := D.out.cell (i := 1) rfl
  have cf := D.out.free 1
  have HX := hid (D.out.set 1 (.int .i64 ((a : Int) + (k : Int))))
  have hb1 : (a : Int) ≤ 1000000000 := by omega
  have hb2 : (k : Int) ≤ 1000000000 := by omega
  by_cases h0 : e = 0
  · subst h0
    clear hf hrd h hlen hll
    go_enter Tryz.func87, Tryz.ntmps87
    go_wp2_with fail
    go_region_held3 (fun w' => w'.cell? ⟨B, 0, none⟩ = some (.string t) ∧ w'.cell? ⟨B, 1, none⟩ = some (.int .i64 (a : Int))) (first | exact ⟨d0, d1⟩ | go_keep) (first | (go_at_call 117; (with_reducible refine (HRD.out _).mono ?_); rintro r w5 ⟨rfl, rfl⟩))
    go_wp2_with fail
    refine (throw_no _ _ _).mono ?_
    rintro r w1 ⟨rfl, rfl⟩
    go_wp2_with fail
    go_ret
    exact ⟨(Touch.of_below (num_below (n := 1) (Below.refl _ _))).trans (Touch.setCell (F := fun j => j = B) (a := ⟨B, 1, none⟩) rfl _), .inl ⟨rfl, rfl, a + k, HL.out.2, HL.out.1, HX.out⟩⟩
  · have hne : ((e : Int) != 0) = true := by rw [bne_iff_ne]; omega
    have HE := hid (show (e : Int) ≠ 0 from by omega)
    clear hf hrd h hlen hll h0
    go_enter Tryz.func87, Tryz.ntmps87
    go_wp2_with fail
    go_region_held3 (fun w' => w'.cell? ⟨B, 0, none⟩ = some (.string t) ∧ w'.cell? ⟨B, 1, none⟩ = some (.int .i64 (a : Int))) (first | exact ⟨d0, d1⟩ | go_keep) (first | (go_at_call 117; (with_reducible refine (HRD.out _).mono ?_); rintro r w5 ⟨rfl, rfl⟩))
    go_wp2_with fail
    refine (throw_yes _ _ _).mono ?_
    rintro r w1 ⟨rfl, rfl⟩
    go_wp2_with fail
    exact ⟨rfl, Touch.of_below (num_below (n := 1) (Below.refl _ _)), .inr ⟨HE.out, rfl⟩⟩
/-- a byte that must be there -/
def mustM (b e : Int) (s : ByteArray × Int) : ByteArray × Int := sayM (decide (((octM s).1 : Int) ≠ b)) e (octM s).2
def kndM (s : ByteArray × Int) : Int × ByteArray × Int := (((octM s).1 : Int), sayM (!isK ((octM s).1 : Int)) 6 (octM s).2)
theorem say_on {is : Bool} {e : Int} {s : ByteArray × Int} (h : s.2 ≠ 0) : sayM is e s = s := by unfold sayM; exact if_neg (fun g => h g.2)
theorem say_no {e : Int} {s : ByteArray × Int} : sayM false e s = s := by unfold sayM; exact if_neg (fun g => Bool.noConfusion g.1)
theorem say_yes {e : Int} {s : ByteArray × Int} (h : s.2 = 0) : sayM true e s = (s.1, e) := by unfold sayM; exact if_pos ⟨rfl, h⟩
set_option maxRecDepth 100000 in
set_option maxHeartbeats 2000000 in
theorem bfixed_any (w : World) (B : Nat) (t : ByteArray) (a : Nat) (b e : Int) (he : e ≠ 0) (h : BrB w B t a) (ha : a ≤ t.size) (hs : t.size ≤ 1000000000) :
    Calls Tryz.prog 12 #[.pointer (some ⟨B, 0, none⟩), .int .u8 b, .int .i64 e] w (PR B t (.tuple #[]) (mustM b e (left t a, 0)) w) := by
  have HC := hid (boctet_any w B t a h ha hs)
  clear h
  go_enter Tryz.func12, Tryz.ntmps12
  go_wp2_with fail
  refine HC.out.mono ?_
  rintro r w1 ⟨ht, hor⟩
  have HT := hid ht
  clear ht
  obtain ⟨v, s, hv⟩ : ∃ v s, octM (left t a, 0) = (v, s) := ⟨_, _, rfl⟩
  have HM := hid (show mustM b e (left t a, 0) = sayM (decide ((v : Int) ≠ b)) e s from by unfold mustM; rw [hv])
  rw [hv] at hor
  clear hv
  rcases hor with ⟨hz, rfl, a2, ha2, hl, hb2⟩ | ⟨hnz, rfl⟩
  · have HB := hid hb2
    by_cases hq : (v : Int) = b
    · have hne : (((v : Nat) : Int) != b) = false := by rw [hq]; simp
      have HS := hid (show mustM b e (left t a, 0) = s from by rw [HM.out, decide_eq_false (fun g => g hq)]; exact say_no)
      have HR := hid (And.intro hz hl)
      clear hb2 hq hz hl
      go_wp2_with fail
      refine (throw_no _ _ _).mono ?_
      rintro r w2 ⟨rfl, rfl⟩
      go_wp2_with fail
      go_end0
      exact ⟨HT.out, .inl ⟨by rw [HS.out]; exact HR.out.1, rfl, a2, ha2, by rw [HS.out]; exact HR.out.2, HB.out⟩⟩
    · have hne : (((v : Nat) : Int) != b) = true := by rw [bne_iff_ne]; exact hq
      have HS := hid (show mustM b e (left t a, 0) = (s.1, e) from by rw [HM.out, decide_eq_true hq]; exact say_yes hz)
      have HE := hid he
      clear hb2 hq hz hl he
      go_wp2_with fail
      refine (throw_yes _ _ _).mono ?_
      rintro r w2 ⟨rfl, rfl⟩
      go_wp2_with fail
      exact ⟨rfl, HT.out, .inr ⟨by rw [HS.out]; exact HE.out, by rw [HS.out]⟩⟩
  · have HS := hid (show mustM b e (left t a, 0) = s from by rw [HM.out]; exact say_on hnz)
    have HE := hid hnz
    clear hnz he
    go_wp2_with fail
    exact ⟨rfl, HT.out, .inr ⟨by rw [HS.out]; exact HE.out, by rw [HS.out]⟩⟩
set_option maxRecDepth 100000 in
set_option maxHeartbeats 2000000 in
theorem bcount_any (w : World) (B : Nat) (t : ByteArray) (a : Nat) (most : Int) (h : BrB w B t a) (ha : a ≤ t.size) (hs : t.size ≤ 1000000000) :
    Calls Tryz.prog 48 #[.pointer (some ⟨B, 0, none⟩), .int .i64 most] w (PR B t (.int .i64 (cntM most (left t a, 0)).1) (cntM most (left t a, 0)).2 w) := by
  have hf := numM_facts (left t a, 0)
  have HC := hid (bnumber_any w B t a h ha hs)
  clear h
  go_enter Tryz.func48, Tryz.ntmps48
  go_wp2_with fail
  refine HC.out.mono ?_
  rintro r w1 ⟨ht, hor⟩
  have HT := hid ht
  clear ht
  obtain ⟨v, s, hv⟩ : ∃ v s, numM (left t a, 0) = (v, s) := ⟨_, _, rfl⟩
  have HM := hid (show cntM most (left t a, 0) = if s.2 ≠ 0 then (0, s) else if most < v then (0, (s.1, 2)) else (v, s) from by unfold cntM; rw [hv])
  rw [hv] at hor hf
  clear hv
  rcases hor with ⟨hz, rfl, a2, ha2, hl, hb2⟩ | ⟨hnz, rfl⟩
  · have HB := hid hb2
    by_cases hq : most < v
    · have hd : decide (most < v) = true := decide_eq_true hq
      have HS := hid (show cntM most (left t a, 0) = (0, (s.1, 2)) from by rw [HM.out, if_neg (fun g => g hz), if_pos hq])
      clear hb2 hz hl hf
      go_wp2_with fail
      refine (throw_yes _ _ _).mono ?_
      rintro r w2 ⟨rfl, rfl⟩
      go_wp2_with fail
      exact ⟨rfl, HT.out, .inr ⟨by rw [HS.out]; exact (by decide : (2 : Int) ≠ 0), by rw [HS.out]⟩⟩
    · have hd : decide (most < v) = false := decide_eq_false hq
      have HS := hid (show cntM most (left t a, 0) = (v, s) from by rw [HM.out, if_neg (fun g => g hz), if_neg hq])
      have HR := hid (And.intro hz hl)
      clear hb2 hz hl hf
      go_wp2_with fail
      refine (throw_no _ _ _).mono ?_
      rintro r w2 ⟨rfl, rfl⟩
      go_wp2_with fail
      go_ret
      exact ⟨HT.out, .inl ⟨by rw [HS.out]; exact HR.out.1, by rw [HS.out]; rfl, a2, ha2, by rw [HS.out]; exact HR.out.2, HB.out⟩⟩
  · have HS := hid (show cntM most (left t a, 0) = (0, s) from by rw [HM.out, if_pos hnz])
    have HE := hid hnz
    clear hnz hf
    go_wp2_with fail
    exact ⟨rfl, HT.out, .inr ⟨by rw [HS.out]; exact HE.out, by rw [HS.out]⟩⟩
set_option maxRecDepth 100000 in
set_option maxHeartbeats 2000000 in
theorem bkind_any (w : World) (B : Nat) (t : ByteArray) (a : Nat) (h : BrB w B t a) (ha : a ≤ t.size) (hs : t.size ≤ 1000000000) :
    Calls Tryz.prog 85 #[.pointer (some ⟨B, 0, none⟩)] w (PR B t (.int .u8 (kndM (left t a, 0)).1) (kndM (left t a, 0)).2 w) := by
  have HC := hid (boctet_any w B t a h ha hs)
  clear h
  go_enter Tryz.func85, Tryz.ntmps85
  go_wp2_with fail
  refine HC.out.mono ?_
  rintro r w1 ⟨ht, hor⟩
  have HT := hid ht
  clear ht
  obtain ⟨v, s, hv⟩ : ∃ v s, octM (left t a, 0) = (v, s) := ⟨_, _, rfl⟩
  have HM := hid (show kndM (left t a, 0) = ((v : Int), sayM (!isK (v : Int)) 6 s) from by unfold kndM; rw [hv])
  rw [hv] at hor
  clear hv
  rcases hor with ⟨hz, rfl, a2, ha2, hl, hb2⟩ | ⟨hnz, rfl⟩
  · have HB := hid hb2
    have HK := hid (fun wx => isKind_any (v : Int) wx)
    cases hq : isK (v : Int)
    · rw [hq] at HK
      have HS := hid (show kndM (left t a, 0) = ((v : Int), (s.1, 6)) from by rw [HM.out, hq]; exact congrArg (Prod.mk _) (say_yes hz))
      clear hb2 hq hz hl
      go_wp2_with fail
      refine (HK.out _).mono ?_
      rintro r w2 ⟨rfl, rfl⟩
      go_wp2_with fail
      refine (throw_yes _ _ _).mono ?_
      rintro r w2 ⟨rfl, rfl⟩
      go_wp2_with fail
      exact ⟨rfl, HT.out, .inr ⟨by rw [HS.out]; exact (by decide : (6 : Int) ≠ 0), by rw [HS.out]⟩⟩
    · rw [hq] at HK
      have HS := hid (show kndM (left t a, 0) = ((v : Int), s) from by rw [HM.out, hq]; exact congrArg (Prod.mk _) say_no)
      have HR := hid (And.intro hz hl)
      clear hb2 hq hz hl
      go_wp2_with fail
      refine (HK.out _).mono ?_
      rintro r w2 ⟨rfl, rfl⟩
      go_wp2_with fail
      refine (throw_no _ _ _).mono ?_
      rintro r w2 ⟨rfl, rfl⟩
      go_wp2_with fail
      go_ret
      exact ⟨HT.out, .inl ⟨by rw [HS.out]; exact HR.out.1, by rw [HS.out]; rfl, a2, ha2, by rw [HS.out]; exact HR.out.2, HB.out⟩⟩
  · have HS := hid (show kndM (left t a, 0) = ((v : Int), s) from by rw [HM.out]; exact congrArg (Prod.mk _) (say_on hnz))
    have HE := hid hnz
    clear hnz
    go_wp2_with fail
    exact ⟨rfl, HT.out, .inr ⟨by rw [HS.out]; exact HE.out, by rw [HS.out]⟩⟩
end Go.Proofs.YtakfineljffoaaaGreatDoor
