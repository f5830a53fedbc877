/-
  THE REFERENCE's CURSOR: over, say, skip, at, num, signed. Conditions: lengths in the form's reach.
-/
import Derived.Test.YtakfineljffoaaaGreatDoorGBinReads3
import Derived.Test.YtakfineljffoaaaGreatDoorGBinReads6
import Derived.Test.YtakfineljffoaaaGreatDoorGBinReads7
import Derived.Test.YtakfineljffoaaaGreatDoorGBinReads9
namespace Go.Proofs.YtakfineljffoaaaGreatDoor
open Go.RowKit Go.Lib
attribute [local go_sem ↓] Go.wp_at_zero Go.wp_at_succ

def okSc (s : ByteArray × Int) : Prop := s.1.size ≤ 140737488351232
abbrev CuB (w : World) (B : Nat) (all : Int) (s : ByteArray × Int) : Prop := Blk w B 58 [.string s.1, .int .i64 all, .int .i64 s.2]
abbrev ToC (B : Nat) (w w' : World) : Prop := Touch (fun k => k = B) w w'
theorem okSc_max {s : ByteArray × Int} (h : okSc s) : s.1.size ≤ maxLen := by unfold okSc at h; unfold maxLen; omega
/-- a fault is said -/
def sayM (is : Bool) (e : Int) (s : ByteArray × Int) : ByteArray × Int := if is = true ∧ s.2 = 0 then (s.1, e) else s
theorem num_below {W w : World} {B n : Nat} (h : Below B W w) : Below B W (w.drewN n) := ⟨h.os, h.tape, h.output, h.size, h.block⟩

set_option maxRecDepth 100000 in
theorem cover_any (t : ByteArray) (w : World) : Calls Tryz.prog 18 #[.string t] w fun e w' => e = .returned (.pointer (some ⟨w.heap.size, 0, none⟩)) ∧ CuB w' w.heap.size t.size (t, 0) ∧ Below w.heap.size w w' := by
  go_enter Tryz.func18, Tryz.ntmps18
  go_wp2_with fail
  go_ret
  exact ⟨rfl, Blk.new w _ _ _ rfl, (Below.refl _ _).alloc (Nat.le_refl _) _⟩

set_option maxRecDepth 100000 in
set_option maxHeartbeats 1000000 in
theorem csay_any (w : World) (B : Nat) (all : Int) (s : ByteArray × Int) (is : Bool) (e : Int) (h : CuB w B all s) :
    Calls Tryz.prog 21 #[.pointer (some ⟨B, 0, none⟩), .bool is, .int .i64 e] w fun r w' => r = .returned (.tuple #[]) ∧ CuB w' B all (sayM is e s) ∧ ToC B w w' := by
  obtain ⟨rest, bad⟩ := s
  have H := hid h
  have b2 := h.cell (i := 2) rfl
  have bf := h.free 2
  clear h
  cases is with
  | false =>
    rw [show sayM false e (rest, bad) = (rest, bad) from if_neg (by simp)]
    go_enter Tryz.func21, Tryz.ntmps21
    go_wp2_with fail
    go_end0
    exact ⟨rfl, H.out, Touch.refl _ _⟩
  | true =>
    by_cases hb : bad = 0
    · subst hb
      rw [show sayM true e (rest, 0) = (rest, e) from if_pos ⟨rfl, rfl⟩]
      have H2 := hid (Blk.set H.out 2 (.int .i64 e))
      go_enter Tryz.func21, Tryz.ntmps21
      go_wp2_with fail
      go_end0
      exact ⟨rfl, H2.out, Touch.setCell (F := fun j => j = B) (a := ⟨B, 2, none⟩) rfl _⟩
    · rw [show sayM true e (rest, bad) = (rest, bad) from if_neg (fun h => hb h.2)]
      have hb2 : (bad == 0) = false := by simpa using hb
      go_enter Tryz.func21, Tryz.ntmps21
      go_wp2_with fail
      go_end0
      exact ⟨rfl, H.out, Touch.refl _ _⟩

/-- what skip leaves -/
def skipM (k : Nat) (e : Int) (s : ByteArray × Int) : Bool × ByteArray × Int := if s.2 ≠ 0 then (false, s) else if e ≠ 0 then (false, (s.1, e)) else (true, (s.1.extract k s.1.size, 0))
set_option maxRecDepth 100000 in
set_option maxHeartbeats 1000000 in
theorem cskip_any (w : World) (B : Nat) (all : Int) (s : ByteArray × Int) (k : Nat) (e : Int) (h : CuB w B all s) (hk : s.2 = 0 → e = 0 → k ≤ s.1.size) (hs : okSc s) :
    Calls Tryz.prog 55 #[.pointer (some ⟨B, 0, none⟩), .int .i64 k, .int .i64 e] w fun r w' => r = .returned (.bool (skipM k e s).1) ∧ CuB w' B all (skipM k e s).2 ∧ ToC B w w' := by
  have HS := hid (csay_any w B all s (e != 0) e h)
  obtain ⟨rest, bad⟩ := s
  unfold okSc at hs
  unfold skipM
  unfold sayM at HS
  simp only at hk hs HS ⊢
  clear h
  by_cases hb : bad ≠ 0
  · rw [if_pos hb]
    rw [if_neg (fun g => hb g.2)] at HS
    have hb2 : (bad != 0) = true := by simpa using hb
    clear hk hb
    go_enter Tryz.func55, Tryz.ntmps55
    go_wp2_with fail
    refine HS.out.mono ?_
    rintro r w1 ⟨rfl, h1, h2⟩
    have b2 := h1.cell (i := 2) rfl
    have HX := hid (And.intro h1 h2)
    clear h1 h2
    go_wp2_with fail
    go_ret
    exact ⟨rfl, HX.out.1, HX.out.2⟩
  · rw [if_neg hb]
    have hb0 : bad = 0 := Classical.byContradiction hb
    subst hb0
    clear hb
    by_cases he : e ≠ 0
    · rw [if_pos he]
      have he2 : (e != 0) = true := by simpa using he
      rw [if_pos ⟨he2, rfl⟩, he2] at HS
      clear hk he
      go_enter Tryz.func55, Tryz.ntmps55
      go_wp2_with fail
      refine HS.out.mono ?_
      rintro r w1 ⟨rfl, h1, h2⟩
      have b2 := h1.cell (i := 2) rfl
      have HX := hid (And.intro h1 h2)
      clear h1 h2
      go_wp2_with fail
      go_ret
      exact ⟨rfl, HX.out.1, HX.out.2⟩
    · rw [if_neg he]
      have he0 : e = 0 := Classical.byContradiction he
      subst he0
      rw [if_neg (by simp)] at HS
      have hk2 := hk rfl rfl
      have hk1 : (k : Int) ≤ (rest.size : Int) := by omega
      have hk0 : (0 : Int) ≤ (k : Int) := by omega
      have hx : ¬ (9223372036854775807 < rest.size) := by omega
      clear hk he
      rw [show ((0 : Int) != 0) = false from rfl] at HS
      go_enter Tryz.func55, Tryz.ntmps55
      go_wp2_with fail
      refine HS.out.mono ?_
      rintro r w1 ⟨rfl, h1, h2⟩
      have b0 := h1.cell (i := 0) rfl
      have b2 := h1.cell (i := 2) rfl
      have bf := h1.free 0
      have HX := hid (And.intro (h1.set 0 (.string (rest.extract k rest.size))) (h2.trans (Touch.setCell (F := fun j => j = B) (a := ⟨B, 0, none⟩) rfl (.string (rest.extract k rest.size)))))
      clear h1 h2
      go_wp2_with fail
      go_ret
      exact ⟨rfl, HX.out.1, HX.out.2⟩

set_option maxRecDepth 100000 in
set_option maxHeartbeats 1000000 in
theorem cat_any (w : World) (B : Nat) (all : Int) (s : ByteArray × Int) (h : CuB w B all s) (ha : (s.1.size : Int) ≤ all ∧ all ≤ 140737488351232) :
    Calls Tryz.prog 156 #[.pointer (some ⟨B, 0, none⟩)] w fun r w' => r = .returned (.int .i64 (all - s.1.size)) ∧ Below w.heap.size w w' := by
  obtain ⟨rest, bad⟩ := s
  simp only at ha ⊢
  have b0 : w.drew.cell? ⟨B, 0, none⟩ = some (.string rest) := h.cell (i := 0) rfl
  have b1 : w.drew.cell? ⟨B, 1, none⟩ = some (.int .i64 all) := h.cell (i := 1) rfl
  have hw : wrap64 (all - (rest.size : Int)) = all - (rest.size : Int) := by unfold wrap64; omega
  have hw2 : IntKind.i64.wrap (all - (rest.size : Int)) = all - (rest.size : Int) := by rw [IntKind.wrap_i64]; omega
  clear h
  go_enter Tryz.func156, Tryz.ntmps156
  go_wp2_with fail
  go_region_held3 (fun w' => w'.cell? ⟨B, 0, none⟩ = some (.string rest) ∧ w'.cell? ⟨B, 1, none⟩ = some (.int .i64 all)) (first | exact ⟨b0, b1⟩ | go_keep) (fail)
  all_goals
    go_wp2_with fail
    go_ret
    exact ⟨rfl, drew_bel' (n := 1) (Below.refl _ _)⟩

set_option maxRecDepth 100000 in
set_option maxHeartbeats 1000000 in
theorem cnum_any (w : World) (B : Nat) (all : Int) (s : ByteArray × Int) (h : CuB w B all s) (hs : okSc s) :
    Calls Tryz.prog 54 #[.pointer (some ⟨B, 0, none⟩)] w fun e w' => e = .returned (.int .i64 (numM s).1) ∧ CuB w' B all (numM s).2 ∧ ToC B w w' := by
  have hf := ru_facts (b := 32) (.inl rfl) s.1.data.toList 0 0 (by decide) (by decide)
  have hrd := fun wx => refU_all s.1 32 wx (okSc_max hs) (.inl rfl)
  have hlen : s.1.data.toList.length = s.1.size := by simp
  obtain ⟨rest, bad⟩ := s
  have hs' := hs
  unfold okSc at hs'
  unfold numM
  unfold tup3 at hrd
  simp only at hf hrd hs' hlen ⊢
  generalize ru 32 rest.data.toList 0 0 = q at *
  obtain ⟨n, k, e⟩ := q
  simp only at hf hrd ⊢
  have hk : k ≤ rest.size := by
    by_cases h0 : e = 0
    · have := (hf.1 h0).2.1; omega
    · have := (hf.2 h0).2; omega
  have hw : wrap64 (n : Int) = n := by
    have hn : n < 4294967296 := by
      by_cases h0 : e = 0
      · have := (hf.1 h0).2.2; have e2 : (2 : Nat) ^ 32 = 4294967296 := by decide
        omega
      · have := (hf.2 h0).1; omega
    unfold wrap64; omega
  have hwi : IntKind.i64.wrap (n : Int) = n := by
    rw [IntKind.wrap_i64]; unfold wrap64 at hw; exact hw
  have hsk := fun wx (hx : CuB wx B all (rest, bad)) => cskip_any wx B all (rest, bad) k e hx (fun _ _ => hk) hs
  unfold skipM at hsk
  simp only at hsk
  have b0 := h.cell (i := 0) rfl
  have HRD := hid hrd
  have H := hid h
  by_cases hb : bad ≠ 0
  · rw [if_pos hb]
    simp only [if_pos hb] at hsk
    have HSK := hid hsk
    clear hf hrd hsk h hlen hb
    go_enter Tryz.func54, Tryz.ntmps54
    go_wp2_with fail
    refine (HRD.out _).mono ?_
    rintro r w1 ⟨rfl, nd, rfl⟩
    go_wp2_with fail
    refine (HSK.out _ (Blk.drew H.out nd)).mono ?_
    rintro r w2 ⟨rfl, h1, h2⟩
    have HX := hid (And.intro h1 h2)
    clear h1 h2
    go_wp2_with fail
    go_ret
    exact ⟨rfl, HX.out.1, (Touch.of_below (num_below (n := nd) (Below.refl _ _))).trans HX.out.2⟩
  · rw [if_neg hb]
    simp only [if_neg hb] at hsk
    clear hb
    by_cases he : (e : Int) ≠ 0
    · simp only [if_pos he] at hsk
      have h9 := hf.2 (fun g => he (by omega))
      obtain ⟨h91, h92⟩ := h9
      subst h91 h92
      have HSK := hid hsk
      have hx0 : rest.extract 0 rest.size = rest := by simp
      rw [hx0]
      clear hf hrd hsk h hlen he hx0
      go_enter Tryz.func54, Tryz.ntmps54
      go_wp2_with fail
      refine (HRD.out _).mono ?_
      rintro r w1 ⟨rfl, nd, rfl⟩
      go_wp2_with fail
      refine (HSK.out _ (Blk.drew H.out nd)).mono ?_
      rintro r w2 ⟨rfl, h1, h2⟩
      have HX := hid (And.intro h1 h2)
      clear h1 h2
      go_wp2_with fail
      go_ret
      exact ⟨rfl, HX.out.1, (Touch.of_below (num_below (n := nd) (Below.refl _ _))).trans HX.out.2⟩
    · simp only [if_neg he] at hsk
      have he0 : e = 0 := by omega
      subst he0
      have HSK := hid hsk
      clear hf hrd hsk h hlen he
      go_enter Tryz.func54, Tryz.ntmps54
      go_wp2_with fail
      refine (HRD.out _).mono ?_
      rintro r w1 ⟨rfl, nd, rfl⟩
      go_wp2_with fail
      refine (HSK.out _ (Blk.drew H.out nd)).mono ?_
      rintro r w2 ⟨rfl, h1, h2⟩
      have HX := hid (And.intro h1 h2)
      clear h1 h2
      go_wp2_with fail
      go_ret
      exact ⟨rfl, HX.out.1, (Touch.of_below (num_below (n := nd) (Below.refl _ _))).trans HX.out.2⟩

set_option maxRecDepth 100000 in
set_option maxHeartbeats 1000000 in
theorem csigned_any (w : World) (B : Nat) (all : Int) (s : ByteArray × Int) (bits : Nat) (hbits : bits = 32 ∨ bits = 64) (h : CuB w B all s) (hs : okSc s) :
    Calls Tryz.prog 92 #[.pointer (some ⟨B, 0, none⟩), .int .i64 bits] w fun e w' => e = .returned (.int .i64 (sgnM bits s).1) ∧ CuB w' B all (sgnM bits s).2 ∧ ToC B w w' := by
  have hf := rs_facts hbits s.1.data.toList 0 0 (by decide) (by omega)
  have hrd := fun wx => refS_ok s.1 bits wx (okSc_max hs) hbits
  have hlen : s.1.data.toList.length = s.1.size := by simp
  obtain ⟨rest, bad⟩ := s
  have hs' := hs
  unfold okSc at hs'
  unfold sgnM
  unfold tupS at hrd
  simp only at hf hrd hs' hlen ⊢
  generalize rs bits rest.data.toList 0 0 = q at *
  obtain ⟨n, k, e⟩ := q
  simp only at hf hrd ⊢
  have hk : k ≤ rest.size := by
    by_cases h0 : e = 0
    · have := (hf.1 h0).2.1; omega
    · have := (hf.2 h0).2; omega
  have hsk := fun wx (hx : CuB wx B all (rest, bad)) => cskip_any wx B all (rest, bad) k e hx (fun _ _ => hk) hs
  unfold skipM at hsk
  simp only at hsk
  have b0 := h.cell (i := 0) rfl
  have HRD := hid hrd
  have H := hid h
  by_cases hb : bad ≠ 0
  · rw [if_pos hb]
    simp only [if_pos hb] at hsk
    have HSK := hid hsk
    clear hf hrd hsk h hlen hb
    go_enter Tryz.func92, Tryz.ntmps92
    go_wp2_with fail
    refine (HRD.out _).mono ?_
    rintro r w1 ⟨rfl, rfl⟩
    go_wp2_with fail
    refine (HSK.out _ (H.out)).mono ?_
    rintro r w2 ⟨rfl, h1, h2⟩
    have HX := hid (And.intro h1 h2)
    clear h1 h2
    go_wp2_with fail
    go_ret
    exact ⟨rfl, HX.out.1, HX.out.2⟩
  · rw [if_neg hb]
    simp only [if_neg hb] at hsk
    clear hb
    by_cases he : (e : Int) ≠ 0
    · simp only [if_pos he] at hsk
      have h9 := hf.2 (fun g => he (by omega))
      obtain ⟨h91, h92⟩ := h9
      subst h91 h92
      have HSK := hid hsk
      have hx0 : rest.extract 0 rest.size = rest := by simp
      rw [hx0]
      clear hf hrd hsk h hlen he hx0
      go_enter Tryz.func92, Tryz.ntmps92
      go_wp2_with fail
      refine (HRD.out _).mono ?_
      rintro r w1 ⟨rfl, rfl⟩
      go_wp2_with fail
      refine (HSK.out _ (H.out)).mono ?_
      rintro r w2 ⟨rfl, h1, h2⟩
      have HX := hid (And.intro h1 h2)
      clear h1 h2
      go_wp2_with fail
      go_ret
      exact ⟨rfl, HX.out.1, HX.out.2⟩
    · simp only [if_neg he] at hsk
      have he0 : e = 0 := by omega
      subst he0
      have HSK := hid hsk
      clear hf hrd hsk h hlen he
      go_enter Tryz.func92, Tryz.ntmps92
      go_wp2_with fail
      refine (HRD.out _).mono ?_
      rintro r w1 ⟨rfl, rfl⟩
      go_wp2_with fail
      refine (HSK.out _ (H.out)).mono ?_
      rintro r w2 ⟨rfl, h1, h2⟩
      have HX := hid (And.intro h1 h2)
      clear h1 h2
      go_wp2_with fail
      go_ret
      exact ⟨rfl, HX.out.1, HX.out.2⟩

end Go.Proofs.YtakfineljffoaaaGreatDoor
namespace Go.Proofs.YtakfineljffoaaaGreatDoor
open Go.RowKit Go.Lib
def numeric_any_l0 : List (Nat × Nat × Nat × Nat × Nat × Nat) := [(69, 69, 127, 1, 1, 127), (70, 79, 127, 1, 2, 127), (80, 80, 127, 1, 1, 126), (81, 90, 127, 1, 2, 126), (103, 105, 127, 1, 1, 127), (106, 120, 127, 1, 2, 127), (121, 123, 126, 1, 1, 126), (124, 138, 126, 1, 2, 126), (167, 167, 127, 1, 1, 126), (172, 172, 126, 1, 1, 127), (173, 173, 126, 1, 1, 127), (192, 193, 127, 1, 1, 127), (194, 196, 126, 1, 1, 126)]
def numeric_any_l1 : List (Nat × Nat × Nat × Nat × Nat × Nat) := [(0, 68, 0, 0, 0, 0), (91, 102, 0, 0, 0, 0), (139, 166, 0, 0, 0, 0), (168, 171, 0, 0, 0, 0), (174, 191, 0, 0, 0, 0), (197, 255, 0, 0, 0, 0)]
theorem numeric_any_c : ∀ x : Fin 256, (numeric_any_l0.any (fun c => decide (c.1 ≤ x.val ∧ x.val ≤ c.2.1 ∧ tO x.val = c.2.2.1 ∧ tQ x.val = c.2.2.2.1 ∧ tN x.val = c.2.2.2.2.1 ∧ tI x.val = c.2.2.2.2.2)) || (numeric_any_l1.any (fun c => decide (c.1 ≤ x.val ∧ x.val ≤ c.2.1 ∧ tO x.val = c.2.2.1 ∧ tQ x.val = c.2.2.2.1 ∧ tN x.val = c.2.2.2.2.1 ∧ tI x.val = c.2.2.2.2.2)))) = true := by decide +kernel
set_option maxRecDepth 100000 in
set_option maxHeartbeats 16000000 in
theorem numeric_any (op : Nat) (hop : op < 256) (w : World) :
    Calls Tryz.prog 124 #[.int .u8 op] w fun e w' => ∃ v, e = .returned (.tuple #[v, .int .u8 (tO op : Nat), .bool (decide (tQ op = 1))]) ∧ Kinds w' v (List.replicate (tN op) (tI op : Int)) ∧ Below w.heap.size w w' := by
  have g := numeric_any_c ⟨op, hop⟩
  simp only [Bool.or_eq_true, List.any_eq_true, decide_eq_true_eq] at g
  rcases g with ⟨c, hc, h1, h2, t1, t2, t3, t4⟩ | ⟨c, hc, h1, h2, t1, t2, t3, t4⟩
  · simp only [numeric_any_l0, List.mem_cons, List.not_mem_nil, or_false] at hc
    rcases hc with rfl | rfl | rfl | rfl | rfl | rfl | rfl | rfl | rfl | rfl | rfl | rfl | rfl
    all_goals
      dsimp only at h1 h2 t1 t2 t3 t4
      first | have e69 := bF op 69 (by omega) | have e69 := bT op 69 (by omega)
      first | have e80 := bF op 80 (by omega) | have e80 := bT op 80 (by omega)
      first | have e167 := bF op 167 (by omega) | have e167 := bT op 167 (by omega)
      first | have e172 := bF op 172 (by omega) | have e172 := bT op 172 (by omega)
      first | have e173 := bF op 173 (by omega) | have e173 := bT op 173 (by omega)
      first | have g69 : (69 : Int) < op := by omega | have g69 : ¬ (69 : Int) < op := by omega
      first | have k90e : (op : Int) ≤ 90 := by omega | have k90e : ¬ (op : Int) ≤ 90 := by omega
      first | have g103e : (103 : Int) ≤ op := by omega | have g103e : ¬ (103 : Int) ≤ op := by omega
      first | have k105e : (op : Int) ≤ 105 := by omega | have k105e : ¬ (op : Int) ≤ 105 := by omega
      first | have g121e : (121 : Int) ≤ op := by omega | have g121e : ¬ (121 : Int) ≤ op := by omega
      first | have k123e : (op : Int) ≤ 123 := by omega | have k123e : ¬ (op : Int) ≤ 123 := by omega
      first | have g106e : (106 : Int) ≤ op := by omega | have g106e : ¬ (106 : Int) ≤ op := by omega
      first | have k138e : (op : Int) ≤ 138 := by omega | have k138e : ¬ (op : Int) ≤ 138 := by omega
      first | have g192e : (192 : Int) ≤ op := by omega | have g192e : ¬ (192 : Int) ≤ op := by omega
      first | have k196e : (op : Int) ≤ 196 := by omega | have k196e : ¬ (op : Int) ≤ 196 := by omega
      first | have k80 : (op : Int) < 80 := by omega | have k80 : ¬ (op : Int) < 80 := by omega
      first | have k121 : (op : Int) < 121 := by omega | have k121 : ¬ (op : Int) < 121 := by omega
      first | have k194 : (op : Int) < 194 := by omega | have k194 : ¬ (op : Int) < 194 := by omega
      rw [t1, t2, t3, t4]
      go_enter Tryz.func124, Tryz.ntmps124
      go_wp2
      go_ret3
      first | exact ⟨_, rfl, Ints.made' _ .u8 68 [127] _ (by simp) (by decide), ((Below.refl _ _).alloc (Nat.le_refl _) _).alloc (by simp) _⟩ | exact ⟨_, rfl, Ints.made' _ .u8 68 [126] _ (by simp) (by decide), ((Below.refl _ _).alloc (Nat.le_refl _) _).alloc (by simp) _⟩ | exact ⟨_, rfl, Ints.made' _ .u8 68 [127, 127] _ (by simp) (by decide), ((Below.refl _ _).alloc (Nat.le_refl _) _).alloc (by simp) _⟩ | exact ⟨_, rfl, Ints.made' _ .u8 68 [126, 126] _ (by simp) (by decide), ((Below.refl _ _).alloc (Nat.le_refl _) _).alloc (by simp) _⟩
  · simp only [numeric_any_l1, List.mem_cons, List.not_mem_nil, or_false] at hc
    rcases hc with rfl | rfl | rfl | rfl | rfl | rfl
    all_goals
      dsimp only at h1 h2 t1 t2 t3 t4
      first | have e69 := bF op 69 (by omega) | have e69 := bT op 69 (by omega)
      first | have e80 := bF op 80 (by omega) | have e80 := bT op 80 (by omega)
      first | have e167 := bF op 167 (by omega) | have e167 := bT op 167 (by omega)
      first | have e172 := bF op 172 (by omega) | have e172 := bT op 172 (by omega)
      first | have e173 := bF op 173 (by omega) | have e173 := bT op 173 (by omega)
      first | have g69 : (69 : Int) < op := by omega | have g69 : ¬ (69 : Int) < op := by omega
      first | have k90e : (op : Int) ≤ 90 := by omega | have k90e : ¬ (op : Int) ≤ 90 := by omega
      first | have g103e : (103 : Int) ≤ op := by omega | have g103e : ¬ (103 : Int) ≤ op := by omega
      first | have k105e : (op : Int) ≤ 105 := by omega | have k105e : ¬ (op : Int) ≤ 105 := by omega
      first | have g121e : (121 : Int) ≤ op := by omega | have g121e : ¬ (121 : Int) ≤ op := by omega
      first | have k123e : (op : Int) ≤ 123 := by omega | have k123e : ¬ (op : Int) ≤ 123 := by omega
      first | have g106e : (106 : Int) ≤ op := by omega | have g106e : ¬ (106 : Int) ≤ op := by omega
      first | have k138e : (op : Int) ≤ 138 := by omega | have k138e : ¬ (op : Int) ≤ 138 := by omega
      first | have g192e : (192 : Int) ≤ op := by omega | have g192e : ¬ (192 : Int) ≤ op := by omega
      first | have k196e : (op : Int) ≤ 196 := by omega | have k196e : ¬ (op : Int) ≤ 196 := by omega
      first | have k80 : (op : Int) < 80 := by omega | have k80 : ¬ (op : Int) < 80 := by omega
      first | have k121 : (op : Int) < 121 := by omega | have k121 : ¬ (op : Int) < 121 := by omega
      first | have k194 : (op : Int) < 194 := by omega | have k194 : ¬ (op : Int) < 194 := by omega
      rw [t1, t2, t3, t4]
      go_enter Tryz.func124, Tryz.ntmps124
      go_wp2
      go_ret3
      exact ⟨_, rfl, ⟨none, 0, rfl, by simp, by simp, by simp, .inl rfl⟩, (Below.refl _ _).alloc (Nat.le_refl _) _⟩
def besides_any_l0 : List (Nat × Nat × Nat × Nat × Nat) := [(0, 1, 1, 0, 0), (2, 2, 2, 0, 0), (3, 3, 2, 0, 0), (4, 4, 2, 0, 0), (5, 5, 1, 0, 0), (6, 10, 0, 0, 0), (11, 11, 1, 0, 0), (12, 12, 3, 0, 0), (13, 13, 3, 0, 0), (14, 14, 4, 0, 0), (15, 15, 1, 0, 0), (16, 16, 3, 0, 0), (17, 17, 5, 0, 0), (18, 25, 0, 0, 0), (26, 26, 1, 0, 0), (27, 27, 1, 0, 0), (28, 31, 0, 0, 0), (32, 36, 3, 0, 0), (37, 39, 0, 0, 0), (42, 43, 0, 0, 0), (56, 57, 0, 0, 0), (63, 63, 7, 0, 0), (64, 64, 7, 0, 0), (65, 65, 8, 0, 0), (66, 66, 9, 0, 0), (67, 68, 0, 0, 0), (69, 90, 1, 0, 1), (91, 102, 0, 0, 0), (103, 138, 1, 0, 1), (139, 166, 0, 0, 0), (167, 167, 1, 0, 1), (168, 171, 0, 0, 0), (172, 173, 1, 0, 1), (174, 191, 0, 0, 0), (192, 196, 1, 0, 1), (197, 255, 0, 0, 0)]
def besides_any_l1 : List (Nat × Nat × Nat × Nat) := [(40, 41, 6, 0), (44, 55, 6, 0), (58, 62, 6, 0)]
theorem besides_any_c : ∀ x : Fin 256, (besides_any_l0.any (fun c => decide (c.1 ≤ x.val ∧ x.val ≤ c.2.1 ∧ tB x.val = c.2.2.1 ∧ tW x.val = c.2.2.2.1 ∧ tQ x.val = c.2.2.2.2)) || (besides_any_l1.any (fun c => decide (c.1 ≤ x.val ∧ x.val ≤ c.2.1 ∧ tB x.val = c.2.2.1 ∧ 0 < tW x.val ∧ tQ x.val = c.2.2.2)))) = true := by decide +kernel
set_option maxRecDepth 100000 in
set_option maxHeartbeats 16000000 in
theorem besides_any (op : Nat) (hop : op < 256) (w : World) :
    Calls Tryz.prog 95 #[.int .u8 op] w fun e w' => e = .returned (.int .i64 (tB op : Nat)) ∧ Below w.heap.size w w' := by
  have g := besides_any_c ⟨op, hop⟩
  simp only [Bool.or_eq_true, List.any_eq_true, decide_eq_true_eq] at g
  rcases g with ⟨c, hc, h1, h2, t1, t2, t3⟩ | ⟨c, hc, h1, h2, t1, t2, t3⟩
  · simp only [besides_any_l0, List.mem_cons, List.not_mem_nil, or_false] at hc
    rcases hc with rfl | rfl | rfl | rfl | rfl | rfl | rfl | rfl | rfl | rfl | rfl | rfl | rfl | rfl | rfl | rfl | rfl | rfl | rfl | rfl | rfl | rfl | rfl | rfl | rfl | rfl | rfl | rfl | rfl | rfl | rfl | rfl | rfl | rfl | rfl | rfl
    all_goals
      dsimp only at h1 h2 t1 t2 t3
      first | have e2 := bF op 2 (by omega) | have e2 := bT op 2 (by omega)
      first | have e3 := bF op 3 (by omega) | have e3 := bT op 3 (by omega)
      first | have e4 := bF op 4 (by omega) | have e4 := bT op 4 (by omega)
      first | have e5 := bF op 5 (by omega) | have e5 := bT op 5 (by omega)
      first | have e11 := bF op 11 (by omega) | have e11 := bT op 11 (by omega)
      first | have e12 := bF op 12 (by omega) | have e12 := bT op 12 (by omega)
      first | have e13 := bF op 13 (by omega) | have e13 := bT op 13 (by omega)
      first | have e14 := bF op 14 (by omega) | have e14 := bT op 14 (by omega)
      first | have e15 := bF op 15 (by omega) | have e15 := bT op 15 (by omega)
      first | have e16 := bF op 16 (by omega) | have e16 := bT op 16 (by omega)
      first | have e17 := bF op 17 (by omega) | have e17 := bT op 17 (by omega)
      first | have e26 := bF op 26 (by omega) | have e26 := bT op 26 (by omega)
      first | have e27 := bF op 27 (by omega) | have e27 := bT op 27 (by omega)
      first | have e63 := bF op 63 (by omega) | have e63 := bT op 63 (by omega)
      first | have e64 := bF op 64 (by omega) | have e64 := bT op 64 (by omega)
      first | have e65 := bF op 65 (by omega) | have e65 := bT op 65 (by omega)
      first | have e66 := bF op 66 (by omega) | have e66 := bT op 66 (by omega)
      first | have g32e : (32 : Int) ≤ op := by omega | have g32e : ¬ (32 : Int) ≤ op := by omega
      first | have k36e : (op : Int) ≤ 36 := by omega | have k36e : ¬ (op : Int) ≤ 36 := by omega
      first | have k1e : (op : Int) ≤ 1 := by omega | have k1e : ¬ (op : Int) ≤ 1 := by omega
      rw [t1]
      have HW := hid (fun w2 => width_any op hop w2)
      rw [t2] at HW
      have HN := hid (fun w2 => numeric_any op hop w2)
      first | rw [show decide (tQ op = 1) = true from by rw [t3]; rfl] at HN | rw [show decide (tQ op = 1) = false from by rw [t3]; rfl] at HN
      go_enter Tryz.func95, Tryz.ntmps95
      go_wp2_with (first | (go_at_call 123; refine (HW.out _).mono ?_; rintro r w1 ⟨rfl, rfl⟩) | (go_at_call 124; refine (HN.out _).mono ?_; rintro r w2 ⟨v, rfl, hk, hb⟩; have B2 := hid hb; clear hk hb))
      go_ret
      first | exact ⟨rfl, B2.out⟩ | exact ⟨rfl, Below.refl _ _⟩
  · simp only [besides_any_l1, List.mem_cons, List.not_mem_nil, or_false] at hc
    rcases hc with rfl | rfl | rfl
    all_goals
      dsimp only at h1 h2 t1 t2 t3
      first | have e2 := bF op 2 (by omega) | have e2 := bT op 2 (by omega)
      first | have e3 := bF op 3 (by omega) | have e3 := bT op 3 (by omega)
      first | have e4 := bF op 4 (by omega) | have e4 := bT op 4 (by omega)
      first | have e5 := bF op 5 (by omega) | have e5 := bT op 5 (by omega)
      first | have e11 := bF op 11 (by omega) | have e11 := bT op 11 (by omega)
      first | have e12 := bF op 12 (by omega) | have e12 := bT op 12 (by omega)
      first | have e13 := bF op 13 (by omega) | have e13 := bT op 13 (by omega)
      first | have e14 := bF op 14 (by omega) | have e14 := bT op 14 (by omega)
      first | have e15 := bF op 15 (by omega) | have e15 := bT op 15 (by omega)
      first | have e16 := bF op 16 (by omega) | have e16 := bT op 16 (by omega)
      first | have e17 := bF op 17 (by omega) | have e17 := bT op 17 (by omega)
      first | have e26 := bF op 26 (by omega) | have e26 := bT op 26 (by omega)
      first | have e27 := bF op 27 (by omega) | have e27 := bT op 27 (by omega)
      first | have e63 := bF op 63 (by omega) | have e63 := bT op 63 (by omega)
      first | have e64 := bF op 64 (by omega) | have e64 := bT op 64 (by omega)
      first | have e65 := bF op 65 (by omega) | have e65 := bT op 65 (by omega)
      first | have e66 := bF op 66 (by omega) | have e66 := bT op 66 (by omega)
      first | have g32e : (32 : Int) ≤ op := by omega | have g32e : ¬ (32 : Int) ≤ op := by omega
      first | have k36e : (op : Int) ≤ 36 := by omega | have k36e : ¬ (op : Int) ≤ 36 := by omega
      first | have k1e : (op : Int) ≤ 1 := by omega | have k1e : ¬ (op : Int) ≤ 1 := by omega
      rw [t1]
      have HW := hid (fun w2 => width_any op hop w2)
      have hp2 : (0 : Int) < (tW op : Nat) := by omega
      generalize tW op = W at *
      have HN := hid (fun w2 => numeric_any op hop w2)
      first | rw [show decide (tQ op = 1) = true from by rw [t3]; rfl] at HN | rw [show decide (tQ op = 1) = false from by rw [t3]; rfl] at HN
      go_enter Tryz.func95, Tryz.ntmps95
      go_wp2_with (first | (go_at_call 123; refine (HW.out _).mono ?_; rintro r w1 ⟨rfl, rfl⟩) | (go_at_call 124; refine (HN.out _).mono ?_; rintro r w2 ⟨v, rfl, hk, hb⟩; have B2 := hid hb; clear hk hb))
      go_ret
      first | exact ⟨rfl, B2.out⟩ | exact ⟨rfl, Below.refl _ _⟩
end Go.Proofs.YtakfineljffoaaaGreatDoor
