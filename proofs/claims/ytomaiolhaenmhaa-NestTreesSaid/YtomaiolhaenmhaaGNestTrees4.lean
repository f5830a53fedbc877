/-
  THE REFERENCE's CURSOR: over, say, skip, at, num, signed. Conditions: lengths in the form's reach.
-/
import Derived.Test.YtomaiolhaenmhaaPart
import Derived.Test.YtomaiolhaenmhaaStep
import Derived.Test.YtomaiolhaenmhaaGNestTrees3
namespace Go.Proofs.Ytomaiolhaenmhaa
open Go.RowKit Go.Lib
attribute [local go_sem ↓] Go.wp_at_zero Go.wp_at_succ

def okSc (s : ByteArray × Int) : Prop := s.1.size ≤ 140737488351232
abbrev CuB (w : World) (B : Nat) (all : Int) (s : ByteArray × Int) : Prop := Blk w B 183 [.string s.1, .int .i64 all, .int .i64 s.2]
abbrev ToC (B : Nat) (w w' : World) : Prop := Touch (fun k => k = B) w w'
theorem okSc_max {s : ByteArray × Int} (h : okSc s) : s.1.size ≤ maxLen := by unfold okSc at h; unfold maxLen; omega
/-- a fault is said -/
def sayM (is : Bool) (e : Int) (s : ByteArray × Int) : ByteArray × Int := if is = true ∧ s.2 = 0 then (s.1, e) else s
theorem num_below {W w : World} {B n : Nat} (h : Below B W w) : Below B W (w.drewN n) := ⟨h.os, h.tape, h.output, h.size, h.block⟩

set_option maxRecDepth 100000 in
theorem cover_any (t : ByteArray) (w : World) : Calls Try.prog 109 #[.string t] w fun e w' => e = .returned (.pointer (some ⟨w.heap.size, 0, none⟩)) ∧ CuB w' w.heap.size t.size (t, 0) ∧ Below w.heap.size w w' := by
  go_enter Try.func109, Try.ntmps109
  go_wp2_with fail
  go_ret
  exact ⟨rfl, Blk.new w _ _ _ rfl, (Below.refl _ _).alloc (Nat.le_refl _) _⟩

set_option maxRecDepth 100000 in
set_option maxHeartbeats 1000000 in
theorem csay_any (w : World) (B : Nat) (all : Int) (s : ByteArray × Int) (is : Bool) (e : Int) (h : CuB w B all s) :
    Calls Try.prog 112 #[.pointer (some ⟨B, 0, none⟩), .bool is, .int .i64 e] w fun r w' => r = .returned (.tuple #[]) ∧ CuB w' B all (sayM is e s) ∧ ToC B w w' := by
  obtain ⟨rest, bad⟩ := s
  have H := hid h
  have b2 := h.cell (i := 2) rfl
  have bf := h.free 2
  clear h
  cases is with
  | false =>
    rw [show sayM false e (rest, bad) = (rest, bad) from if_neg (by simp)]
    go_enter Try.func112, Try.ntmps112
    go_wp2_with fail
    go_end0
    exact ⟨rfl, H.out, Touch.refl _ _⟩
  | true =>
    by_cases hb : bad = 0
    · subst hb
      rw [show sayM true e (rest, 0) = (rest, e) from if_pos ⟨rfl, rfl⟩]
      have H2 := hid (Blk.set H.out 2 (.int .i64 e))
      go_enter Try.func112, Try.ntmps112
      go_wp2_with fail
      go_end0
      exact ⟨rfl, H2.out, Touch.setCell (F := fun j => j = B) (a := ⟨B, 2, none⟩) rfl _⟩
    · rw [show sayM true e (rest, bad) = (rest, bad) from if_neg (fun h => hb h.2)]
      have hb2 : (bad == 0) = false := by simpa using hb
      go_enter Try.func112, Try.ntmps112
      go_wp2_with fail
      go_end0
      exact ⟨rfl, H.out, Touch.refl _ _⟩

/-- what skip leaves -/
def skipM (k : Nat) (e : Int) (s : ByteArray × Int) : Bool × ByteArray × Int := if s.2 ≠ 0 then (false, s) else if e ≠ 0 then (false, (s.1, e)) else (true, (s.1.extract k s.1.size, 0))
set_option maxRecDepth 100000 in
set_option maxHeartbeats 1000000 in
theorem cskip_any (w : World) (B : Nat) (all : Int) (s : ByteArray × Int) (k : Nat) (e : Int) (h : CuB w B all s) (hk : s.2 = 0 → e = 0 → k ≤ s.1.size) (hs : okSc s) :
    Calls Try.prog 166 #[.pointer (some ⟨B, 0, none⟩), .int .i64 k, .int .i64 e] w fun r w' => r = .returned (.bool (skipM k e s).1) ∧ CuB w' B all (skipM k e s).2 ∧ ToC B w w' := by
  have HS := hid (csay_any w B all s (e != 0) e h)
  obtain ⟨rest, bad⟩ := s
  unfold okSc at hs
  unfold skipM
  unfold sayM at HS
  simp only at hk hs HS ⊢
  clear h
  by_cases hb : bad ≠ 0
  · rw [if_pos hb]
    rw [if_neg (fun g => hb g.2)] at HS
    have hb2 : (bad != 0) = true := by simpa using hb
    clear hk hb
    go_enter Try.func166, Try.ntmps166
    go_wp2_with fail
    refine HS.out.mono ?_
    rintro r w1 ⟨rfl, h1, h2⟩
    have b2 := h1.cell (i := 2) rfl
    have HX := hid (And.intro h1 h2)
    clear h1 h2
    go_wp2_with fail
    go_ret
    exact ⟨rfl, HX.out.1, HX.out.2⟩
  · rw [if_neg hb]
    have hb0 : bad = 0 := Classical.byContradiction hb
    subst hb0
    clear hb
    by_cases he : e ≠ 0
    · rw [if_pos he]
      have he2 : (e != 0) = true := by simpa using he
      rw [if_pos ⟨he2, rfl⟩, he2] at HS
      clear hk he
      go_enter Try.func166, Try.ntmps166
      go_wp2_with fail
      refine HS.out.mono ?_
      rintro r w1 ⟨rfl, h1, h2⟩
      have b2 := h1.cell (i := 2) rfl
      have HX := hid (And.intro h1 h2)
      clear h1 h2
      go_wp2_with fail
      go_ret
      exact ⟨rfl, HX.out.1, HX.out.2⟩
    · rw [if_neg he]
      have he0 : e = 0 := Classical.byContradiction he
      subst he0
      rw [if_neg (by simp)] at HS
      have hk2 := hk rfl rfl
      have hk1 : (k : Int) ≤ (rest.size : Int) := by omega
      have hk0 : (0 : Int) ≤ (k : Int) := by omega
      have hx : ¬ (9223372036854775807 < rest.size) := by omega
      clear hk he
      rw [show ((0 : Int) != 0) = false from rfl] at HS
      go_enter Try.func166, Try.ntmps166
      go_wp2_with fail
      refine HS.out.mono ?_
      rintro r w1 ⟨rfl, h1, h2⟩
      have b0 := h1.cell (i := 0) rfl
      have b2 := h1.cell (i := 2) rfl
      have bf := h1.free 0
      have HX := hid (And.intro (h1.set 0 (.string (rest.extract k rest.size))) (h2.trans (Touch.setCell (F := fun j => j = B) (a := ⟨B, 0, none⟩) rfl (.string (rest.extract k rest.size)))))
      clear h1 h2
      go_wp2_with fail
      go_ret
      exact ⟨rfl, HX.out.1, HX.out.2⟩

set_option maxRecDepth 100000 in
set_option maxHeartbeats 1000000 in
theorem cat_any (w : World) (B : Nat) (all : Int) (s : ByteArray × Int) (h : CuB w B all s) (ha : (s.1.size : Int) ≤ all ∧ all ≤ 140737488351232) :
    Calls Try.prog 115 #[.pointer (some ⟨B, 0, none⟩)] w fun r w' => r = .returned (.int .i64 (all - s.1.size)) ∧ Below w.heap.size w w' := by
  obtain ⟨rest, bad⟩ := s
  simp only at ha ⊢
  have b0 : w.drew.cell? ⟨B, 0, none⟩ = some (.string rest) := h.cell (i := 0) rfl
  have b1 : w.drew.cell? ⟨B, 1, none⟩ = some (.int .i64 all) := h.cell (i := 1) rfl
  have hw : wrap64 (all - (rest.size : Int)) = all - (rest.size : Int) := by unfold wrap64; omega
  have hw2 : IntKind.i64.wrap (all - (rest.size : Int)) = all - (rest.size : Int) := by rw [IntKind.wrap_i64]; omega
  clear h
  go_enter Try.func115, Try.ntmps115
  go_wp2_with fail
  go_region_held3 (fun w' => w'.cell? ⟨B, 0, none⟩ = some (.string rest) ∧ w'.cell? ⟨B, 1, none⟩ = some (.int .i64 all)) (first | exact ⟨b0, b1⟩ | go_keep) (fail)
  all_goals
    go_wp2_with fail
    go_ret
    exact ⟨rfl, drew_bel' (n := 1) (Below.refl _ _)⟩

set_option maxRecDepth 100000 in
set_option maxHeartbeats 1000000 in
theorem cnum_any (w : World) (B : Nat) (all : Int) (s : ByteArray × Int) (h : CuB w B all s) (hs : okSc s) :
    Calls Try.prog 113 #[.pointer (some ⟨B, 0, none⟩)] w fun e w' => e = .returned (.int .i64 (numM s).1) ∧ CuB w' B all (numM s).2 ∧ ToC B w w' := by
  have hf := ru_facts (b := 32) (.inl rfl) s.1.data.toList 0 0 (by decide) (by decide)
  have hrd := fun wx => refU_all s.1 32 wx (okSc_max hs) (.inl rfl)
  have hlen : s.1.data.toList.length = s.1.size := by simp
  obtain ⟨rest, bad⟩ := s
  have hs' := hs
  unfold okSc at hs'
  unfold numM
  unfold tup3 at hrd
  simp only at hf hrd hs' hlen ⊢
  generalize ru 32 rest.data.toList 0 0 = q at *
  obtain ⟨n, k, e⟩ := q
  simp only at hf hrd ⊢
  have hk : k ≤ rest.size := by
    by_cases h0 : e = 0
    · have := (hf.1 h0).2.1; omega
    · have := (hf.2 h0).2; omega
  have hw : wrap64 (n : Int) = n := by
    have hn : n < 4294967296 := by
      by_cases h0 : e = 0
      · have := (hf.1 h0).2.2; have e2 : (2 : Nat) ^ 32 = 4294967296 := by decide
        omega
      · have := (hf.2 h0).1; omega
    unfold wrap64; omega
  have hwi : IntKind.i64.wrap (n : Int) = n := by
    rw [IntKind.wrap_i64]; unfold wrap64 at hw; exact hw
  have hsk := fun wx (hx : CuB wx B all (rest, bad)) => cskip_any wx B all (rest, bad) k e hx (fun _ _ => hk) hs
  unfold skipM at hsk
  simp only at hsk
  have b0 := h.cell (i := 0) rfl
  have HRD := hid hrd
  have H := hid h
  by_cases hb : bad ≠ 0
  · rw [if_pos hb]
    simp only [if_pos hb] at hsk
    have HSK := hid hsk
    clear hf hrd hsk h hlen hb
    go_enter Try.func113, Try.ntmps113
    go_wp2_with fail
    refine (HRD.out _).mono ?_
    rintro r w1 ⟨rfl, nd, rfl⟩
    go_wp2_with fail
    refine (HSK.out _ (Blk.drew H.out nd)).mono ?_
    rintro r w2 ⟨rfl, h1, h2⟩
    have HX := hid (And.intro h1 h2)
    clear h1 h2
    go_wp2_with fail
    go_ret
    exact ⟨rfl, HX.out.1, (Touch.of_below (num_below (n := nd) (Below.refl _ _))).trans HX.out.2⟩
  · rw [if_neg hb]
    simp only [if_neg hb] at hsk
    clear hb
    by_cases he : (e : Int) ≠ 0
    · simp only [if_pos he] at hsk
      have h9 := hf.2 (fun g => he (by omega))
      obtain ⟨h91, h92⟩ := h9
      subst h91 h92
      have HSK := hid hsk
      have hx0 : rest.extract 0 rest.size = rest := by simp
      rw [hx0]
      clear hf hrd hsk h hlen he hx0
      go_enter Try.func113, Try.ntmps113
      go_wp2_with fail
      refine (HRD.out _).mono ?_
      rintro r w1 ⟨rfl, nd, rfl⟩
      go_wp2_with fail
      refine (HSK.out _ (Blk.drew H.out nd)).mono ?_
      rintro r w2 ⟨rfl, h1, h2⟩
      have HX := hid (And.intro h1 h2)
      clear h1 h2
      go_wp2_with fail
      go_ret
      exact ⟨rfl, HX.out.1, (Touch.of_below (num_below (n := nd) (Below.refl _ _))).trans HX.out.2⟩
    · simp only [if_neg he] at hsk
      have he0 : e = 0 := by omega
      subst he0
      have HSK := hid hsk
      clear hf hrd hsk h hlen he
      go_enter Try.func113, Try.ntmps113
      go_wp2_with fail
      refine (HRD.out _).mono ?_
      rintro r w1 ⟨rfl, nd, rfl⟩
      go_wp2_with fail
      refine (HSK.out _ (Blk.drew H.out nd)).mono ?_
      rintro r w2 ⟨rfl, h1, h2⟩
      have HX := hid (And.intro h1 h2)
      clear h1 h2
      go_wp2_with fail
      go_ret
      exact ⟨rfl, HX.out.1, (Touch.of_below (num_below (n := nd) (Below.refl _ _))).trans HX.out.2⟩

set_option maxRecDepth 100000 in
set_option maxHeartbeats 1000000 in
theorem csigned_any (w : World) (B : Nat) (all : Int) (s : ByteArray × Int) (bits : Nat) (hbits : bits = 32 ∨ bits = 64) (h : CuB w B all s) (hs : okSc s) :
    Calls Try.prog 114 #[.pointer (some ⟨B, 0, none⟩), .int .i64 bits] w fun e w' => e = .returned (.int .i64 (sgnM bits s).1) ∧ CuB w' B all (sgnM bits s).2 ∧ ToC B w w' := by
  have hf := rs_facts hbits s.1.data.toList 0 0 (by decide) (by omega)
  have hrd := fun wx => refS_ok s.1 bits wx (okSc_max hs) hbits
  have hlen : s.1.data.toList.length = s.1.size := by simp
  obtain ⟨rest, bad⟩ := s
  have hs' := hs
  unfold okSc at hs'
  unfold sgnM
  unfold tupS at hrd
  simp only at hf hrd hs' hlen ⊢
  generalize rs bits rest.data.toList 0 0 = q at *
  obtain ⟨n, k, e⟩ := q
  simp only at hf hrd ⊢
  have hk : k ≤ rest.size := by
    by_cases h0 : e = 0
    · have := (hf.1 h0).2.1; omega
    · have := (hf.2 h0).2; omega
  have hsk := fun wx (hx : CuB wx B all (rest, bad)) => cskip_any wx B all (rest, bad) k e hx (fun _ _ => hk) hs
  unfold skipM at hsk
  simp only at hsk
  have b0 := h.cell (i := 0) rfl
  have HRD := hid hrd
  have H := hid h
  by_cases hb : bad ≠ 0
  · rw [if_pos hb]
    simp only [if_pos hb] at hsk
    have HSK := hid hsk
    clear hf hrd hsk h hlen hb
    go_enter Try.func114, Try.ntmps114
    go_wp2_with fail
    refine (HRD.out _).mono ?_
    rintro r w1 ⟨rfl, rfl⟩
    go_wp2_with fail
    refine (HSK.out _ (H.out)).mono ?_
    rintro r w2 ⟨rfl, h1, h2⟩
    have HX := hid (And.intro h1 h2)
    clear h1 h2
    go_wp2_with fail
    go_ret
    exact ⟨rfl, HX.out.1, HX.out.2⟩
  · rw [if_neg hb]
    simp only [if_neg hb] at hsk
    clear hb
    by_cases he : (e : Int) ≠ 0
    · simp only [if_pos he] at hsk
      have h9 := hf.2 (fun g => he (by omega))
      obtain ⟨h91, h92⟩ := h9
      subst h91 h92
      have HSK := hid hsk
      have hx0 : rest.extract 0 rest.size = rest := by simp
      rw [hx0]
      clear hf hrd hsk h hlen he hx0
      go_enter Try.func114, Try.ntmps114
      go_wp2_with fail
      refine (HRD.out _).mono ?_
      rintro r w1 ⟨rfl, rfl⟩
      go_wp2_with fail
      refine (HSK.out _ (H.out)).mono ?_
      rintro r w2 ⟨rfl, h1, h2⟩
      have HX := hid (And.intro h1 h2)
      clear h1 h2
      go_wp2_with fail
      go_ret
      exact ⟨rfl, HX.out.1, HX.out.2⟩
    · simp only [if_neg he] at hsk
      have he0 : e = 0 := by omega
      subst he0
      have HSK := hid hsk
      clear hf hrd hsk h hlen he
      go_enter Try.func114, Try.ntmps114
      go_wp2_with fail
      refine (HRD.out _).mono ?_
      rintro r w1 ⟨rfl, rfl⟩
      go_wp2_with fail
      refine (HSK.out _ (H.out)).mono ?_
      rintro r w2 ⟨rfl, h1, h2⟩
      have HX := hid (And.intro h1 h2)
      clear h1 h2
      go_wp2_with fail
      go_ret
      exact ⟨rfl, HX.out.1, HX.out.2⟩

end Go.Proofs.Ytomaiolhaenmhaa
/-
  INSTRUCTIONS: the program's reader: fail, octet, plain, signed, nought; and the reference's octet. Conditions: lengths in the form's reach.
-/
namespace Go.Proofs.Ytomaiolhaenmhaa
open Go.RowKit Go.Lib
attribute [local go_sem ↓] Go.wp_at_zero Go.wp_at_succ

/-- one letter taken -/
def octM (s : ByteArray × Int) : Nat × ByteArray × Int := if s.2 ≠ 0 then (0, s) else if h : 0 < s.1.size then ((s.1[0]).toNat, (s.1.extract 1 s.1.size, 0)) else (0, (s.1, 3))
/-- the program's reader: its text t, of which s.1 is what is left -/
abbrev IrB (w : World) (B : Nat) (t : ByteArray) (at0 : Nat) (bad : Int) : Prop := Blk w B 170 [.string t, .int .i64 at0, .int .i64 bad]
def left (t : ByteArray) (at0 : Nat) : ByteArray := t.extract at0 t.size
abbrev ToI (B : Nat) (w w' : World) : Prop := Touch (fun k => k = B) w w'
theorem left_size (t : ByteArray) (a : Nat) : (left t a).size = t.size - a := by unfold left; rw [ByteArray.size_extract]; omega
theorem left_left (t : ByteArray) (a k : Nat) : (left t a).extract k (left t a).size = left t (a + k) := by
  rw [left_size]
  unfold left
  rw [ByteArray.extract_extract]
  congr 1
  omega
theorem ext_get (t : ByteArray) (a : Nat) (h : a < t.size) (h0 : 0 < (t.extract a t.size).size) : (t.extract a t.size)[0]'h0 = t[a]'h := by simp [ByteArray.getElem_extract]
theorem left_get (t : ByteArray) (a : Nat) (h : a < t.size) (h0 : 0 < (left t a).size) : (left t a)[0]'h0 = t[a]'h := ext_get t a h h0
/-- the fault that stays -/
def bad1 (e b : Int) : Int := if b = 0 then e else b

set_option maxRecDepth 100000 in
set_option maxHeartbeats 1000000 in
theorem ifail_any (w : World) (B : Nat) (t : ByteArray) (a : Nat) (bad e : Int) (h : IrB w B t a bad) :
    Calls Try.prog 107 #[.pointer (some ⟨B, 0, none⟩), .int .i64 e] w fun r w' => r = .returned (.tuple #[]) ∧ IrB w' B t a (bad1 e bad) ∧ ToI B w w' := by
  have H := hid h
  have b2 := h.cell (i := 2) rfl
  have bf := h.free 2
  clear h
  unfold bad1
  by_cases hb : bad = 0
  · subst hb
    rw [if_pos rfl]
    have H2 := hid (Blk.set H.out 2 (.int .i64 e))
    go_enter Try.func107, Try.ntmps107
    go_wp2_with fail
    go_end0
    exact ⟨rfl, H2.out, Touch.setCell (F := fun j => j = B) (a := ⟨B, 2, none⟩) rfl _⟩
  · rw [if_neg hb]
    have hb2 : (bad == 0) = false := by simpa using hb
    clear hb
    go_enter Try.func107, Try.ntmps107
    go_wp2_with fail
    go_end0
    exact ⟨rfl, H.out, Touch.refl _ _⟩

set_option maxRecDepth 100000 in
set_option maxHeartbeats 1000000 in
theorem ioctet_any (w : World) (B : Nat) (t : ByteArray) (a : Nat) (bad : Int) (h : IrB w B t a bad) (ha : a ≤ t.size) (hs : t.size ≤ 140737488351232) :
    Calls Try.prog 105 #[.pointer (some ⟨B, 0, none⟩)] w fun r w' => r = .returned (.int .u8 (octM (left t a, bad)).1) ∧ (∃ a', a' ≤ t.size ∧ (octM (left t a, bad)).2.1 = left t a' ∧ IrB w' B t a' (octM (left t a, bad)).2.2) ∧ ToI B w w' := by
  have H := hid h
  have b0 := h.cell (i := 0) rfl
  have b1 := h.cell (i := 1) rfl
  have b2 := h.cell (i := 2) rfl
  have bf := h.free
  have HF := hid (ifail_any w.drew B t a bad 3 (h.drew 1))
  clear h
  unfold octM
  simp only
  by_cases hb : bad ≠ 0
  · rw [if_pos hb]
    have hb2 : (bad != 0) = true := by simpa using hb
    clear hb
    go_enter Try.func105, Try.ntmps105
    go_wp2_with fail
    go_ret
    exact ⟨rfl, ⟨a, ha, rfl, H.out⟩, Touch.refl _ _⟩
  · rw [if_neg hb]
    have hb0 : bad = 0 := Classical.byContradiction hb
    subst hb0
    clear hb
    have d0 : w.drew.cell? ⟨B, 0, none⟩ = some (.string t) := b0
    have d1 : w.drew.cell? ⟨B, 1, none⟩ = some (.int .i64 a) := b1
    have dz : IntKind.i64.wrap (t.size : Int) = t.size := IntWalk.i64_in _ (by omega)
    by_cases hz : t.size ≤ a
    · have hz2 : decide ((t.size : Int) ≤ (a : Int)) = true := decide_eq_true (by omega)
      rw [dif_neg (by rw [left_size]; omega)]
      go_enter Try.func105, Try.ntmps105
      go_wp2_with fail
      go_region_held3 (fun w' => w'.cell? ⟨B, 0, none⟩ = some (.string t) ∧ w'.cell? ⟨B, 1, none⟩ = some (.int .i64 a)) (first | exact ⟨d0, d1⟩ | go_keep) (fail)
      go_wp2_with fail
      refine HF.out.mono ?_
      rintro r w1 ⟨rfl, h1, h2⟩
      have HX := hid (And.intro h1 h2)
      clear h1 h2
      go_wp2_with fail
      go_ret
      exact ⟨rfl, ⟨a, ha, rfl, HX.out.1⟩, (Touch.of_below (num_below (n := 1) (Below.refl _ _))).trans HX.out.2⟩
    · have hz2 : decide ((t.size : Int) ≤ (a : Int)) = false := decide_eq_false (by omega)
      have hlt : a < t.size := by omega
      rw [dif_pos (by rw [left_size]; omega), left_get t a hlt]
      have hlt2 : (a : Int) < (t.size : Int) := by omega
      have hge : (0 : Int) ≤ (a : Int) := by omega
      have RI := fun wx => (run_index_string wx 9 t .i64 (a : Int) Try.underlying9).trans (dif_pos (show (0 : Int) ≤ (a : Int) ∧ (a : Int) < (t.size : Int) from ⟨hge, hlt2⟩))
      simp only [Int.toNat_natCast] at RI
      generalize (t[a]'hlt).toNat = V at *
      go_enter Try.func105, Try.ntmps105
      go_wp2_with fail
      go_region_held3 (fun w' => w'.cell? ⟨B, 0, none⟩ = some (.string t) ∧ w'.cell? ⟨B, 1, none⟩ = some (.int .i64 a)) (first | exact ⟨d0, d1⟩ | go_keep) (fail)
      have e1 : wrap64 ((a : Int) + 1) = ((a + 1 : Nat) : Int) := by unfold wrap64; omega
      have e2 : IntKind.i64.wrap ((a : Int) + 1 - 1) = (a : Int) := by
        rw [IntKind.wrap_i64]; omega
      have e3 : IntKind.i64.wrap (((a + 1 : Nat) : Int) - 1) = (a : Int) := by
        rw [IntKind.wrap_i64]; omega
      have e4 : IntKind.i64.wrap (a : Int) = (a : Int) := IntWalk.i64_in _ (by omega)
      have H2 := hid (Blk.set (H.out.drew 1) 1 (.int .i64 ((a : Int) + 1)))
      have f0 : ((w.drewN 1).setCell ⟨B, 1, none⟩ (.int .i64 ((a : Int) + 1))).drew.cell? ⟨B, 0, none⟩ = some (.string t) := H2.out.cell (i := 0) rfl
      have f1 : ((w.drewN 1).setCell ⟨B, 1, none⟩ (.int .i64 ((a : Int) + 1))).drew.cell? ⟨B, 1, none⟩ = some (.int .i64 ((a : Int) + 1)) := H2.out.cell (i := 1) rfl
      have HG := hid (And.intro f0 f1)
      clear f0 f1
      go_wp2_with fail
      go_region_held3 (fun w' => w'.cell? ⟨B, 0, none⟩ = some (.string t) ∧ w'.cell? ⟨B, 1, none⟩ = some (.int .i64 ((a : Int) + 1))) (first | exact HG.out | go_keep) (fail)
      go_wp2_with fail
      go_ret
      exact ⟨rfl, ⟨a + 1, hlt, left_left t a 1, H2.out⟩, ((Touch.of_below (num_below (n := 1) (Below.refl _ _))).trans (Touch.setCell (F := fun j => j = B) (a := ⟨B, 1, none⟩) rfl _)).trans (Touch.of_below (num_below (n := 1) (Below.refl _ _)))⟩

set_option maxRecDepth 100000 in
set_option maxHeartbeats 1000000 in
theorem iplain_any (w : World) (B : Nat) (t : ByteArray) (a : Nat) (bad : Int) (h : IrB w B t a bad) (ha : a ≤ t.size) (hs : t.size ≤ 140737488351232) :
    Calls Try.prog 162 #[.pointer (some ⟨B, 0, none⟩)] w fun r w' => r = .returned (.int .i64 (numM (left t a, bad)).1) ∧ (∃ a', a' ≤ t.size ∧ (numM (left t a, bad)).2.1 = left t a' ∧ IrB w' B t a' (numM (left t a, bad)).2.2) ∧ ToI B w w' := by
  have hls := left_size t a
  have hf := ru_facts (b := 32) (.inl rfl) (left t a).data.toList 0 0 (by decide) (by decide)
  have hrd := fun wx => readU_ok (left t a) 32 wx (okSc_max (s := (left t a, 0)) (by unfold okSc; simp only; omega)) (.inl rfl)
  have hlen : (left t a).data.toList.length = (left t a).size := by simp
  have hll := left_left t a
  unfold numM
  unfold tup3 at hrd
  simp only at hf hrd ⊢
  generalize ru 32 (left t a).data.toList 0 0 = q at *
  obtain ⟨n, k, e⟩ := q
  simp only at hf hrd ⊢
  have hk : a + k ≤ t.size := by
    by_cases h0 : e = 0
    · have := (hf.1 h0).2.1; omega
    · have := (hf.2 h0).2; omega
  have hw : wrap64 (n : Int) = n := by
    have hn : n < 4294967296 := by
      by_cases h0 : e = 0
      · have := (hf.1 h0).2.2; have e2 : (2 : Nat) ^ 32 = 4294967296 := by decide
        omega
      · have := (hf.2 h0).1; omega
    unfold wrap64; omega
  have hwi : IntKind.i64.wrap (n : Int) = n := by
    rw [IntKind.wrap_i64]; unfold wrap64 at hw; exact hw
  have b2 := h.cell (i := 2) rfl
  have H := hid h
  by_cases hb : bad ≠ 0
  · rw [if_pos hb]
    dsimp only
    have hb2 : (bad != 0) = true := by simpa using hb
    clear hf hrd h hlen hb hll
    go_enter Try.func162, Try.ntmps162
    go_wp2_with fail
    go_ret
    exact ⟨rfl, ⟨a, ha, rfl, H.out⟩, Touch.refl _ _⟩
  · rw [if_neg hb]
    dsimp only
    have hb0 : bad = 0 := Classical.byContradiction hb
    subst hb0
    have d0 : w.drew.cell? ⟨B, 0, none⟩ = some (.string t) := h.cell (i := 0) rfl
    have d1 : w.drew.cell? ⟨B, 1, none⟩ = some (.int .i64 a) := h.cell (i := 1) rfl
    have hk1 : (a : Int) ≤ (t.size : Int) := by omega
    have hk0 : (0 : Int) ≤ (a : Int) := by omega
    have hx : ¬ (9223372036854775807 < t.size) := by omega
    have e1 : wrap64 ((a : Int) + (k : Int)) = ((a + k : Nat) : Int) := by unfold wrap64; omega
    have e2 : IntKind.i64.wrap ((a : Int) + (k : Int)) = (a : Int) + (k : Int) := IntWalk.i64_in _ (by omega)
    have e3 : bad1 (e : Int) 0 = (e : Int) := rfl
    have HL := hid (And.intro (hll k) hk)
    have HRD := hid hrd
    simp only [show ((32 : Nat) : Int) = 32 from rfl] at HRD
    unfold left at HRD
    have HF := hid (fun wx (hx : IrB wx B t a 0) => ifail_any wx B t a 0 e hx)
    clear hf hrd h hlen hb hll
    go_enter Try.func162, Try.ntmps162
    go_wp2_with fail
    go_region_held3 (fun w' => w'.cell? ⟨B, 0, none⟩ = some (.string t) ∧ w'.cell? ⟨B, 1, none⟩ = some (.int .i64 a)) (first | exact ⟨d0, d1⟩ | go_keep) (first | (go_at_call 179; (with_reducible refine (HRD.out _).mono ?_); rintro r w5 ⟨rfl, rfl⟩))
    go_wp2_with fail
    refine (HF.out _ (H.out.drew 1)).mono ?_
    rintro r w1 ⟨rfl, h1, h2⟩
    rw [e3] at h1
    have c1 := h1.cell (i := 1) rfl
    have cf := h1.free 1
    have HX := hid (And.intro (h1.set 1 (.int .i64 ((a : Int) + (k : Int)))) h2)
    clear h1 h2
    go_wp2_with fail
    go_ret
    exact ⟨rfl, ⟨a + k, HL.out.2, HL.out.1, HX.out.1⟩, ((Touch.of_below (num_below (n := 1) (Below.refl _ _))).trans HX.out.2).trans (Touch.setCell (F := fun j => j = B) (a := ⟨B, 1, none⟩) rfl _)⟩

set_option maxRecDepth 100000 in
set_option maxHeartbeats 1000000 in
theorem isigned_any (w : World) (B : Nat) (t : ByteArray) (a : Nat) (bits : Nat) (hbits : bits = 32 ∨ bits = 64) (h : IrB w B t a 0) (ha : a ≤ t.size) (hs : t.size ≤ 140737488351232) :
    Calls Try.prog 164 #[.pointer (some ⟨B, 0, none⟩), .int .i64 bits] w fun r w' => r = .returned (.int .i64 (sgnM bits (left t a, 0)).1) ∧ (∃ a', a' ≤ t.size ∧ (sgnM bits (left t a, 0)).2.1 = left t a' ∧ IrB w' B t a' (sgnM bits (left t a, 0)).2.2) ∧ ToI B w w' := by
  have hls := left_size t a
  have hf := rs_facts hbits (left t a).data.toList 0 0 (by decide) (by omega)
  have hrd := fun wx => readS_ok (left t a) bits wx (okSc_max (s := (left t a, 0)) (by unfold okSc; simp only; omega)) hbits
  have hlen : (left t a).data.toList.length = (left t a).size := by simp
  have hll := left_left t a
  unfold sgnM
  unfold tupS at hrd
  simp only at hf hrd ⊢
  rw [if_neg (by simp)]
  generalize rs bits (left t a).data.toList 0 0 = q at *
  obtain ⟨n, k, e⟩ := q
  simp only at hf hrd ⊢
  have hk : a + k ≤ t.size := by
    by_cases h0 : e = 0
    · have := hf.1 h0; omega
    · have := hf.2 h0; omega
  have H := hid h
  have d0 : w.drew.cell? ⟨B, 0, none⟩ = some (.string t) := h.cell (i := 0) rfl
  have d1 : w.drew.cell? ⟨B, 1, none⟩ = some (.int .i64 a) := h.cell (i := 1) rfl
  have hk1 : (a : Int) ≤ (t.size : Int) := by omega
  have hk0 : (0 : Int) ≤ (a : Int) := by omega
  have hx : ¬ (9223372036854775807 < t.size) := by omega
  have e1 : wrap64 ((a : Int) + (k : Int)) = ((a + k : Nat) : Int) := by unfold wrap64; omega
  have e2 : IntKind.i64.wrap ((a : Int) + (k : Int)) = (a : Int) + (k : Int) := IntWalk.i64_in _ (by omega)
  have e3 : bad1 (e : Int) 0 = (e : Int) := rfl
  have HL := hid (And.intro (hll k) hk)
  have HRD := hid hrd
  unfold left at HRD
  have HF := hid (fun wx (hx : IrB wx B t a 0) => ifail_any wx B t a 0 e hx)
  clear hf hrd h hlen hll
  go_enter Try.func164, Try.ntmps164
  go_wp2_with fail
  go_region_held3 (fun w' => w'.cell? ⟨B, 0, none⟩ = some (.string t) ∧ w'.cell? ⟨B, 1, none⟩ = some (.int .i64 a)) (first | exact ⟨d0, d1⟩ | go_keep) (first | (go_at_call 180; (with_reducible refine (HRD.out _).mono ?_); rintro r w5 ⟨rfl, rfl⟩))
  go_wp2_with fail
  refine (HF.out _ (H.out.drew 1)).mono ?_
  rintro r w1 ⟨rfl, h1, h2⟩
  rw [e3] at h1
  have c1 := h1.cell (i := 1) rfl
  have cf := h1.free 1
  have HX := hid (And.intro (h1.set 1 (.int .i64 ((a : Int) + (k : Int)))) h2)
  clear h1 h2
  go_wp2_with fail
  go_ret
  exact ⟨rfl, ⟨a + k, HL.out.2, HL.out.1, HX.out.1⟩, ((Touch.of_below (num_below (n := 1) (Below.refl _ _))).trans HX.out.2).trans (Touch.setCell (F := fun j => j = B) (a := ⟨B, 1, none⟩) rfl _)⟩

/-- a letter that must be nought -/
def nogM (s : ByteArray × Int) : ByteArray × Int := sayM (decide ((octM s).1 ≠ 0)) 4 (octM s).2
set_option maxRecDepth 100000 in
set_option maxHeartbeats 1000000 in
theorem inought_any (w : World) (B : Nat) (t : ByteArray) (a : Nat) (bad : Int) (h : IrB w B t a bad) (ha : a ≤ t.size) (hs : t.size ≤ 140737488351232) :
    Calls Try.prog 163 #[.pointer (some ⟨B, 0, none⟩)] w fun r w' => r = .returned (.tuple #[]) ∧ (∃ a', a' ≤ t.size ∧ (nogM (left t a, bad)).1 = left t a' ∧ IrB w' B t a' (nogM (left t a, bad)).2) ∧ ToI B w w' := by
  have HO := hid (ioctet_any w B t a bad h ha hs)
  unfold nogM
  generalize octM (left t a, bad) = q at *
  obtain ⟨n, l, e⟩ := q
  simp only at HO ⊢
  clear h
  have HF := hid (fun wx a' (hx : IrB wx B t a' e) => ifail_any wx B t a' e 4 hx)
  by_cases hn : n = 0
  · subst hn
    go_enter Try.func163, Try.ntmps163
    go_wp2_with fail
    refine HO.out.mono ?_
    rintro r w1 ⟨rfl, ⟨a', h1, h2, h3⟩, h4⟩
    have HX := hid (And.intro (And.intro h1 h2) (And.intro h3 h4))
    clear h1 h2 h3 h4
    go_wp2_with fail
    go_end0
    exact ⟨rfl, ⟨a', HX.out.1.1, HX.out.1.2, HX.out.2.1⟩, HX.out.2.2⟩
  · have hn2 : ((n : Int) != 0) = true := by simp; omega
    have hsay : sayM (decide (n ≠ 0)) 4 (l, e) = (l, bad1 4 e) := by
      rw [decide_eq_true hn]
      unfold sayM bad1
      simp only [true_and]
      split <;> rfl
    rw [hsay]
    clear hn hsay
    go_enter Try.func163, Try.ntmps163
    go_wp2_with fail
    refine HO.out.mono ?_
    rintro r w1 ⟨rfl, ⟨a', h1, h2, h3⟩, h4⟩
    have HX := hid (And.intro (And.intro h1 h2) (And.intro h3 h4))
    clear h1 h2 h3 h4
    go_wp2_with fail
    refine (HF.out _ a' HX.out.2.1).mono ?_
    rintro r w2 ⟨rfl, h1, h2⟩
    have HY := hid (And.intro h1 h2)
    clear h1 h2
    go_wp2_with fail
    go_end0
    exact ⟨rfl, ⟨a', HX.out.1.1, HX.out.1.2, HY.out.1⟩, HX.out.2.2.trans HY.out.2⟩
end Go.Proofs.Ytomaiolhaenmhaa
