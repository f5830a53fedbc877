/-
  SHOTS: the program's reader: took, plain, signed, count. Conditions: lengths in the form's reach.
-/
import Derived.Test.YtpapblahnbeccaaRdM
import Derived.Test.YtpapblahnbeccaaStep
import Derived.Test.YtpapblahnbeccaaPart
namespace Go.Proofs.Ytpapblahnbeccaa
open Go.RowKit Go.Lib
attribute [local go_sem ↓] Go.wp_at_zero Go.wp_at_succ

def okSz (s : ByteArray × Int) : Prop := s.1.size ≤ 140737488351232
abbrev RdB (w : World) (B : Nat) (s : ByteArray × Int) : Prop := Blk w B 212 [.string s.1, .int .i64 s.2]
abbrev ToB (B : Nat) (w w' : World) : Prop := Touch (fun k => k = B) w w'
theorem okSz_max {s : ByteArray × Int} (h : okSz s) : s.1.size ≤ maxLen := by unfold okSz at h; unfold maxLen; omega


set_option maxRecDepth 100000 in
set_option maxHeartbeats 1000000 in
theorem tookU_any (w : World) (B : Nat) (rest : ByteArray) (bad : Int) (n : Nat) (k : Nat) (e : Int) (h : RdB w B (rest, bad)) (hk : k ≤ rest.size) (hs : rest.size ≤ 140737488351232) :
    Calls Try.prog 171 #[.pointer (some ⟨B, 0, none⟩), .int .u64 n, .int .i64 k, .int .i64 e] w fun r w' => r = .returned (.int .u64 (if bad ≠ 0 then 0 else (n : Int))) ∧ RdB w' B (if bad ≠ 0 then (rest, bad) else (rest.extract k rest.size, e)) ∧ ToB B w w' := by
  have H := hid h
  have b0 := h.cell (i := 0) rfl
  have b1 := h.cell (i := 1) rfl
  have bf := h.free
  clear h
  by_cases hb : bad ≠ 0
  · rw [if_pos hb, if_pos hb]
    have hb2 : (bad != 0) = true := by simpa using hb
    clear hb
    go_enter Try.func171, Try.ntmps171
    go_wp2_with fail
    go_ret
    exact ⟨rfl, H.out, Touch.refl _ _⟩
  · rw [if_neg hb, if_neg hb]
    have hb0 : bad = 0 := Classical.byContradiction hb
    subst hb0
    have hk1 : (k : Int) ≤ (rest.size : Int) := by omega
    have hk0 : (0 : Int) ≤ (k : Int) := by omega
    have hx : ¬ (9223372036854775807 < rest.size) := by omega
    have H2 := hid ((Blk.set H.out 1 (.int .i64 e)).set 0 (.string (rest.extract k rest.size)))
    have HT := hid ((Touch.setCell (w := w) (F := fun j => j = B) (a := ⟨B, 1, none⟩) rfl (.int .i64 e)).trans (Touch.setCell (F := fun j => j = B) (a := ⟨B, 0, none⟩) rfl (.string (rest.extract k rest.size))))
    clear hb
    go_enter Try.func171, Try.ntmps171
    go_wp2_with fail
    go_ret
    exact ⟨rfl, H2.out, HT.out⟩

set_option maxRecDepth 100000 in
set_option maxHeartbeats 1000000 in
theorem tookI_any (w : World) (B : Nat) (rest : ByteArray) (bad : Int) (n : Int) (k : Nat) (e : Int) (h : RdB w B (rest, bad)) (hk : k ≤ rest.size) (hs : rest.size ≤ 140737488351232) :
    Calls Try.prog 169 #[.pointer (some ⟨B, 0, none⟩), .int .i64 n, .int .i64 k, .int .i64 e] w fun r w' => r = .returned (.int .i64 (if bad ≠ 0 then 0 else (n : Int))) ∧ RdB w' B (if bad ≠ 0 then (rest, bad) else (rest.extract k rest.size, e)) ∧ ToB B w w' := by
  have H := hid h
  have b0 := h.cell (i := 0) rfl
  have b1 := h.cell (i := 1) rfl
  have bf := h.free
  clear h
  by_cases hb : bad ≠ 0
  · rw [if_pos hb, if_pos hb]
    have hb2 : (bad != 0) = true := by simpa using hb
    clear hb
    go_enter Try.func169, Try.ntmps169
    go_wp2_with fail
    go_ret
    exact ⟨rfl, H.out, Touch.refl _ _⟩
  · rw [if_neg hb, if_neg hb]
    have hb0 : bad = 0 := Classical.byContradiction hb
    subst hb0
    have hk1 : (k : Int) ≤ (rest.size : Int) := by omega
    have hk0 : (0 : Int) ≤ (k : Int) := by omega
    have hx : ¬ (9223372036854775807 < rest.size) := by omega
    have H2 := hid ((Blk.set H.out 1 (.int .i64 e)).set 0 (.string (rest.extract k rest.size)))
    have HT := hid ((Touch.setCell (w := w) (F := fun j => j = B) (a := ⟨B, 1, none⟩) rfl (.int .i64 e)).trans (Touch.setCell (F := fun j => j = B) (a := ⟨B, 0, none⟩) rfl (.string (rest.extract k rest.size))))
    clear hb
    go_enter Try.func169, Try.ntmps169
    go_wp2_with fail
    go_ret
    exact ⟨rfl, H2.out, HT.out⟩

set_option maxRecDepth 100000 in
set_option maxHeartbeats 1000000 in
theorem rplain_any (w : World) (B : Nat) (s : ByteArray × Int) (h : RdB w B s) (hs : okSz s) :
    Calls Try.prog 120 #[.pointer (some ⟨B, 0, none⟩)] w fun e w' => e = .returned (.int .i64 (numM s).1) ∧ RdB w' B (numM s).2 ∧ ToB B w w' := by
  have hf := ru_facts (b := 32) (.inl rfl) s.1.data.toList 0 0 (by decide) (by decide)
  have hrd := fun wx => readU_ok s.1 32 wx (okSz_max hs) (.inl rfl)
  have hlen : s.1.data.toList.length = s.1.size := by simp
  have hnm := numM_facts s
  obtain ⟨rest, bad⟩ := s
  unfold okSz at hs
  unfold numM at hnm ⊢
  unfold tup3 at hrd
  simp only at hf hrd hs hlen hnm ⊢
  generalize ru 32 rest.data.toList 0 0 = q at *
  obtain ⟨n, k, e⟩ := q
  simp only at hf hrd hnm ⊢
  have hk : k ≤ rest.size := by
    by_cases h0 : e = 0
    · have := (hf.1 h0).2.1; omega
    · have := (hf.2 h0).2; omega
  have htk := fun wx (hx : RdB wx B (rest, bad)) => tookU_any wx B rest bad n k e hx hk hs
  have hw : wrap64 (if bad ≠ 0 then 0 else (n : Int)) = (if bad ≠ 0 then 0 else (n : Int)) := by
    have hn : n < 4294967296 := by
      by_cases h0 : e = 0
      · have := (hf.1 h0).2.2; have e2 : (2 : Nat) ^ 32 = 4294967296 := by decide
        omega
      · have := (hf.2 h0).1; omega
    split <;> (unfold wrap64; omega)
  have hwi : IntKind.i64.wrap (if bad ≠ 0 then 0 else (n : Int)) = (if bad ≠ 0 then 0 else (n : Int)) := by
    rw [IntKind.wrap_i64]; unfold wrap64 at hw; exact hw
  have b0 := h.cell (i := 0) rfl
  have HTK := hid (htk w h)
  have HRD := hid hrd
  have e1 : (if bad ≠ 0 then ((0 : Int), rest, bad) else ((n : Int), rest.extract k rest.size, (e : Int))).1 = (if bad ≠ 0 then 0 else (n : Int)) := by split <;> rfl
  have e2 : (if bad ≠ 0 then ((0 : Int), rest, bad) else ((n : Int), rest.extract k rest.size, (e : Int))).2 = (if bad ≠ 0 then (rest, bad) else (rest.extract k rest.size, (e : Int))) := by split <;> rfl
  rw [e1, e2]
  generalize (if bad ≠ 0 then 0 else (n : Int)) = N at *
  generalize (if bad ≠ 0 then (rest, bad) else (rest.extract k rest.size, (e : Int))) = R at *
  clear hf hrd htk h hnm e1 e2 hlen
  go_enter Try.func120, Try.ntmps120
  go_wp2_with fail
  refine (HRD.out _).mono ?_
  rintro r w1 ⟨rfl, rfl⟩
  go_wp2_with fail
  refine HTK.out.mono ?_
  rintro r w1 ⟨rfl, h1, h2⟩
  go_wp2_with fail
  go_ret
  exact ⟨rfl, h1, h2⟩
set_option maxRecDepth 100000 in
set_option maxHeartbeats 1000000 in
theorem rsigned_any (w : World) (B : Nat) (s : ByteArray × Int) (bits : Nat) (hbits : bits = 32 ∨ bits = 64) (h : RdB w B s) (hs : okSz s) :
    Calls Try.prog 118 #[.pointer (some ⟨B, 0, none⟩), .int .i64 bits] w fun e w' => e = .returned (.int .i64 (sgnM bits s).1) ∧ RdB w' B (sgnM bits s).2 ∧ ToB B w w' := by
  have hf := rs_facts hbits s.1.data.toList 0 0 (by decide) (by omega)
  have hrd := fun wx => readS_ok s.1 bits wx (okSz_max hs) hbits
  have hlen : s.1.data.toList.length = s.1.size := by simp
  obtain ⟨rest, bad⟩ := s
  unfold okSz at hs
  unfold sgnM
  unfold tupS at hrd
  simp only at hf hrd hs hlen ⊢
  generalize rs bits rest.data.toList 0 0 = q at *
  obtain ⟨n, k, e⟩ := q
  simp only at hf hrd ⊢
  have hk : k ≤ rest.size := by
    by_cases h0 : e = 0
    · have := (hf.1 h0).2.1; omega
    · have := (hf.2 h0).2; omega
  have htk := tookI_any w B rest bad n k e h hk hs
  have b0 := h.cell (i := 0) rfl
  have HTK := hid htk
  have HRD := hid hrd
  have e1 : (if bad ≠ 0 then ((0 : Int), rest, bad) else ((n : Int), rest.extract k rest.size, (e : Int))).1 = (if bad ≠ 0 then 0 else (n : Int)) := by split <;> rfl
  have e2 : (if bad ≠ 0 then ((0 : Int), rest, bad) else ((n : Int), rest.extract k rest.size, (e : Int))).2 = (if bad ≠ 0 then (rest, bad) else (rest.extract k rest.size, (e : Int))) := by split <;> rfl
  rw [e1, e2]
  generalize (if bad ≠ 0 then 0 else (n : Int)) = N at *
  generalize (if bad ≠ 0 then (rest, bad) else (rest.extract k rest.size, (e : Int))) = R at *
  clear hf hrd htk h e1 e2 hlen
  go_enter Try.func118, Try.ntmps118
  go_wp2_with fail
  refine (HRD.out _).mono ?_
  rintro r w1 ⟨rfl, rfl⟩
  go_wp2_with fail
  refine HTK.out.mono ?_
  rintro r w1 ⟨rfl, h1, h2⟩
  go_wp2_with fail
  go_ret
  exact ⟨rfl, h1, h2⟩
set_option maxRecDepth 100000 in
set_option maxHeartbeats 1000000 in
theorem rcount_any (w : World) (B : Nat) (s : ByteArray × Int) (most : Int) (h : RdB w B s) (hs : okSz s) :
    Calls Try.prog 117 #[.pointer (some ⟨B, 0, none⟩), .int .i64 most] w fun e w' => e = .returned (.int .i64 (cntM most s).1) ∧ RdB w' B (cntM most s).2 ∧ ToB B w w' := by
  have HP := hid (rplain_any w B s h hs)
  unfold cntM
  generalize numM s = q at *
  obtain ⟨n, rest, bad⟩ := q
  simp only at HP ⊢
  clear h hs
  by_cases hb : bad ≠ 0
  · rw [if_pos hb]
    have hb2 : (bad != 0) = true := by simpa using hb
    have hb3 : (bad == 0) = false := by simpa using hb
    clear hb
    go_enter Try.func117, Try.ntmps117
    go_wp2_with fail
    refine HP.out.mono ?_
    rintro r w1 ⟨rfl, h1, h2⟩
    have b1 := h1.cell (i := 1) rfl
    have HX := hid (And.intro h1 h2)
    clear h1 h2
    go_wp2_with fail
    go_ret
    exact ⟨rfl, HX.out.1, HX.out.2⟩
  · rw [if_neg hb]
    have hb0 : bad = 0 := Classical.byContradiction hb
    subst hb0
    clear hb
    by_cases hm : most < n
    · rw [if_pos hm]
      go_enter Try.func117, Try.ntmps117
      go_wp2_with fail
      refine HP.out.mono ?_
      rintro r w1 ⟨rfl, h1, h2⟩
      have b1 := h1.cell (i := 1) rfl
      have bf := h1.free 1
      have HX := hid (And.intro (h1.set 1 (.int .i64 2)) (h2.trans (Touch.setCell (F := fun j => j = B) (a := ⟨B, 1, none⟩) rfl (.int .i64 2))))
      clear h1 h2
      go_wp2_with fail
      go_ret
      exact ⟨rfl, HX.out.1, HX.out.2⟩
    · rw [if_neg hm]
      have hm2 : n ≤ most := by omega
      have hm3 : decide (most < n) = false := decide_eq_false hm
      go_enter Try.func117, Try.ntmps117
      go_wp2_with fail
      refine HP.out.mono ?_
      rintro r w1 ⟨rfl, h1, h2⟩
      have b1 := h1.cell (i := 1) rfl
      have HX := hid (And.intro h1 h2)
      clear h1 h2
      go_wp2_with fail
      go_ret
      exact ⟨rfl, HX.out.1, HX.out.2⟩
end Go.Proofs.Ytpapblahnbeccaa
