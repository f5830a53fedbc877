/-
  MODULES AS BYTES, the program's checker: need, says, kind, index, place. No condition beside the object's memory.
-/
import Derived.Test.YtdiiefhklcchmaaDoorRowK
import Derived.Test.YtdiiefhklcchmaaDoorGBinChecks3
import Derived.Test.YtdiiefhklcchmaaDoorPart
import Derived.IntWalk
namespace Go.Proofs.YtdiiefhklcchmaaDoor
open Go.RowKit Go.Lib

def PC (w : World) (C : Nat) (b : Int) : Prop := Blk w C 36 [.int .i64 b]
def CPost (C : Nat) (b : Int) (w : World) (e : Ending) (w' : World) : Prop := e = .returned (.tuple #[]) ∧ PC w' C b ∧ Touch (fun k => k = C) w w'
theorem PC.below {w w' : World} {C : Nat} {b : Int} (h : PC w C b) (hb : Below w.heap.size w w') : PC w' C b := Blk.below h hb
theorem CPost.base {W w w' : World} {C : Nat} {b : Int} {e : Ending} (h : CPost C b w e w') (hb : Below W.heap.size W w) (hC : W.heap.size ≤ C) : Below W.heap.size W w' := hb.trans (h.2.2.below hb.size (fun _ hk => hk ▸ hC))
set_option maxRecDepth 100000 in
theorem need_any (w : World) (C : Nat) (b e : Int) (is : Bool) (h : PC w C b) :
    Calls Tryd.prog 17 #[.pointer (some ⟨C, 0, none⟩), .bool is, .int .i64 e] w (CPost C (orE b (ndE is e)) w) := by
  have H := hid h
  have c0 := Blk.cell h (i := 0) rfl
  have cf := Blk.free h
  clear h
  by_cases hb : b = 0
  · subst hb
    cases is with
    | true =>
      go_enter Tryd.func17, Tryd.ntmps17
      go_wp2_with fail
      go_end0
      exact ⟨rfl, H.out, Touch.refl _ _⟩
    | false =>
      go_enter Tryd.func17, Tryd.ntmps17
      go_wp2_with fail
      go_end0
      exact ⟨rfl, H.out.set 0 _, Touch.setCell (F := fun k => k = C) (a := ⟨C, 0, none⟩) rfl _⟩
  · have hz : (b == 0) = false := by simpa using hb
    rw [orE_stop hb]
    go_enter Tryd.func17, Tryd.ntmps17
    go_wp2_with fail
    go_end0
    exact ⟨rfl, H.out, Touch.refl _ _⟩
set_option maxRecDepth 100000 in
theorem says_any (w : World) (C : Nat) (b e : Int) (h : PC w C b) :
    Calls Tryd.prog 41 #[.pointer (some ⟨C, 0, none⟩), .int .i64 e] w (CPost C (orE b e) w) := by
  have H := hid h
  have c0 := Blk.cell h (i := 0) rfl
  have cf := Blk.free h
  clear h
  by_cases hb : b = 0
  · subst hb
    go_enter Tryd.func41, Tryd.ntmps41
    go_wp2_with fail
    go_end0
    exact ⟨rfl, H.out.set 0 _, Touch.setCell (F := fun k => k = C) (a := ⟨C, 0, none⟩) rfl _⟩
  · have hz : (b == 0) = false := by simpa using hb
    rw [orE_stop hb]
    go_enter Tryd.func41, Tryd.ntmps41
    go_wp2_with fail
    go_end0
    exact ⟨rfl, H.out, Touch.refl _ _⟩
set_option maxRecDepth 100000 in
theorem isKind_any (k : Int) (w : World) : Calls Tryd.prog 44 #[.int .u8 k] w fun e w' => e = .returned (.bool (isK k)) ∧ w = w' := by
  by_cases h1 : k = 127
  · subst h1
    go_enter Tryd.func44, Tryd.ntmps44
    go_wp2_with fail
    go_ret
    exact ⟨rfl, rfl⟩
  · have e1 : (k == 127) = false := by simpa using h1
    by_cases h2 : k = 126
    · subst h2
      go_enter Tryd.func44, Tryd.ntmps44
      go_wp2_with fail
      go_ret
      exact ⟨rfl, rfl⟩
    · have e2 : (k == 126) = false := by simpa using h2
      have HR := hid (show isK k = false from decide_eq_false (by omega))
      clear h1 h2
      go_enter Tryd.func44, Tryd.ntmps44
      go_wp2_with fail
      go_ret
      rw [HR.out]
      exact ⟨rfl, rfl⟩
set_option maxRecDepth 100000 in
theorem isIndexB_any (n : Int) (w : World) : Calls Tryd.prog 42 #[.int .i64 n] w fun e w' => e = .returned (.bool (isI n)) ∧ w = w' := by
  by_cases h1 : n < 0
  · have HR := hid (show isI n = false from decide_eq_false (by omega))
    have d1 : decide (0 ≤ n) = false := decide_eq_false (by omega)
    go_enter Tryd.func42, Tryd.ntmps42
    go_wp2_with fail
    go_ret
    rw [HR.out]
    exact ⟨rfl, rfl⟩
  · have h0 : 0 ≤ n := by omega
    have HR := hid (show isI n = decide (n ≤ 4294967295) from by
      unfold isI
      by_cases h2 : n ≤ 4294967295
      · rw [decide_eq_true h2, decide_eq_true ⟨h0, h2⟩]
      · rw [decide_eq_false h2, decide_eq_false (fun g => h2 g.2)])
    go_enter Tryd.func42, Tryd.ntmps42
    go_wp2_with fail
    go_ret
    rw [HR.out]
    exact ⟨rfl, rfl⟩
set_option maxRecDepth 100000 in
theorem isPlace_any (n : Int) (hn : -9223372036854775808 ≤ n ∧ n ≤ 9223372036854775807) (w : World) : Calls Tryd.prog 46 #[.int .i64 n] w fun e w' => e = .returned (.bool (isP n)) ∧ w = w' := by
  obtain ⟨h0, h1⟩ := hn
  obtain ⟨m, hm⟩ : ∃ m, IntKind.i32.wrap n = m := ⟨_, rfl⟩
  have hm2 := hm
  rw [IntKind.wrap_i32] at hm2
  have hm0 : -2147483648 ≤ m ∧ m ≤ 2147483647 := by omega
  have HR := hid (show (n == m) = isP n from by
    unfold isP
    by_cases g : -2147483648 ≤ n ∧ n ≤ 2147483647
    · rw [decide_eq_true g]; simp; omega
    · rw [decide_eq_false g]; simp; omega)
  have hw : IntKind.i64.wrap m = m := IntWalk.i64_in _ (by omega)
  clear hm2 hm0
  go_enter Tryd.func46, Tryd.ntmps46
  go_wp2_with fail
  go_ret
  rw [← HR.out]
  exact ⟨rfl, rfl⟩
set_option maxRecDepth 100000 in
theorem kindB_any (w : World) (C : Nat) (b k : Int) (h : PC w C b) :
    Calls Tryd.prog 20 #[.pointer (some ⟨C, 0, none⟩), .int .u8 k] w (CPost C (orE b (fKind k)) w) := by
  have HK := hid (fun wx => isKind_any k wx)
  have HN := hid (fun wx h => need_any wx C b 1 (isK k) h)
  have H := hid h
  unfold fKind
  generalize isK k = bk at *
  clear h
  go_enter Tryd.func20, Tryd.ntmps20
  go_wp2_with (first | (go_at_call 44; refine (HK.out _).mono ?_; rintro r w1 ⟨rfl, rfl⟩) | (go_at_call 17; refine (HN.out _ H.out).mono ?_; rintro r w2 hp; obtain ⟨rfl, hq⟩ := hp; have HQ := hid hq; clear hq))
  go_end0
  exact ⟨rfl, HQ.out⟩
set_option maxRecDepth 100000 in
theorem indexB_any (w : World) (C : Nat) (b n : Int) (h : PC w C b) :
    Calls Tryd.prog 14 #[.pointer (some ⟨C, 0, none⟩), .int .i64 n] w (CPost C (orE b (fIdx n)) w) := by
  have HK := hid (fun wx => isIndexB_any n wx)
  have HN := hid (fun wx h => need_any wx C b 1 (isI n) h)
  have H := hid h
  unfold fIdx
  generalize isI n = bk at *
  clear h
  go_enter Tryd.func14, Tryd.ntmps14
  go_wp2_with (first | (go_at_call 42; refine (HK.out _).mono ?_; rintro r w1 ⟨rfl, rfl⟩) | (go_at_call 17; refine (HN.out _ H.out).mono ?_; rintro r w2 hp; obtain ⟨rfl, hq⟩ := hp; have HQ := hid hq; clear hq))
  go_end0
  exact ⟨rfl, HQ.out⟩
set_option maxRecDepth 100000 in
theorem placeB_any (w : World) (C : Nat) (b n : Int) (hn : -9223372036854775808 ≤ n ∧ n ≤ 9223372036854775807) (h : PC w C b) :
    Calls Tryd.prog 27 #[.pointer (some ⟨C, 0, none⟩), .int .i64 n] w (CPost C (orE b (fPlc n)) w) := by
  have HK := hid (fun wx => isPlace_any n hn wx)
  have HN := hid (fun wx h => need_any wx C b 1 (isP n) h)
  have H := hid h
  unfold fPlc
  generalize isP n = bk at *
  clear h hn
  go_enter Tryd.func27, Tryd.ntmps27
  go_wp2_with (first | (go_at_call 46; refine (HK.out _).mono ?_; rintro r w1 ⟨rfl, rfl⟩) | (go_at_call 17; refine (HN.out _ H.out).mono ?_; rintro r w2 hp; obtain ⟨rfl, hq⟩ := hp; have HQ := hid hq; clear hq))
  go_end0
  exact ⟨rfl, HQ.out⟩
end Go.Proofs.YtdiiefhklcchmaaDoor
/-
  MODULES AS BYTES, the program's each over kinds and numbers. No condition beside the objects' memory.
-/
namespace Go.Proofs.YtdiiefhklcchmaaDoor
open Go.RowKit Go.Lib

abbrev kindV (C : Nat) : Value := .func (.func 20) #[.pointer (some ⟨C, 0, none⟩)] #[]
abbrev indexV (C : Nat) : Value := .func (.func 14) #[.pointer (some ⟨C, 0, none⟩)] #[]
set_option maxRecDepth 100000 in
set_option maxHeartbeats 2000000 in
theorem eachKind_any (W w : World) (C : Nat) (b : Int) (v : Value) (ys : List Int) (most : Int) (hb : Below W.heap.size W w) (hC : W.heap.size ≤ C) (hl : Ints W .u8 v ys) (h : PC w C b) :
    Calls Tryd.prog 39 #[.pointer (some ⟨C, 0, none⟩), v, .int .i64 most, kindV C] w (CPost C (orE b (eachE fKind ys most)) w) := by
  have HN := hid (fun wx h => need_any wx C b 2 (decide ((ys.length : Int) ≤ most)) h)
  have H := hid h
  have HL := hid hl
  have HB := hid hb
  obtain ⟨ao, cap, rfl, hcap, hcm, _, _⟩ := id hl
  unfold eachE
  rw [← orE_assoc]
  obtain ⟨bs, hbs⟩ : ∃ bs, decide ((ys.length : Int) ≤ most) = bs := ⟨_, rfl⟩
  rw [hbs] at HN
  rw [hbs]
  obtain ⟨b1, hb1⟩ : ∃ b1, orE b (ndE bs 2) = b1 := ⟨_, rfl⟩
  rw [hb1] at HN
  rw [hb1]
  have HNX := hid (fun k (hk : k < ys.length) => foldE_next fKind ys k hk b1)
  have HSP := hid (fun k (hk : orE b1 (foldE fKind (ys.take k)) ≠ 0) => foldE_stop fKind ys k b1 hk)
  have HFL := hid (foldE_full fKind ys b1)
  obtain ⟨n, hn⟩ : ∃ n, ys.length = n := ⟨_, rfl⟩
  have HLN := hid hn
  rw [hn] at hcap HL hbs HFL
  rw [hn]
  have hn9 : (n : Int) ≤ 9223372036854775807 := by omega
  clear h hl hb hb1 hn
  unfold kindV
  go_enter Tryd.func39, Tryd.ntmps39
  go_wp2_with (go_at_call 17; refine (HN.out _ H.out).mono ?_; rintro r w2 hp; obtain ⟨rfl, hq⟩ := hp; have HQ := hid hq; clear hq)
  go_loopw [18] (fun i wr => ∃ k : Nat, k ≤ n ∧ i = .int .i64 k ∧ Hid (PC wr C (orE b1 (foldE fKind (ys.take k)))) ∧ Hid (Touch (fun k => k = C) w wr)) (fun i _ => n - (RowKit.intOf i).toNat)
  case atStart => exact ⟨0, Nat.zero_le _, rfl, hid (by rw [List.take_zero]; show PC w2 C (orE b1 0); rw [orE_none]; exact HQ.out.1), hid HQ.out.2⟩
  case round =>
    obtain ⟨k, hk, rfl, PP, TT⟩ := hrel
    by_cases hlt : k < n
    · have hkl : k < ys.length := by rw [HLN.out]; exact hlt
      have hI := L1.below HL.out (HB.out.trans (TT.out.below HB.out.size (fun _ hk => hk ▸ hC)))
      rcases hI.open with ⟨_, _, _, e, _⟩ | ⟨lb, lo, cap', hv, _, hcap3, hcap2, hc⟩
      · rw [e] at hkl; simp at hkl
      simp only [Value.slice.injEq] at hv
      obtain ⟨rfl, -, rfl⟩ := hv
      have y0 := hc k hkl
      have HNK := hid (HNX.out k hkl)
      have HSK := hid (HSP.out k)
      clear hc hI hcap3
      generalize hcur : orE b1 (foldE fKind (ys.take k)) = cur at *
      generalize ys[k] = y at *
      clear hkl
      have c0 := Blk.cell PP.out (i := 0) rfl
      clear hcur
      by_cases hz : cur = 0
      · subst hz
        go_wp2_with (go_at_call 20; refine (kindB_any _ C 0 y PP.out).mono ?_; rintro r w3 hp; obtain ⟨rfl, hq⟩ := hp; have HQ3 := hid hq; clear hq)
        go_roundw
        case rel => exact ⟨k + 1, by omega, by go_num, hid (by rw [← HNK.out]; exact HQ3.out.1), hid (TT.out.trans' HQ3.out.2 (fun _ _ h => h))⟩
        case measure => simp [RowKit.intOf]; omega
      · have hz2 : (cur == 0) = false := by simpa using hz
        have HE := hid (HSK.out hz)
        clear hz
        go_wp2_with fail
        go_end0
        rw [HE.out]
        exact ⟨rfl, PP.out, TT.out⟩
    · obtain rfl : k = n := by omega
      go_wp2_with fail
      go_end0
      rw [← HFL.out]
      exact ⟨rfl, PP.out, TT.out⟩
set_option maxRecDepth 100000 in
set_option maxHeartbeats 2000000 in
theorem eachInt_any (W w : World) (C : Nat) (b : Int) (v : Value) (ys : List Int) (most : Int) (hb : Below W.heap.size W w) (hC : W.heap.size ≤ C) (hl : Ints W .i64 v ys) (h : PC w C b) :
    Calls Tryd.prog 45 #[.pointer (some ⟨C, 0, none⟩), v, .int .i64 most, indexV C] w (CPost C (orE b (eachE fIdx ys most)) w) := by
  have HN := hid (fun wx h => need_any wx C b 2 (decide ((ys.length : Int) ≤ most)) h)
  have H := hid h
  have HL := hid hl
  have HB := hid hb
  obtain ⟨ao, cap, rfl, hcap, hcm, _, _⟩ := id hl
  unfold eachE
  rw [← orE_assoc]
  obtain ⟨bs, hbs⟩ : ∃ bs, decide ((ys.length : Int) ≤ most) = bs := ⟨_, rfl⟩
  rw [hbs] at HN
  rw [hbs]
  obtain ⟨b1, hb1⟩ : ∃ b1, orE b (ndE bs 2) = b1 := ⟨_, rfl⟩
  rw [hb1] at HN
  rw [hb1]
  have HNX := hid (fun k (hk : k < ys.length) => foldE_next fIdx ys k hk b1)
  have HSP := hid (fun k (hk : orE b1 (foldE fIdx (ys.take k)) ≠ 0) => foldE_stop fIdx ys k b1 hk)
  have HFL := hid (foldE_full fIdx ys b1)
  obtain ⟨n, hn⟩ : ∃ n, ys.length = n := ⟨_, rfl⟩
  have HLN := hid hn
  rw [hn] at hcap HL hbs HFL
  rw [hn]
  have hn9 : (n : Int) ≤ 9223372036854775807 := by omega
  clear h hl hb hb1 hn
  unfold indexV
  go_enter Tryd.func45, Tryd.ntmps45
  go_wp2_with (go_at_call 17; refine (HN.out _ H.out).mono ?_; rintro r w2 hp; obtain ⟨rfl, hq⟩ := hp; have HQ := hid hq; clear hq)
  go_loopw [18] (fun i wr => ∃ k : Nat, k ≤ n ∧ i = .int .i64 k ∧ Hid (PC wr C (orE b1 (foldE fIdx (ys.take k)))) ∧ Hid (Touch (fun k => k = C) w wr)) (fun i _ => n - (RowKit.intOf i).toNat)
  case atStart => exact ⟨0, Nat.zero_le _, rfl, hid (by rw [List.take_zero]; show PC w2 C (orE b1 0); rw [orE_none]; exact HQ.out.1), hid HQ.out.2⟩
  case round =>
    obtain ⟨k, hk, rfl, PP, TT⟩ := hrel
    by_cases hlt : k < n
    · have hkl : k < ys.length := by rw [HLN.out]; exact hlt
      have hI := L1.below HL.out (HB.out.trans (TT.out.below HB.out.size (fun _ hk => hk ▸ hC)))
      rcases hI.open with ⟨_, _, _, e, _⟩ | ⟨lb, lo, cap', hv, _, hcap3, hcap2, hc⟩
      · rw [e] at hkl; simp at hkl
      simp only [Value.slice.injEq] at hv
      obtain ⟨rfl, -, rfl⟩ := hv
      have y0 := hc k hkl
      have HNK := hid (HNX.out k hkl)
      have HSK := hid (HSP.out k)
      clear hc hI hcap3
      generalize hcur : orE b1 (foldE fIdx (ys.take k)) = cur at *
      generalize ys[k] = y at *
      clear hkl
      have c0 := Blk.cell PP.out (i := 0) rfl
      clear hcur
      by_cases hz : cur = 0
      · subst hz
        go_wp2_with (go_at_call 14; refine (indexB_any _ C 0 y PP.out).mono ?_; rintro r w3 hp; obtain ⟨rfl, hq⟩ := hp; have HQ3 := hid hq; clear hq)
        go_roundw
        case rel => exact ⟨k + 1, by omega, by go_num, hid (by rw [← HNK.out]; exact HQ3.out.1), hid (TT.out.trans' HQ3.out.2 (fun _ _ h => h))⟩
        case measure => simp [RowKit.intOf]; omega
      · have hz2 : (cur == 0) = false := by simpa using hz
        have HE := hid (HSK.out hz)
        clear hz
        go_wp2_with fail
        go_end0
        rw [HE.out]
        exact ⟨rfl, PP.out, TT.out⟩
    · obtain rfl : k = n := by omega
      go_wp2_with fail
      go_end0
      rw [← HFL.out]
      exact ⟨rfl, PP.out, TT.out⟩
end Go.Proofs.YtdiiefhklcchmaaDoor
