/-
  MODULES AS BYTES, the program's each over kinds and numbers. No condition beside the objects' memory.
-/
import Derived.Test.YtdiiefhklcchmaaDoorGValidHeads1
import Derived.Test.YtdiiefhklcchmaaDoorLebV
import Derived.Test.YtdiiefhklcchmaaDoorGValidHeads2
import Derived.Test.YtdiiefhklcchmaaDoorGValidHeads3
import Derived.Test.YtdiiefhklcchmaaDoorShelf
import Derived.Test.YtdiiefhklcchmaaDoorNsB
import Derived.Test.YtdiiefhklcchmaaDoorGValidHeads4
import Derived.Lib.LaidU8T
namespace Go.Proofs.YtdiiefhklcchmaaDoor
open Go.RowKit Go.Lib

abbrev kindV (C : Nat) : Value := .func (.func 20) #[.pointer (some ⟨C, 0, none⟩)] #[]
abbrev indexV (C : Nat) : Value := .func (.func 14) #[.pointer (some ⟨C, 0, none⟩)] #[]
set_option maxRecDepth 100000 in
set_option maxHeartbeats 2000000 in
theorem eachKind_any (W w : World) (C : Nat) (b : Int) (v : Value) (ys : List Int) (most : Int) (hb : Below W.heap.size W w) (hC : W.heap.size ≤ C) (hl : Ints W .u8 v ys) (h : PC w C b) :
    Calls Tryd.prog 39 #[.pointer (some ⟨C, 0, none⟩), v, .int .i64 most, kindV C] w (CPost C (orE b (eachE fKind ys most)) w) := by
  have HN := hid (fun wx h => need_any wx C b 2 (decide ((ys.length : Int) ≤ most)) h)
  have H := hid h
  have HL := hid hl
  have HB := hid hb
  obtain ⟨ao, cap, rfl, hcap, hcm, _, _⟩ := id hl
  unfold eachE
  rw [← orE_assoc]
  obtain ⟨bs, hbs⟩ : ∃ bs, decide ((ys.length : Int) ≤ most) = bs := ⟨_, rfl⟩
  rw [hbs] at HN
  rw [hbs]
  obtain ⟨b1, hb1⟩ : ∃ b1, orE b (ndE bs 2) = b1 := ⟨_, rfl⟩
  rw [hb1] at HN
  rw [hb1]
  have HNX := hid (fun k (hk : k < ys.length) => foldE_next fKind ys k hk b1)
  have HSP := hid (fun k (hk : orE b1 (foldE fKind (ys.take k)) ≠ 0) => foldE_stop fKind ys k b1 hk)
  have HFL := hid (foldE_full fKind ys b1)
  obtain ⟨n, hn⟩ : ∃ n, ys.length = n := ⟨_, rfl⟩
  have HLN := hid hn
  rw [hn] at hcap HL hbs HFL
  rw [hn]
  have hn9 : (n : Int) ≤ 9223372036854775807 := by omega
  clear h hl hb hb1 hn
  unfold kindV
  go_enter Tryd.func39, Tryd.ntmps39
  go_wp2_with (go_at_call 17; refine (HN.out _ H.out).mono ?_; rintro r w2 hp; obtain ⟨rfl, hq⟩ := hp; have HQ := hid hq; clear hq)
  go_loopw [18] (fun i wr => ∃ k : Nat, k ≤ n ∧ i = .int .i64 k ∧ Hid (PC wr C (orE b1 (foldE fKind (ys.take k)))) ∧ Hid (Touch (fun k => k = C) w wr)) (fun i _ => n - (RowKit.intOf i).toNat)
  case atStart => exact ⟨0, Nat.zero_le _, rfl, hid (by rw [List.take_zero]; show PC w2 C (orE b1 0); rw [orE_none]; exact HQ.out.1), hid HQ.out.2⟩
  case round =>
    obtain ⟨k, hk, rfl, PP, TT⟩ := hrel
    by_cases hlt : k < n
    · have hkl : k < ys.length := by rw [HLN.out]; exact hlt
      have hI := L1.below HL.out (HB.out.trans (TT.out.below HB.out.size (fun _ hk => hk ▸ hC)))
      rcases hI.open with ⟨_, _, _, e, _⟩ | ⟨lb, lo, cap', hv, _, hcap3, hcap2, hc⟩
      · rw [e] at hkl; simp at hkl
      simp only [Value.slice.injEq] at hv
      obtain ⟨rfl, -, rfl⟩ := hv
      have y0 := hc k hkl
      have HNK := hid (HNX.out k hkl)
      have HSK := hid (HSP.out k)
      clear hc hI hcap3
      generalize hcur : orE b1 (foldE fKind (ys.take k)) = cur at *
      generalize ys[k] = y at *
      clear hkl
      have c0 := Blk.cell PP.out (i := 0) rfl
      clear hcur
      by_cases hz : cur = 0
      · subst hz
        go_wp2_with (go_at_call 20; refine (kindB_any _ C 0 y PP.out).mono ?_; rintro r w3 hp; obtain ⟨rfl, hq⟩ := hp; have HQ3 := hid hq; clear hq)
        go_roundw
        case rel => exact ⟨k + 1, by omega, by go_num, hid (by rw [← HNK.out]; exact HQ3.out.1), hid (TT.out.trans' HQ3.out.2 (fun _ _ h => h))⟩
        case measure => simp [RowKit.intOf]; omega
      · have hz2 : (cur == 0) = false := by simpa using hz
        have HE := hid (HSK.out hz)
        clear hz
        go_wp2_with fail
        go_end0
        rw [HE.out]
        exact ⟨rfl, PP.out, TT.out⟩
    · obtain rfl : k = n := by omega
      go_wp2_with fail
      go_end0
      rw [← HFL.out]
      exact ⟨rfl, PP.out, TT.out⟩
set_option maxRecDepth 100000 in
set_option maxHeartbeats 2000000 in
theorem eachInt_any (W w : World) (C : Nat) (b : Int) (v : Value) (ys : List Int) (most : Int) (hb : Below W.heap.size W w) (hC : W.heap.size ≤ C) (hl : Ints W .i64 v ys) (h : PC w C b) :
    Calls Tryd.prog 45 #[.pointer (some ⟨C, 0, none⟩), v, .int .i64 most, indexV C] w (CPost C (orE b (eachE fIdx ys most)) w) := by
  have HN := hid (fun wx h => need_any wx C b 2 (decide ((ys.length : Int) ≤ most)) h)
  have H := hid h
  have HL := hid hl
  have HB := hid hb
  obtain ⟨ao, cap, rfl, hcap, hcm, _, _⟩ := id hl
  unfold eachE
  rw [← orE_assoc]
  obtain ⟨bs, hbs⟩ : ∃ bs, decide ((ys.length : Int) ≤ most) = bs := ⟨_, rfl⟩
  rw [hbs] at HN
  rw [hbs]
  obtain ⟨b1, hb1⟩ : ∃ b1, orE b (ndE bs 2) = b1 := ⟨_, rfl⟩
  rw [hb1] at HN
  rw [hb1]
  have HNX := hid (fun k (hk : k < ys.length) => foldE_next fIdx ys k hk b1)
  have HSP := hid (fun k (hk : orE b1 (foldE fIdx (ys.take k)) ≠ 0) => foldE_stop fIdx ys k b1 hk)
  have HFL := hid (foldE_full fIdx ys b1)
  obtain ⟨n, hn⟩ : ∃ n, ys.length = n := ⟨_, rfl⟩
  have HLN := hid hn
  rw [hn] at hcap HL hbs HFL
  rw [hn]
  have hn9 : (n : Int) ≤ 9223372036854775807 := by omega
  clear h hl hb hb1 hn
  unfold indexV
  go_enter Tryd.func45, Tryd.ntmps45
  go_wp2_with (go_at_call 17; refine (HN.out _ H.out).mono ?_; rintro r w2 hp; obtain ⟨rfl, hq⟩ := hp; have HQ := hid hq; clear hq)
  go_loopw [18] (fun i wr => ∃ k : Nat, k ≤ n ∧ i = .int .i64 k ∧ Hid (PC wr C (orE b1 (foldE fIdx (ys.take k)))) ∧ Hid (Touch (fun k => k = C) w wr)) (fun i _ => n - (RowKit.intOf i).toNat)
  case atStart => exact ⟨0, Nat.zero_le _, rfl, hid (by rw [List.take_zero]; show PC w2 C (orE b1 0); rw [orE_none]; exact HQ.out.1), hid HQ.out.2⟩
  case round =>
    obtain ⟨k, hk, rfl, PP, TT⟩ := hrel
    by_cases hlt : k < n
    · have hkl : k < ys.length := by rw [HLN.out]; exact hlt
      have hI := L1.below HL.out (HB.out.trans (TT.out.below HB.out.size (fun _ hk => hk ▸ hC)))
      rcases hI.open with ⟨_, _, _, e, _⟩ | ⟨lb, lo, cap', hv, _, hcap3, hcap2, hc⟩
      · rw [e] at hkl; simp at hkl
      simp only [Value.slice.injEq] at hv
      obtain ⟨rfl, -, rfl⟩ := hv
      have y0 := hc k hkl
      have HNK := hid (HNX.out k hkl)
      have HSK := hid (HSP.out k)
      clear hc hI hcap3
      generalize hcur : orE b1 (foldE fIdx (ys.take k)) = cur at *
      generalize ys[k] = y at *
      clear hkl
      have c0 := Blk.cell PP.out (i := 0) rfl
      clear hcur
      by_cases hz : cur = 0
      · subst hz
        go_wp2_with (go_at_call 14; refine (indexB_any _ C 0 y PP.out).mono ?_; rintro r w3 hp; obtain ⟨rfl, hq⟩ := hp; have HQ3 := hid hq; clear hq)
        go_roundw
        case rel => exact ⟨k + 1, by omega, by go_num, hid (by rw [← HNK.out]; exact HQ3.out.1), hid (TT.out.trans' HQ3.out.2 (fun _ _ h => h))⟩
        case measure => simp [RowKit.intOf]; omega
      · have hz2 : (cur == 0) = false := by simpa using hz
        have HE := hid (HSK.out hz)
        clear hz
        go_wp2_with fail
        go_end0
        rw [HE.out]
        exact ⟨rfl, PP.out, TT.out⟩
    · obtain rfl : k = n := by omega
      go_wp2_with fail
      go_end0
      rw [← HFL.out]
      exact ⟨rfl, PP.out, TT.out⟩
end Go.Proofs.YtdiiefhklcchmaaDoor
/-
  THE LEB128 READER OF NUMBERS WITHOUT A SIGN, the reference's, for all strings. No condition beside a string's length.
-/
namespace Go.Proofs.YtdiiefhklcchmaaDoor
open Go.RowKit

theorem pow128 (k : Nat) : (128 : Nat) ^ k = 2 ^ (7 * k) := by
  rw [Nat.pow_mul]

theorem refU_eq {b : Nat} (hb : b = 32 ∨ b = 64) (l : List UInt8) : refU b l = ru b l 0 0 := by
  have hm : 0 < mostOf b := by unfold mostOf; split <;> decide
  rw [ru_lead hb l 0 0 hm]
  simp only [Nat.zero_add, Nat.sub_zero, Nat.mul_zero, Nat.pow_zero, Nat.one_mul]
  unfold refU spanR
  by_cases h1 : lead (mostOf b) l = mostOf b
  · simp [h1]
  · by_cases h2 : lead (mostOf b) l = l.length
    · rw [if_neg h1, if_pos h2, if_neg h1, if_pos h2]; simp
    · rw [if_neg h1, if_neg h2, if_neg h1, if_neg h2]
      simp only [ne_eq, not_true_eq_false, if_false, Nat.add_sub_cancel]
      split
      · rfl
      · rename_i h3
        have hl := lead_le (mostOf b) l
        congr 1
        apply Nat.mod_eq_of_lt
        have hk : lead (mostOf b) l < l.length := by omega
        rw [List.take_succ_eq_append_getElem hk, horner_snoc]
        have ht : (l.take (lead (mostOf b) l)).length = lead (mostOf b) l := by simp; omega
        have h4 := horner_lt (l.take (lead (mostOf b) l))
        rw [ht] at h4 ⊢
        have hg : l.getD (lead (mostOf b) l) 0 = l[lead (mostOf b) l] := by
          rw [List.getD_eq_getElem?_getD, List.getElem?_eq_getElem hk]; rfl
        rw [hg] at h3
        generalize lead (mostOf b) l = k at *
        have hbb : (2 : Nat) ^ b ≤ 2 ^ 64 := Nat.pow_le_pow_right (by decide) (by omega)
        have e64 : (2 : Nat) ^ 64 = 18446744073709551616 := by decide
        have hmod : l[k].toNat % 128 ≤ l[k].toNat := Nat.mod_le _ _
        have hmod2 := Nat.mod_lt l[k].toNat (show 0 < 128 by decide)
        rw [pow128] at h4 ⊢
        suffices h : horner (l.take k) + 2 ^ (7 * k) * (l[k].toNat % 128) < 2 ^ b by omega
        have key : ∀ x, l[k].toNat % 128 + 1 ≤ 2 ^ x → 7 * k + x ≤ b → horner (l.take k) + 2 ^ (7 * k) * (l[k].toNat % 128) < 2 ^ b := by
          intro x hx hxb
          have h5 : 2 ^ (7 * k) * (l[k].toNat % 128 + 1) ≤ 2 ^ (7 * k) * 2 ^ x := Nat.mul_le_mul_left _ hx
          rw [← Nat.pow_add, Nat.mul_add] at h5
          have h6 : (2 : Nat) ^ (7 * k + x) ≤ 2 ^ b := Nat.pow_le_pow_right (by decide) hxb
          omega
        by_cases hlast : k + 1 = mostOf b
        · have h7 : ¬ 2 ^ (b - 7 * (mostOf b - 1)) ≤ l[k].toNat := fun h => h3 ⟨hlast, h⟩
          refine key (b - 7 * (mostOf b - 1)) (by omega) ?_
          rcases hb with rfl | rfl <;> simp [mostOf] at hlast ⊢ <;> omega
        · refine key 7 (by omega) ?_
          rcases hb with rfl | rfl <;> simp [mostOf] at hl hlast h1 ⊢ <;> omega

theorem drewN_below {W w : World} {B n : Nat} (h : Below B W w) : Below B W (w.drewN n) := ⟨h.os, h.tape, h.output, h.size, h.block⟩

theorem ru_room2 {b k a c : Nat} (hb : b = 32 ∨ b = 64) (h7 : 7 * k < b) (ha : a < 2 ^ (7 * k)) (hc : ¬ (b - 7 * k < 7 ∧ c / 2 ^ (b - 7 * k) ≠ 0)) :
    a + c % 128 * 2 ^ (7 * k) < 2 ^ b := by
  have hbb : (2 : Nat) ^ b ≤ 2 ^ 64 := Nat.pow_le_pow_right (by decide) (by omega)
  have e64 : (2 : Nat) ^ 64 = 18446744073709551616 := by decide
  by_cases hl : b - 7 * k < 7
  · have h0 : c / 2 ^ (b - 7 * k) = 0 := Classical.byContradiction fun h => hc ⟨hl, h⟩
    have h1 : c < 2 ^ (b - 7 * k) := by
      rcases Nat.div_eq_zero_iff.1 h0 with h | h
      · have := Nat.two_pow_pos (b - 7 * k); omega
      · exact h
    have h2 : c % 128 ≤ c := Nat.mod_le _ _
    have h3 : (c % 128 + 1) * 2 ^ (7 * k) ≤ 2 ^ (b - 7 * k) * 2 ^ (7 * k) := Nat.mul_le_mul_right _ (by omega)
    rw [← Nat.pow_add, show b - 7 * k + 7 * k = b from by omega, Nat.add_mul] at h3
    omega
  · have h3 : (c % 128 + 1) * 2 ^ (7 * k) ≤ 2 ^ 7 * 2 ^ (7 * k) := Nat.mul_le_mul_right _ (by have := Nat.mod_lt c (show 0 < 128 by decide); omega)
    rw [← Nat.pow_add, Nat.add_mul] at h3
    have h4 : (2 : Nat) ^ (7 + 7 * k) ≤ 2 ^ b := Nat.pow_le_pow_right (by decide) (by omega)
    omega

theorem ru_facts {b : Nat} (hb : b = 32 ∨ b = 64) (l : List UInt8) : ∀ (i n : Nat), n < 2 ^ (7 * i) → 7 * i < b →
    ((ru b l i n).2.2 = 0 → i < (ru b l i n).2.1 ∧ (ru b l i n).2.1 ≤ i + l.length ∧ (ru b l i n).1 < 2 ^ b) ∧ ((ru b l i n).2.2 ≠ 0 → (ru b l i n).1 = 0 ∧ (ru b l i n).2.1 = 0) := by
  induction l with
  | nil => intro i n _ _; exact ⟨fun h => by simp [ru] at h, fun _ => ⟨rfl, rfl⟩⟩
  | cons c r ih =>
    intro i n hn hi
    rw [ru]
    by_cases h1 : b - 7 * i < 7 ∧ c.toNat / 2 ^ (b - 7 * i) ≠ 0
    · rw [if_pos h1]; exact ⟨fun h => by simp at h, fun _ => ⟨rfl, rfl⟩⟩
    rw [if_neg h1]
    by_cases h2 : c.toNat < 128
    · rw [if_pos h2]
      exact ⟨fun _ => ⟨by simp, by simp, ru_room2 hb hi hn h1⟩, fun h => absurd rfl h⟩
    · rw [if_neg h2]
      have h3 := ih (i + 1) (n + c.toNat % 128 * 2 ^ (7 * i)) (ru_next hn) (ru_more hb hi h1 (by omega))
      refine ⟨fun h => ?_, h3.2⟩
      obtain ⟨g1, g2, g3⟩ := h3.1 h
      exact ⟨by omega, by rw [List.length_cons]; omega, g3⟩
end Go.Proofs.YtdiiefhklcchmaaDoor
/-
  NAMES: both sides. Condition: unicode/utf8's two tables hold what the row lists (the proofs are XWLebNames').
-/
namespace Go.Proofs.YtdiiefhklcchmaaDoor
open Go.RowKit

abbrev UTabs (w : World) : Prop := Lib.Utf8Tabs (Tryd.laysValid_ren.g 3) (Tryd.laysValid_ren.g 4) w
theorem u8extra : U8Extra Tryd.prog Tryd.laysValid_ren := ⟨by kernel_rfl, by kernel_rfl, by kernel_rfl, by kernel_rfl, by kernel_rfl, by kernel_rfl, by kernel_rfl⟩
theorem valid_any (s : ByteArray) (hs : s.size ≤ 9223372036854775807) (w : World) (hT : UTabs w) :
    Calls Tryd.prog 49 #[.string s] w fun e w' => e = .returned (.bool (Lib.validD s.data.toList)) ∧ Below w.heap.size w w' :=
  Any.utf8_ValidString Tryd.laysValid s w hs hT

theorem UTabs.below {w w' : World} (h : UTabs w) (hb : Below w.heap.size w w') : UTabs w' := Utf8Tabs_below h hb
theorem encU_one (n : Nat) (h : n < 128) : encU 9 n = [byteOf n] := encU_last h
/-- a name, written -/
def nameX (s : ByteArray) : ByteArray := if 16 < s.size then ⟨#[]⟩ else if Lib.validD s.data.toList = true then S [byteOf s.size] ++ s else ⟨#[]⟩
def nameE (s : ByteArray) : Int := if 16 < s.size then 2 else if Lib.validD s.data.toList = true then 0 else 4
theorem name_cases (s : ByteArray) : (16 < s.size ∧ nameX s = ⟨#[]⟩ ∧ nameE s = 2) ∨ (s.size ≤ 16 ∧ Lib.validD s.data.toList = true ∧ nameX s = S [byteOf s.size] ++ s ∧ nameE s = 0) ∨ (s.size ≤ 16 ∧ Lib.validD s.data.toList = false ∧ nameX s = ⟨#[]⟩ ∧ nameE s = 4) := by
  unfold nameX nameE
  by_cases h : 16 < s.size
  · rw [if_pos h, if_pos h]; exact .inl ⟨h, rfl, rfl⟩
  · rw [if_neg h, if_neg h]
    cases hv : Lib.validD s.data.toList
    · rw [if_neg (by decide), if_neg (by decide)]; exact .inr (.inr ⟨by omega, rfl, rfl, rfl⟩)
    · rw [if_pos rfl, if_pos rfl]; exact .inr (.inl ⟨by omega, rfl, rfl, rfl⟩)
set_option maxRecDepth 100000 in
set_option maxHeartbeats 2000000 in
theorem pname_any (s : ByteArray) (hs : s.size ≤ 9223372036854775807) (w : World) (hT : UTabs w) :
    Calls Tryd.prog 40 #[.string s] w fun e w' => e = .returned (.tuple #[.string (nameX s), .int .i64 (nameE s)]) ∧ Below w.heap.size w w' := by
  have HV := hid (valid_any s hs w hT)
  rcases name_cases s with ⟨h1, h2, h3⟩ | ⟨h1, h2, h3, h4⟩ | ⟨h1, h2, h3, h4⟩
  · rw [h2, h3]
    have g1 : (16 : Int) < s.size := by omega
    clear h2 h3
    go_enter Tryd.func40, Tryd.ntmps40
    go_wp2_with fail
    go_ret2
    exact ⟨rfl, Below.refl _ _⟩
  · rw [h3, h4]
    rw [h2] at HV
    have g1 : ¬ (16 : Int) < s.size := by omega
    have g2 : (s.size : Int) < 18446744073709551616 := by omega
    have HU := hid (fun w' => lebU_any s.size w' (by omega))
    rw [encU_one s.size (by omega)] at HU
    have hB : (S [byteOf s.size]).size = 1 := S_size _
    clear h2 h3 h4
    generalize S [byteOf s.size] = B at *
    have hBs : ¬ 9223372036854775807 < B.size + s.size := by omega
    clear hB
    go_enter Tryd.func40, Tryd.ntmps40
    go_wp2_with (first | (go_at_call 49; refine HV.out.mono ?_; rintro r w1 ⟨rfl, hb1⟩; have B1 := hid hb1; clear hb1) | (go_at_call 50; refine (HU.out _).mono ?_; rintro r w2 ⟨rfl, hb2⟩; have B2 := hid (B1.out.trans (hb2.mono B1.out.size)); clear hb2))
    go_ret2
    exact ⟨rfl, B2.out⟩
  · rw [h3, h4]
    rw [h2] at HV
    have g1 : ¬ (16 : Int) < s.size := by omega
    clear h2 h3 h4
    go_enter Tryd.func40, Tryd.ntmps40
    go_wp2_with (go_at_call 49; refine HV.out.mono ?_; rintro r w1 ⟨rfl, hb1⟩; have B1 := hid hb1; clear hb1)
    go_ret2
    exact ⟨rfl, B1.out⟩
set_option maxRecDepth 100000 in
set_option maxHeartbeats 2000000 in
theorem rname_any (s : ByteArray) (hs : s.size ≤ 9223372036854775807) (w : World) :
    Calls Tryd.prog 47 #[.string s] w fun e w' => e = .returned (.tuple #[.string (nameX s), .int .i64 (nameE s)]) ∧ Below w.heap.size w w' := by
  have HV := hid (isText_any s hs w)
  rcases name_cases s with ⟨h1, h2, h3⟩ | ⟨h1, h2, h3, h4⟩ | ⟨h1, h2, h3, h4⟩
  · rw [h2, h3]
    have g1 : (16 : Int) < s.size := by omega
    clear h2 h3
    go_enter Tryd.func47, Tryd.ntmps47
    go_wp2_with fail
    go_ret2
    exact ⟨rfl, Below.refl _ _⟩
  · rw [h3, h4]
    rw [h2] at HV
    have g1 : ¬ (16 : Int) < s.size := by omega
    have HU := hid (fun w' => chr_any s.size w')
    have hB : (S [byteOf s.size]).size = 1 := S_size _
    clear h2 h3 h4
    generalize S [byteOf s.size] = B at *
    have hBs : ¬ 9223372036854775807 < B.size + s.size := by omega
    clear hB
    go_enter Tryd.func47, Tryd.ntmps47
    go_wp2_with (first | (go_at_call 54; refine HV.out.mono ?_; rintro r w1 ⟨rfl, hb1⟩; have B1 := hid hb1; clear hb1) | (go_at_call 55; refine (HU.out _).mono ?_; rintro r w2 ⟨rfl, hb2⟩; have B2 := hid (B1.out.trans (hb2.mono B1.out.size)); clear hb2))
    go_ret2
    exact ⟨rfl, B2.out⟩
  · rw [h3, h4]
    rw [h2] at HV
    have g1 : ¬ (16 : Int) < s.size := by omega
    clear h2 h3 h4
    go_enter Tryd.func47, Tryd.ntmps47
    go_wp2_with (go_at_call 54; refine HV.out.mono ?_; rintro r w1 ⟨rfl, hb1⟩; have B1 := hid hb1; clear hb1)
    go_ret2
    exact ⟨rfl, B1.out⟩

end Go.Proofs.YtdiiefhklcchmaaDoor
/-
  MODULES AS BYTES: how a module's parts read, and the first fault of each. No condition.
-/
namespace Go.Proofs.YtdiiefhklcchmaaDoor
open Go.RowKit Go.Lib

theorem i64s_ofN {W : World} {v : Value} {zs : List Int} (h : sliceR W 1 8 (intR .i64) [v] zs) : Ints W .i64 v zs := by
  have hf := slice_flat (fun z => [Value.int .i64 z]) (fun z => -9223372036854775808 ≤ z ∧ z ≤ 9223372036854775807) (fun cs z h => by
    obtain ⟨rfl, w⟩ := h
    exact ⟨rfl, wf_i64 w⟩) h
  have h1 : Sl W v zs.length (zs.flatMap fun z => [Value.int .i64 z]) := hf.1
  have e : (zs.flatMap fun z => [Value.int .i64 z]) = zs.map (Value.int .i64) := by
    clear h hf h1
    induction zs with
    | nil => rfl
    | cons z r ih => rw [List.flatMap_cons, ih]; rfl
  rw [e] at h1
  exact h1
def itOf (y : D_api_Ins) : It := ⟨y.1.toNat, y.2.1, y.2.2.1, y.2.2.2.1⟩
theorem body_of {W : World} {v : Value} {ys : List D_api_Ins} (h : R_s_api_Ins W [v] ys) : BodS W v (ys.map itOf) ∧ ∀ x ∈ ys.map itOf, ItOk x := by
  obtain ⟨v', css, hv, hsl, hl, hb, hel⟩ := h
  simp only [List.cons.injEq, and_true] at hv
  subst hv
  have key : ∀ i (h1 : i < css.length) (h2 : i < ys.length), ItAt W css[i] (itOf ys[i]) ∧ ItOk (itOf ys[i]) := by
    intro i h1 h2
    obtain ⟨_, hr⟩ := hel i h1 h2
    generalize css[i] = cs at *
    generalize ys[i] = y at *
    obtain ⟨op, A, B, xs, u⟩ := y
    obtain ⟨_, _, rfl, ⟨rfl, w0⟩, _, _, rfl, ⟨rfl, w1⟩, _, _, rfl, ⟨rfl, w2⟩, c3, _, rfl, hs, rfl⟩ := hr
    have hs2 := hs
    obtain ⟨v2, _, rfl, _⟩ := hs
    have h0 : 0 ≤ op ∧ op < 256 := by simp [Lit.wf, IntKind.min, IntKind.max, IntKind.signed, IntKind.bits] at w0; omega
    obtain ⟨n, rfl⟩ := Int.eq_ofNat_of_zero_le h0.1
    exact ⟨⟨v2, rfl, i64s_ofN hs2⟩, by show ((n : Int).toNat : Nat) < 256; rw [Int.toNat_natCast]; omega, wf_i64 w1⟩
  refine ⟨⟨css, by rw [List.length_map]; exact hl, by rw [List.length_map]; exact hsl, fun i h1 h2 => ?_⟩, ?_⟩
  · rw [List.getElem_map]
    exact (key i h1 (by simpa using h2)).1
  · intro x hx
    obtain ⟨y, hy, rfl⟩ := List.mem_map.1 hx
    obtain ⟨i, hi, rfl⟩ := List.getElem_of_mem hy
    exact (key i (by omega) hi).2
theorem kinds_of {W : World} {v : Value} {zs : List Int} (h : R_s_api_Kind W [v] zs) : Ints W .u8 v zs := by
  have hf := slice_flat (fun z => [Value.int .u8 z]) (fun _ => True) (fun cs z h => by
    obtain ⟨rfl, w⟩ := h
    exact ⟨rfl, trivial⟩) h
  have h1 : Sl W v zs.length (zs.flatMap fun z => [Value.int .u8 z]) := hf.1
  have e : (zs.flatMap fun z => [Value.int .u8 z]) = zs.map (Value.int .u8) := by
    clear h hf h1
    induction zs with
    | nil => rfl
    | cons z r ih => rw [List.flatMap_cons, ih]; rfl
  rw [e] at h1
  exact h1
/-- element k of a list as it lies in memory, now and later -/
theorem sliceR_at {W : World} {s bytes : Nat} {α : Type} {R : List Value → α → Prop} {v : Value} {ys : List α} (h : sliceR W s bytes R [v] ys) (hs : 0 < s) (k : Nat) (hk : k < ys.length) :
    ∃ lb lo cap cs, v = .slice (some ⟨lb, lo, none⟩) ys.length cap ∧ ys.length ≤ cap ∧ cap ≤ 9223372036854775807 ∧ cs.length = s ∧ R cs ys[k] ∧ ∀ wr, Below W.heap.size W wr → ∀ j (_ : j < s), wr.cell? ⟨lb, lo + k * s + j, none⟩ = cs[j]? := by
  obtain ⟨v', css, hv, ⟨ao, cap, rfl, hc1, hc2, _, hcs⟩, hl, _, hel⟩ := h
  simp only [List.cons.injEq, and_true] at hv
  subst hv
  have hlen : ∀ c ∈ css, c.length = s := by
    intro c hc
    obtain ⟨i, hi, rfl⟩ := List.getElem_of_mem hc
    exact (hel i hi (by omega)).1
  have hkc : k < css.length := by omega
  have h0 : css.flatten[k * s + 0]? = (css[k])[0]? := flatten_get css hlen k 0 hs hkc
  rcases hcs with e | ⟨b, off, rfl, hat⟩
  · rw [e] at h0
    have : (css[k])[0]? = none := by rw [← h0]; rfl
    rw [List.getElem?_eq_none_iff] at this
    have := hlen _ (List.getElem_mem hkc)
    omega
  · refine ⟨b, off, cap, css[k], rfl, hc1, hc2, hlen _ (List.getElem_mem hkc), (hel k hkc hk).2, ?_⟩
    intro wr hb j hj
    have e := flatten_get css hlen k j hj hkc
    have hjl : j < (css[k]).length := by rw [hlen _ (List.getElem_mem hkc)]; exact hj
    rw [List.getElem?_eq_getElem hjl] at e ⊢
    obtain ⟨hlt, e2⟩ := List.getElem?_eq_some_iff.1 e
    have hw := hat (k * s + j) hlt
    rw [e2, ← Nat.add_assoc] at hw
    refine (hb.cell ?_).trans hw
    exact World.block_lt_of_cell? W _ hw
theorem ints_of {W : World} {v : Value} {zs : List Int} (h : R_s_int W [v] zs) : Ints W .i64 v zs := i64s_ofN h
theorem sl_shape {W : World} {s bytes : Nat} {α : Type} {R : List Value → α → Prop} {v : Value} {ys : List α} (h : sliceR W s bytes R [v] ys) : ∃ ao cap, v = .slice ao ys.length cap ∧ ys.length ≤ cap ∧ cap ≤ 9223372036854775807 ∧ ys.length * bytes ≤ 140737488351232 := by
  obtain ⟨v', css, hv, ⟨ao, cap, rfl, hc1, hc2, _⟩, _, hb, _⟩ := h
  simp only [List.cons.injEq, and_true] at hv
  exact ⟨ao, cap, hv, hc1, hc2, hb⟩

def fSig (y : D_api_Sig) : Int := orE (eachE fKind y.1 4) (eachE fKind y.2.1 1)
def fImport (y : D_api_Import) : Int := orE (nameE y.1) (fIdx y.2.1)
def fFunc (y : D_api_Func) : Int := orE (fIdx y.1) (orE (eachE fKind y.2.1 16) (ncM (y.2.2.1.map itOf)))
def okG (k n : Int) : Bool := decide (k ≠ 127 ∨ (-2147483648 ≤ n ∧ n ≤ 2147483647))
def fGlobal (y : D_api_Global) : Int := orE (fKind y.1) (ndE (okG y.1 y.2.2.1) 1)
def fExport (y : D_api_Export) : Int := orE (nameE y.1) (fIdx y.2.1)
def fElem (y : D_api_Elem) : Int := orE (fPlc y.1) (eachE fIdx y.2.1 16)
def fData (y : D_api_Data) : Int := orE (fPlc y.1) (ndE (decide ((y.2.1.size : Int) ≤ 64)) 2)
def okPg (p m : Int) : Bool := decide (0 ≤ p ∧ p ≤ m)
def fModule (y : D_api_Module) : Int :=
  orE (orE (orE (orE (orE (orE (orE (orE (orE (orE (orE (orE
    (eachE fSig y.1 16) (eachE fImport y.2.1 16)) (eachE fFunc y.2.2.1 16))
    (ndE (decide (0 ≤ y.2.2.2.1)) 1)) (ndE (decide (y.2.2.2.1 ≤ 16)) 2))
    (ndE (okPg y.2.2.2.2.1 y.2.2.2.2.2.1) 1)) (ndE (decide (y.2.2.2.2.2.1 ≤ 8)) 2))
    (eachE fGlobal y.2.2.2.2.2.2.1 8)) (eachE fExport y.2.2.2.2.2.2.2.1 8)) (fIdx y.2.2.2.2.2.2.2.2.1))
    (eachE fElem y.2.2.2.2.2.2.2.2.2.1 4)) (eachE fData y.2.2.2.2.2.2.2.2.2.2.1 4)) 0
end Go.Proofs.YtdiiefhklcchmaaDoor
