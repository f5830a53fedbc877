/-
  FRAMES: the program's Read. Condition: the text's length in the form's reach.
-/
import Derived.Test.YtpapblahnbeccaaFrr
namespace Go.Proofs.Ytpapblahnbeccaa
open Go.RowKit Go.Lib
attribute [local go_sem ↓] Go.wp_at_zero Go.wp_at_succ

def bAt (t : ByteArray) (k : Nat) : Int := ((t.data.toList.getD k 0).toNat : Int)
theorem bAt_get (t : ByteArray) (i : Nat) (h : i < t.size) : ((t[i]'h).toNat : Int) = bAt t i := by
  have hl : i < t.data.toList.length := by simpa using h
  unfold bAt
  rw [List.getD_eq_getElem?_getD, List.getElem?_eq_getElem hl]
  rfl
theorem bAt_lt (t : ByteArray) (k : Nat) : 0 ≤ bAt t k ∧ bAt t k ≤ 255 := by
  unfold bAt
  have := (t.data.toList.getD k 0).toNat_lt
  omega
def numAt (s : ByteArray) (a b : Nat) : Nat := beN (s.extract a b).data.toList
def frS (s : ByteArray) : Frm := ⟨bAt s 0, bAt s 1, numAt s 2 10, numAt s 10 18, s.extract 19 (s.size - 4)⟩
def zeroFrm : Frm := ⟨0, 0, 0, 0, ⟨#[]⟩⟩
def sumS (s : ByteArray) : ByteArray := S (leB (crcF (s.extract 0 (s.size - 4)).data.toList).toNat 4)
def rdV (s : ByteArray) : Frm × Int :=
  if s.size < 23 then (zeroFrm, 3) else if s.extract (s.size - 4) s.size ≠ sumS s then (zeroFrm, 5) else if bAt s 18 ≠ (s.size : Int) - 23 then (zeroFrm, 4)
  else if 1099511627776 < numAt s 2 10 ∨ 1099511627776 < numAt s 10 18 then (zeroFrm, 1) else if chkFr (frS s) = 0 then (frS s, 0) else (zeroFrm, chkFr (frS s))
def rdR (r : Frm × Int) : Value := .tuple #[frmV r.1, .int .i64 r.2]

theorem numAt_lt (s : ByteArray) (a b : Nat) (h : b ≤ a + 8) : numAt s a b < 18446744073709551616 := by
  unfold numAt
  have h1 := beN_lt (s.extract a b).data.toList
  have h2 : (s.extract a b).data.toList.length ≤ 8 := by
    have : (s.extract a b).data.toList.length = (s.extract a b).size := Array.length_toList
    rw [this, ByteArray.size_extract]; omega
  have h3 : 256 ^ (s.extract a b).data.toList.length ≤ 256 ^ 8 := Nat.pow_le_pow_right (by decide) h2
  exact Nat.lt_of_lt_of_le h1 h3

set_option maxRecDepth 100000 in
set_option maxHeartbeats 8000000 in
theorem fread_any (s : ByteArray) (w : World) (hb : s.size ≤ 140737488351232) : Calls Try.prog 15 #[.string s] w fun e w' => e = .returned (rdR (rdV s)) ∧ Below w.heap.size w w' := by
  by_cases h1 : s.size < 23
  · have h1' : (s.size : Int) - 4 < 19 := by omega
    have hr : rdV s = (zeroFrm, 3) := if_pos h1
    rw [hr]
    go_enter Try.func15, Try.ntmps15
    go_wp2_with fail
    refine bodyPost_ret (v := rdR (zeroFrm, 3)) (by simp [results, Try.results15, go_sem, rdR, frmV, zeroFrm]) rfl ?_
    exact ⟨rfl, (Below.refl _ _).alloc (Nat.le_refl _) _⟩
  · obtain ⟨k, hk⟩ : ∃ k, s.size = k + 4 := ⟨s.size - 4, by omega⟩
    have h2 : (19 : Int) ≤ (k : Int) := by omega
    have hend := fun wx => ending_any (s.extract 0 k) wx (by rw [ByteArray.size_extract]; omega)
    have e0 : rdV s = _ := if_neg h1
    have hk4 : s.size - 4 = k := by omega
    have hk23 : (s.size : Int) - 23 = (k : Int) - 19 := by omega
    unfold sumS at e0
    rw [hk4, hk23, hk] at e0
    generalize S (leB (crcF (s.extract 0 k).data.toList).toNat 4) = L at *
    have HE := hid hend
    have E0 := hid e0
    have hlt18 : 18 < s.size := by omega
    have hg18 := bAt_get s 18 hlt18
    have hb18 := bAt_lt s 18
    have hq1 := fun wx => low_any (s.extract 2 10) wx (by rw [ByteArray.size_extract]; omega)
    have hq2 := fun wx => low_any (s.extract 10 18) wx (by rw [ByteArray.size_extract]; omega)
    have hlq := numAt_lt s 2 10 (by omega)
    have hla := numAt_lt s 10 18 (by omega)
    unfold numAt at hlq hla
    have e1 : beN (s.extract 2 10).data.toList = numAt s 2 10 := rfl
    have e2 : beN (s.extract 10 18).data.toList = numAt s 10 18 := rfl
    rw [e1] at hq1 hlq
    rw [e2] at hq2 hla
    generalize hqq : numAt s 2 10 = sq at *
    generalize hqa : numAt s 10 18 = ak at *
    have HG := hid (And.intro hqq hqa)
    have HQ1 := hid hq1
    have HQ2 := hid hq2
    have HG18 := hid hg18
    clear hend e0 h1 e1 e2 hq1 hq2 hqq hqa hg18
    have hs1 : (k : Int) ≤ (k : Int) + 4 := by omega
    have hd1 : (18 : Int) ≤ (k : Int) + 4 := by omega
    have hd2 : (10 : Int) ≤ (k : Int) + 4 := by omega
    have hs0 : (0 : Int) ≤ (k : Int) := by omega
    have hex : ¬ (9223372036854775807 < k) := by omega
    have hex2 : ¬ (9223372036854775807 < k + 4) := by omega
    have hw18 : wrap64 ((s[18]'hlt18).toNat : Int) = bAt s 18 := by
      rw [HG18.out]; unfold wrap64; omega
    clear hk4
    by_cases g1 : s.extract k (k + 4) = L
    · have hc1 : ((s.extract k (k + 4)).toList == L.toList) = true := by rw [g1]; simp
      go_enter Try.func15, Try.ntmps15
      go_wp2_with fail
      go_region_held3 (fun _ => True) (trivial) (first | (go_at_call 78; refine (HE.out _).mono ?_; rintro e w6 ⟨rfl, hb6⟩; have HB6 := hid hb6; clear hb6))
      have hb6 : Below w.heap.size w w6 := (((Below.refl _ _).alloc (Nat.le_refl _) _).trans (drew_bel' (n := 1) (Below.refl _ _))).trans (HB6.out.mono (by simp))
      have X6 := hid ((Blk.new w #[.int .i64 0, .int .i64 0, .int .i64 0, .int .i64 0, .string ⟨#[]⟩] 23 _ rfl).below ((drew_bel' (n := 1) (Below.refl _ _)).trans HB6.out))
      have x0 := X6.out.cell (i := 0) rfl
      have x1 := X6.out.cell (i := 1) rfl
      have x2 := X6.out.cell (i := 2) rfl
      have x3 := X6.out.cell (i := 3) rfl
      have x4 := X6.out.cell (i := 4) rfl
      have xf := X6.out.free
      by_cases g2 : bAt s 18 = (k : Int) - 19
      · have hc2 : (bAt s 18 != (k : Int) - 19) = false := by rw [g2]; simp
        by_cases g3 : (1099511627776 : Int) < (sq : Int)
        · go_wp2_with fail
          go_region_held3 (fun _ => True) (trivial) (first | (go_at_call 83; (with_reducible refine (HQ1.out _).mono ?_); rintro e w7 ⟨rfl, rfl⟩) | (go_at_call 83; (with_reducible refine (HQ2.out _).mono ?_); rintro e w7 ⟨rfl, rfl⟩))
          go_wp2_with fail
          refine bodyPost_ret (v := rdR (zeroFrm, 1)) (by simp [results, Try.results15, go_sem, rdR, frmV, zeroFrm, x0, x1, x2, x3, x4]) rfl ?_
          refine ⟨by rw [E0.out, if_neg (fun e => e g1), if_neg (fun e => e g2), if_pos (by omega)], ?_⟩
          refine drew_bel' (n := 1) ?_
          repeat (refine Below.setCell ?_ (by simp) _)
          exact hb6
        · have g3' : (sq : Int) ≤ 1099511627776 := by omega
          by_cases g4 : (1099511627776 : Int) < (ak : Int)
          · go_wp2_with fail
            go_region_held3 (fun _ => True) (trivial) (first | (go_at_call 83; (with_reducible refine (HQ1.out _).mono ?_); rintro e w7 ⟨rfl, rfl⟩) | (go_at_call 83; (with_reducible refine (HQ2.out _).mono ?_); rintro e w7 ⟨rfl, rfl⟩))
            go_wp2_with fail
            refine bodyPost_ret (v := rdR (zeroFrm, 1)) (by simp [results, Try.results15, go_sem, rdR, frmV, zeroFrm, x0, x1, x2, x3, x4]) rfl ?_
            refine ⟨by rw [E0.out, if_neg (fun e => e g1), if_neg (fun e => e g2), if_pos (by omega)], ?_⟩
            refine drew_bel' (n := 1) ?_
            repeat (refine Below.setCell ?_ (by simp) _)
            exact hb6
          · have g4' : (ak : Int) ≤ 1099511627776 := by omega
            clear g3 g4
            have hck := fun wx => fcheck_any (frS s) wx
            have e5 : frmV (frS s) = .agg #[.int .i64 (bAt s 0), .int .i64 (bAt s 1), .int .i64 sq, .int .i64 ak, .string (s.extract 19 k)] := by
              unfold frS
              rw [HG.out.1, HG.out.2, show s.size - 4 = k from by omega]
              rfl
            rw [e5] at hck
            have E5 := hid e5
            have e6 := E0.out
            rw [if_neg (fun e => e g1), if_neg (fun e => e g2), if_neg (by omega)] at e6
            have E6 := hid e6
            generalize chkFr (frS s) = c at *
            have HCK := hid hck
            have hl0 : 0 < s.size := by omega
            have hl1 : 1 < s.size := by omega
            have hi0 : (0 : Int) < (k : Int) + 4 := by omega
            have hi1 : (1 : Int) < (k : Int) + 4 := by omega
            have hw0 : wrap64 ((s[0]'hl0).toNat : Int) = bAt s 0 := by
              rw [bAt_get s 0 hl0]; have := bAt_lt s 0; unfold wrap64; omega
            have hw1 : wrap64 ((s[1]'hl1).toNat : Int) = bAt s 1 := by
              rw [bAt_get s 1 hl1]; have := bAt_lt s 1; unfold wrap64; omega
            clear hck e5 e6
            go_wp2_with fail
            go_region_held3 (fun _ => True) (trivial) (first | (go_at_call 83; (with_reducible refine (HQ1.out _).mono ?_); rintro e w7 ⟨rfl, rfl⟩) | (go_at_call 83; (with_reducible refine (HQ2.out _).mono ?_); rintro e w7 ⟨rfl, rfl⟩))
            go_wp2_with fail
            go_region_held3 (fun _ => True) (trivial) (fail)
            go_wp2_with fail
            all_goals
              refine (HCK.out _).mono ?_
              rintro e w8 ⟨rfl, hb8⟩
              have X8 := hid (Blk.below (w := (w6.alloc _).drew.drew) (X6.out.alloc _) hb8)
              have Y8 := hid (Blk.below (w := (w6.alloc _).drew.drew) (Blk.new w6 #[.int .i64 (bAt s 0), .int .i64 (bAt s 1), .int .i64 sq, .int .i64 ak, .string (s.extract 19 k)] 23 _ rfl) hb8)
              have hbw : Below w.heap.size w w8 := (drew_bel' (n := 1) (drew_bel' (n := 1) (hb6.alloc hb6.size _))).trans (hb8.mono (by show _ ≤ (w6.alloc _).heap.size; have := hb6.size; simp; omega))
              have HBW := hid hbw
              clear hb8 hbw x0 x1 x2 x3 x4 xf
              have x0 := X8.out.cell (i := 0) rfl
              have x1 := X8.out.cell (i := 1) rfl
              have x2 := X8.out.cell (i := 2) rfl
              have x3 := X8.out.cell (i := 3) rfl
              have x4 := X8.out.cell (i := 4) rfl
              have xf := X8.out.free
              have y0 := Y8.out.cell (i := 0) rfl
              have y1 := Y8.out.cell (i := 1) rfl
              have y2 := Y8.out.cell (i := 2) rfl
              have y3 := Y8.out.cell (i := 3) rfl
              have y4 := Y8.out.cell (i := 4) rfl
              by_cases hc : c = 0
              · have E7 := hid (E6.out.trans (if_pos hc))
                subst hc
                go_wp2_with fail
                refine bodyPost_ret (v := rdR (frS s, 0)) (by rw [show rdR (frS s, 0) = .tuple #[.agg #[.int .i64 (bAt s 0), .int .i64 (bAt s 1), .int .i64 sq, .int .i64 ak, .string (s.extract 19 k)], .int .i64 0] from by unfold rdR; rw [E5.out]]; simp [results, Try.results15, go_sem, x0, x1, x2, x3, x4]) rfl ?_
                refine ⟨by rw [E7.out], ?_⟩
                repeat (refine Below.setCell ?_ (by simp) _)
                exact HBW.out
              · have E7 := hid (E6.out.trans (if_neg hc))
                have hcc : (c != 0) = true := by simp [hc]
                go_wp2_with fail
                refine bodyPost_ret (v := rdR (zeroFrm, c)) (by simp [results, Try.results15, go_sem, rdR, frmV, zeroFrm, x0, x1, x2, x3, x4]) rfl ?_
                refine ⟨by rw [E7.out], ?_⟩
                repeat (refine Below.setCell ?_ (by simp) _)
                exact HBW.out
      · have hc2 : (bAt s 18 != (k : Int) - 19) = true := by simp [g2]
        go_wp2_with fail
        refine bodyPost_ret (v := rdR (zeroFrm, 4)) (by simp [results, Try.results15, go_sem, rdR, frmV, zeroFrm, x0, x1, x2, x3, x4]) rfl ?_
        refine ⟨by rw [E0.out, if_neg (fun e => e g1), if_pos g2], ?_⟩
        repeat (refine Below.setCell ?_ (by simp) _)
        exact hb6
    · have hc1 : ((s.extract k (k + 4)).toList == L.toList) = false := by
        rw [beq_eq_false_iff_ne]
        exact fun e => g1 (toList_inj.1 e)
      go_enter Try.func15, Try.ntmps15
      go_wp2_with fail
      go_region_held3 (fun _ => True) (trivial) (first | (go_at_call 78; refine (HE.out _).mono ?_; rintro e w6 ⟨rfl, hb6⟩; have HB6 := hid hb6; clear hb6))
      have hb6 : Below w.heap.size w w6 := (((Below.refl _ _).alloc (Nat.le_refl _) _).trans (drew_bel' (n := 1) (Below.refl _ _))).trans (HB6.out.mono (by simp))
      have X6 := hid ((Blk.new w #[.int .i64 0, .int .i64 0, .int .i64 0, .int .i64 0, .string ⟨#[]⟩] 23 _ rfl).below ((drew_bel' (n := 1) (Below.refl _ _)).trans HB6.out))
      have x0 := X6.out.cell (i := 0) rfl
      have x1 := X6.out.cell (i := 1) rfl
      have x2 := X6.out.cell (i := 2) rfl
      have x3 := X6.out.cell (i := 3) rfl
      have x4 := X6.out.cell (i := 4) rfl
      have xf := X6.out.free
      go_wp2_with fail
      refine bodyPost_ret (v := rdR (zeroFrm, 5)) (by simp [results, Try.results15, go_sem, rdR, frmV, zeroFrm, x0, x1, x2, x3, x4]) rfl ?_
      refine ⟨by rw [E0.out, if_pos g1], ?_⟩
      repeat (refine Below.setCell ?_ (by simp) _)
      exact hb6
end Go.Proofs.Ytpapblahnbeccaa
