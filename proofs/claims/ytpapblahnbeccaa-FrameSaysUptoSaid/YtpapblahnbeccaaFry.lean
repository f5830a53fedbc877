/-
  FRAMES: the reference's FrameRead. Condition: the text's length at most 2^20 (its sum keeps 8 cells a byte).
-/
import Derived.Test.YtpapblahnbeccaaFrx
import Derived.Deep.CutBlock
namespace Go.Proofs.Ytpapblahnbeccaa
open Go.RowKit Go.Lib
attribute [local go_sem ↓] Go.wp_at_zero Go.wp_at_succ

theorem ext_get (s : ByteArray) (a b i : Nat) (h1 : b ≤ s.size) (h2 : i < b - a) : (s.extract a b).data.toList[i]? = some (s[a + i]'(by omega)) := by
  have h3 : i < (s.extract a b).size := by rw [ByteArray.size_extract]; omega
  have h4 : i < (s.extract a b).data.toList.length := by rw [Array.length_toList]; exact h3
  rw [List.getElem?_eq_getElem h4]
  congr 1
  show (s.extract a b)[i] = s[a + i]
  exact ByteArray.getElem_extract h3
theorem num_step (s : ByteArray) (a b i : Nat) (h1 : b ≤ s.size) (h2 : i < b - a) : beN ((s.extract a b).data.toList.take (i + 1)) = beN ((s.extract a b).data.toList.take i) * 256 + (s[a + i]'(by omega)).toNat := by
  have h3 := ext_get s a b i h1 h2
  have h4 : i < (s.extract a b).data.toList.length := by
    rcases Nat.lt_or_ge i (s.extract a b).data.toList.length with h | h
    · exact h
    · rw [List.getElem?_eq_none h] at h3; simp at h3
  rw [beN_take h4]
  rw [List.getElem?_eq_getElem h4] at h3
  injection h3 with h3
  rw [h3]

set_option maxRecDepth 100000 in
set_option maxHeartbeats 8000000 in
theorem rfread_any (s : ByteArray) (w : World) (hb : s.size ≤ 1048576) : Calls Try.prog 16 #[.string s] w fun e w' => e = .returned (rdR (rdV s)) ∧ Below w.heap.size w w' := by
  by_cases h1 : s.size < 23
  · have h1' : (s.size : Int) < 23 := by omega
    have hr : rdV s = (zeroFrm, 3) := if_pos h1
    rw [hr]
    go_enter Try.func16, Try.ntmps16
    go_wp2_with fail
    refine bodyPost_ret (v := rdR (zeroFrm, 3)) (by simp [results, Try.results16, go_sem, rdR, frmV, zeroFrm]) rfl ?_
    exact ⟨rfl, (Below.refl _ _).alloc (Nat.le_refl _) _⟩
  · obtain ⟨k, hk⟩ : ∃ k, s.size = k + 4 := ⟨s.size - 4, by omega⟩
    have h2 : (19 : Int) ≤ (k : Int) := by omega
    have hsum := fun wx => fsum_any (s.extract 0 k) wx (by rw [ByteArray.size_extract]; omega)
    have hlit := fun wx => little_any (crcF (s.extract 0 k).data.toList) wx
    have e0 : rdV s = _ := if_neg h1
    have hk4 : s.size - 4 = k := by omega
    have hk23 : (s.size : Int) - 23 = (k : Int) - 19 := by omega
    unfold sumS at e0
    rw [hk4, hk23, hk] at e0
    unfold u32V at hsum hlit
    generalize S (leB (crcF (s.extract 0 k).data.toList).toNat 4) = L at *
    generalize (crcF (s.extract 0 k).data.toList).toNat = q at *
    have HS := hid hsum
    have HT := hid hlit
    have E0 := hid e0
    have hlt18 : 18 < s.size := by omega
    have hg18 := bAt_get s 18 hlt18
    have hb18 := bAt_lt s 18
    have hw18 : wrap64 ((s[18]'hlt18).toNat : Int) = bAt s 18 := by
      rw [hg18]; unfold wrap64; omega
    have hwi18 : IntKind.i64.wrap ((s[18]'hlt18).toNat : Int) = bAt s 18 := by
      rw [hg18, IntKind.wrap_i64]; omega
    have hl0 : 0 < s.size := by omega
    have hl1 : 1 < s.size := by omega
    have hi0 : (0 : Int) < (k : Int) + 4 := by omega
    have hi1 : (1 : Int) < (k : Int) + 4 := by omega
    have hi23 : (23 : Int) ≤ (k : Int) + 4 := by omega
    have hw0 : wrap64 ((s[0]'hl0).toNat : Int) = bAt s 0 := by
      rw [bAt_get s 0 hl0]; have := bAt_lt s 0; unfold wrap64; omega
    have hw1 : wrap64 ((s[1]'hl1).toNat : Int) = bAt s 1 := by
      rw [bAt_get s 1 hl1]; have := bAt_lt s 1; unfold wrap64; omega
    have hwi0 : IntKind.i64.wrap ((s[0]'hl0).toNat : Int) = bAt s 0 := by
      rw [bAt_get s 0 hl0, IntKind.wrap_i64]; have := bAt_lt s 0; omega
    have hwi1 : IntKind.i64.wrap ((s[1]'hl1).toNat : Int) = bAt s 1 := by
      rw [bAt_get s 1 hl1, IntKind.wrap_i64]; have := bAt_lt s 1; omega
    have hs1 : (k : Int) ≤ (k : Int) + 4 := by omega
    have hd1 : (18 : Int) ≤ (k : Int) + 4 := by omega
    have hs0 : (0 : Int) ≤ (k : Int) := by omega
    have hex : ¬ (9223372036854775807 < k) := by omega
    have hex2 : ¬ (9223372036854775807 < k + 4) := by omega
    clear hsum hlit e0 h1 hk4 hg18
    by_cases g1 : s.extract k (k + 4) = L
    · have hc1 : (L.toList == (s.extract k (k + 4)).toList) = true := by rw [g1]; simp
      go_enter Try.func16, Try.ntmps16
      go_wp2_with fail
      go_region_held3 (fun _ => True) (trivial) (first | (go_at_call 82; refine (HS.out _).mono ?_; rintro e w6 ⟨rfl, hb6⟩; have HB6 := hid hb6; clear hb6) | (go_at_call 81; refine (HT.out _).mono ?_; rintro e w7 ⟨rfl, hb7⟩; have HB7 := hid hb7; clear hb7))
      have hb6 : Below w.heap.size w w7 := ((((Below.refl _ _).alloc (Nat.le_refl _) _).trans (drew_bel' (n := 1) (Below.refl _ _))).trans (HB6.out.mono (by simp))).trans (HB7.out.mono (by have := HB6.out.size; simp at this; omega))
      have X6 := hid (((Blk.new w #[.int .i64 0, .int .i64 0, .int .i64 0, .int .i64 0, .string ⟨#[]⟩] 23 _ rfl).below ((drew_bel' (n := 1) (Below.refl _ _)).trans HB6.out)).below HB7.out)
      have x0 := X6.out.cell (i := 0) rfl
      have x1 := X6.out.cell (i := 1) rfl
      have x2 := X6.out.cell (i := 2) rfl
      have x3 := X6.out.cell (i := 3) rfl
      have x4 := X6.out.cell (i := 4) rfl
      have xf := X6.out.free
      go_upto_region 6 with fail
      go_cut [5] (fun s5 wx => s5 = .pointer (some ⟨w7.heap.size, 0, none⟩) ∧ wx = (w7.alloc (.cells #[.int .i64 (bAt s 0), .int .i64 (bAt s 1), .int .i64 0, .int .i64 0, .string (s.extract 19 k)] 23)).drew)
      case first =>
        go_region_held3 (fun _ => True) (trivial) (fail)
        all_goals (go_wp2_with fail; go_meet; first | exact ⟨rfl, rfl⟩ | exact ⟨rfl, by rw [hwi0, hwi1]⟩)
      case rest =>
        obtain ⟨rfl, rfl⟩ := hcut
        have X7 : Hid (Blk (w7.alloc (.cells #[.int .i64 (bAt s 0), .int .i64 (bAt s 1), .int .i64 0, .int .i64 0, .string (s.extract 19 k)] 23)).drew w.heap.size 23 _) := hid (Blk.below (w := w7) X6.out (drew_bel' (n := 1) ((Below.refl _ _).alloc (Nat.le_refl _) (.cells #[.int .i64 (bAt s 0), .int .i64 (bAt s 1), .int .i64 0, .int .i64 0, .string (s.extract 19 k)] 23))))
        have Y7 : Hid (Blk (w7.alloc (.cells #[.int .i64 (bAt s 0), .int .i64 (bAt s 1), .int .i64 0, .int .i64 0, .string (s.extract 19 k)] 23)).drew w7.heap.size 23 [.int .i64 (bAt s 0), .int .i64 (bAt s 1), .int .i64 0, .int .i64 0, .string (s.extract 19 k)]) := hid (Blk.drew (Blk.new w7 #[.int .i64 (bAt s 0), .int .i64 (bAt s 1), .int .i64 0, .int .i64 0, .string (s.extract 19 k)] 23 _ rfl) 1)
        have hne : w.heap.size < w7.heap.size := X6.out.lt
        have hb7 : Below w.heap.size w (w7.alloc (.cells #[.int .i64 (bAt s 0), .int .i64 (bAt s 1), .int .i64 0, .int .i64 0, .string (s.extract 19 k)] 23)).drew := drew_bel' (n := 1) (hb6.alloc hb6.size _)
        have HB := hid hb7
        have hmin : min k (k + 4) = k := by omega
        have hk19 : ((k - 19 : Nat) : Int) = (k : Int) - 19 := by omega
        generalize hw8 : (w7.alloc (.cells #[.int .i64 (bAt s 0), .int .i64 (bAt s 1), .int .i64 0, .int .i64 0, .string (s.extract 19 k)] 23)).drew = w8 at *
        clear hw8 hb6 hb7 x0 x1 x2 x3 x4 xf
        have x0 := X7.out.cell (i := 0) rfl
        have x1 := X7.out.cell (i := 1) rfl
        have x2 := X7.out.cell (i := 2) rfl
        have x3 := X7.out.cell (i := 3) rfl
        have x4 := X7.out.cell (i := 4) rfl
        have xf := X7.out.free
        have y0 := Y7.out.cell (i := 0) rfl
        have y1 := Y7.out.cell (i := 1) rfl
        have y2 := Y7.out.cell (i := 2) rfl
        have y3 := Y7.out.cell (i := 3) rfl
        have y4 := Y7.out.cell (i := 4) rfl
        have yf := Y7.out.free
        by_cases g2 : bAt s 18 = (k : Int) - 19
        · have hc2 : (bAt s 18 != (k : Int) - 19) = false := by rw [g2]; simp
          go_wp2_with fail
          go_region_held3 (fun w' => w'.cell? ⟨w7.heap.size, 4, none⟩ = some (.string (s.extract 19 k))) (first | exact y4 | go_keep) (fail)
          go_wp2_with fail
          go_loopw [6, 7, 45] (fun a b i wr => ∃ n : Nat, n ≤ 8 ∧ i = .int .i64 n ∧ a = .int .u64 (beN ((s.extract 2 10).data.toList.take n)) ∧ b = .int .u64 (beN ((s.extract 10 18).data.toList.take n)) ∧ wr = w8.drew) (fun _ _ i _ => 8 - (intOf i).toNat)
          case atStart => exact ⟨0, by omega, rfl, rfl, rfl, rfl⟩
          case round =>
            obtain ⟨n, hn, rfl, rfl, rfl, rfl⟩ := hrel
            by_cases hlt : n < 8
            · have hA := num_step s 2 10 n (by omega) (by omega)
              have hB := num_step s 10 18 n (by omega) (by omega)
              have hLA := beN_lt ((s.extract 2 10).data.toList.take n)
              have hLB := beN_lt ((s.extract 10 18).data.toList.take n)
              rw [List.length_take] at hLA hLB
              have hp1 : 256 ^ (min n (s.extract 2 10).data.toList.length) ≤ 256 ^ 7 := Nat.pow_le_pow_right (by decide) (by omega)
              have hp2 : 256 ^ (min n (s.extract 10 18).data.toList.length) ≤ 256 ^ 7 := Nat.pow_le_pow_right (by decide) (by omega)
              rw [show (256 : Nat) ^ 7 = 72057594037927936 from rfl] at hp1 hp2
              generalize beN ((s.extract 2 10).data.toList.take n) = p1 at *
              generalize beN ((s.extract 10 18).data.toList.take n) = p2 at *
              have hq1 : p1 < 72057594037927936 := by omega
              have hq2 : p2 < 72057594037927936 := by omega
              have HA := hid hA
              have HB2 := hid hB
              have hr1 := (s[2 + n]'(by omega)).toNat_lt
              have hr2 := (s[10 + n]'(by omega)).toNat_lt
              have hj1 : (2 : Int) + n < (k : Int) + 4 := by omega
              have hj2 : (10 : Int) + n < (k : Int) + 4 := by omega
              clear hp1 hp2 hLA hLB hA hB
              go_wp2_with fail
              go_roundw
              case rel => exact ⟨n + 1, by omega, by go_num, by rw [HA.out]; simp, by rw [HB2.out]; simp, trivial⟩
              case measure => simp [intOf]; omega
            · obtain rfl : n = 8 := by omega
              have hl8 : ∀ a, ((s.extract a (a + 8)).data.toList.take 8) = (s.extract a (a + 8)).data.toList := by
                intro a
                refine List.take_of_length_le ?_
                have : (s.extract a (a + 8)).data.toList.length = (s.extract a (a + 8)).size := Array.length_toList
                rw [this, ByteArray.size_extract]; omega
              have e1 := congrArg beN (hl8 2)
              have e2 := congrArg beN (hl8 10)
              rw [show (2 : Nat) + 8 = 10 from rfl] at e1
              rw [show (10 : Nat) + 8 = 18 from rfl] at e2
              rw [show beN (s.extract 2 10).data.toList = numAt s 2 10 from rfl] at e1
              rw [show beN (s.extract 10 18).data.toList = numAt s 10 18 from rfl] at e2
              rw [e1, e2]
              have hla := numAt_lt s 2 10 (by omega)
              have hlb := numAt_lt s 10 18 (by omega)
              generalize hqq : numAt s 2 10 = sq at *
              generalize hqa : numAt s 10 18 = ak at *
              have HG := hid (And.intro hqq hqa)
              clear e1 e2 hl8 hqq hqa
              by_cases g3 : (1099511627776 : Int) < (sq : Int)
              · go_wp2_with fail
                refine bodyPost_ret (v := rdR (zeroFrm, 1)) (by simp [results, Try.results16, go_sem, rdR, frmV, zeroFrm, x0, x1, x2, x3, x4]) rfl ?_
                refine ⟨by rw [E0.out, if_neg (fun e => e g1), if_neg (fun e => e g2), if_pos (by omega)], ?_⟩
                refine drew_bel' (n := 1) ?_
                repeat (refine Below.setCell ?_ (by simp) _)
                exact HB.out
              · have g3' : (sq : Int) ≤ 1099511627776 := by omega
                by_cases g4 : (1099511627776 : Int) < (ak : Int)
                · go_wp2_with fail
                  refine bodyPost_ret (v := rdR (zeroFrm, 1)) (by simp [results, Try.results16, go_sem, rdR, frmV, zeroFrm, x0, x1, x2, x3, x4]) rfl ?_
                  refine ⟨by rw [E0.out, if_neg (fun e => e g1), if_neg (fun e => e g2), if_pos (by omega)], ?_⟩
                  refine drew_bel' (n := 1) ?_
                  repeat (refine Below.setCell ?_ (by simp) _)
                  exact HB.out
                · have g4' : (ak : Int) ≤ 1099511627776 := by omega
                  clear g3 g4
                  have hck := fun wx => rfcheck_any (frS s) wx
                  have e5 : frmV (frS s) = .agg #[.int .i64 (bAt s 0), .int .i64 (bAt s 1), .int .i64 sq, .int .i64 ak, .string (s.extract 19 k)] := by
                    unfold frS
                    rw [HG.out.1, HG.out.2, show s.size - 4 = k from by omega]
                    rfl
                  rw [e5] at hck
                  have E5 := hid e5
                  have e6 := E0.out
                  rw [if_neg (fun e => e g1), if_neg (fun e => e g2), if_neg (by omega)] at e6
                  have E6 := hid e6
                  generalize chkFr (frS s) = c at *
                  have HCK := hid hck
                  clear hck e5 e6
                  have hY := (Blk.set (w := w8.drew) (Y7.out) 2 (.int .i64 sq)).set 3 (.int .i64 ak)
                  have hX := (Blk.other (w := w8.drew) (X7.out) (a := ⟨w7.heap.size, 2, none⟩) (by simp; omega) (.int .i64 sq)).other (a := ⟨w7.heap.size, 3, none⟩) (by simp; omega) (.int .i64 ak)
                  have HXY := hid (And.intro hX hY)
                  clear hX hY
                  go_wp2_with fail
                  refine (HCK.out _).mono ?_
                  rintro e w9 ⟨rfl, hb8⟩
                  have X8 := hid (Blk.below (w := ((w8.setCell ⟨w7.heap.size, 2, none⟩ (.int .i64 sq)).setCell ⟨w7.heap.size, 3, none⟩ (.int .i64 ak)).drew) HXY.out.1 hb8)
                  have Y8 := hid (Blk.below (w := ((w8.setCell ⟨w7.heap.size, 2, none⟩ (.int .i64 sq)).setCell ⟨w7.heap.size, 3, none⟩ (.int .i64 ak)).drew) HXY.out.2 hb8)
                  have hbw : Below w.heap.size w w9 := (drew_bel' (n := 1) ((HB.out.setCell (by simp; omega) _).setCell (by simp; omega) _)).trans (hb8.mono (by show _ ≤ ((w8.setCell _ _).setCell _ _).heap.size; have := HB.out.size; simpa using this))
                  have HBW := hid hbw
                  clear hb8 hbw x0 x1 x2 x3 x4 xf y0 y1 y2 y3 y4 yf
                  have x0 := X8.out.cell (i := 0) rfl
                  have x1 := X8.out.cell (i := 1) rfl
                  have x2 := X8.out.cell (i := 2) rfl
                  have x3 := X8.out.cell (i := 3) rfl
                  have x4 := X8.out.cell (i := 4) rfl
                  have xf := X8.out.free
                  have y0 := Y8.out.cell (i := 0) rfl
                  have y1 := Y8.out.cell (i := 1) rfl
                  have y2 := Y8.out.cell (i := 2) rfl
                  have y3 := Y8.out.cell (i := 3) rfl
                  have y4 := Y8.out.cell (i := 4) rfl
                  by_cases hc : c = 0
                  · have E7 := hid (E6.out.trans (if_pos hc))
                    subst hc
                    go_wp2_with fail
                    refine bodyPost_ret (v := rdR (frS s, 0)) (by rw [show rdR (frS s, 0) = .tuple #[.agg #[.int .i64 (bAt s 0), .int .i64 (bAt s 1), .int .i64 sq, .int .i64 ak, .string (s.extract 19 k)], .int .i64 0] from by unfold rdR; rw [E5.out]]; simp [results, Try.results16, go_sem, x0, x1, x2, x3, x4]) rfl ?_
                    refine ⟨by rw [E7.out], ?_⟩
                    repeat (refine Below.setCell ?_ (by simp) _)
                    exact HBW.out
                  · have E7 := hid (E6.out.trans (if_neg hc))
                    have hcc : (c != 0) = true := by simp [hc]
                    go_wp2_with fail
                    refine bodyPost_ret (v := rdR (zeroFrm, c)) (by simp [results, Try.results16, go_sem, rdR, frmV, zeroFrm, x0, x1, x2, x3, x4]) rfl ?_
                    refine ⟨by rw [E7.out], ?_⟩
                    repeat (refine Below.setCell ?_ (by simp) _)
                    exact HBW.out
        · have hc2 : (bAt s 18 != (k : Int) - 19) = true := by simp [g2]
          go_wp2_with fail
          go_region_held3 (fun w' => w'.cell? ⟨w7.heap.size, 4, none⟩ = some (.string (s.extract 19 k))) (first | exact y4 | go_keep) (fail)
          go_wp2_with fail
          refine bodyPost_ret (v := rdR (zeroFrm, 4)) (by simp [results, Try.results16, go_sem, rdR, frmV, zeroFrm, x0, x1, x2, x3, x4]) rfl ?_
          refine ⟨by rw [E0.out, if_neg (fun e => e g1), if_pos g2], ?_⟩
          refine drew_bel' (n := 1) ?_
          repeat (refine Below.setCell ?_ (by simp) _)
          exact HB.out
    · have hc1 : (L.toList == (s.extract k (k + 4)).toList) = false := by
        rw [beq_eq_false_iff_ne]
        exact fun e => g1 (toList_inj.1 e).symm
      go_enter Try.func16, Try.ntmps16
      go_wp2_with fail
      go_region_held3 (fun _ => True) (trivial) (first | (go_at_call 82; refine (HS.out _).mono ?_; rintro e w6 ⟨rfl, hb6⟩; have HB6 := hid hb6; clear hb6) | (go_at_call 81; refine (HT.out _).mono ?_; rintro e w7 ⟨rfl, hb7⟩; have HB7 := hid hb7; clear hb7))
      have hb6 : Below w.heap.size w w7 := ((((Below.refl _ _).alloc (Nat.le_refl _) _).trans (drew_bel' (n := 1) (Below.refl _ _))).trans (HB6.out.mono (by simp))).trans (HB7.out.mono (by have := HB6.out.size; simp at this; omega))
      have X6 := hid (((Blk.new w #[.int .i64 0, .int .i64 0, .int .i64 0, .int .i64 0, .string ⟨#[]⟩] 23 _ rfl).below ((drew_bel' (n := 1) (Below.refl _ _)).trans HB6.out)).below HB7.out)
      have x0 := X6.out.cell (i := 0) rfl
      have x1 := X6.out.cell (i := 1) rfl
      have x2 := X6.out.cell (i := 2) rfl
      have x3 := X6.out.cell (i := 3) rfl
      have x4 := X6.out.cell (i := 4) rfl
      have xf := X6.out.free
      go_wp2_with fail
      refine bodyPost_ret (v := rdR (zeroFrm, 5)) (by simp [results, Try.results16, go_sem, rdR, frmV, zeroFrm, x0, x1, x2, x3, x4]) rfl ?_
      refine ⟨by rw [E0.out, if_pos g1], ?_⟩
      repeat (refine Below.setCell ?_ (by simp) _)
      exact hb6
end Go.Proofs.Ytpapblahnbeccaa
