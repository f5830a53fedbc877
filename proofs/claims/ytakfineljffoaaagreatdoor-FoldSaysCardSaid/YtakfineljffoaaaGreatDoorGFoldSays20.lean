/-
  THE REFERENCE's WORDS: comparisons with a sign. Condition: the number of the comparison is 2, 4, 6 or 8.
-/
import Derived.Test.YtakfineljffoaaaGreatDoorGFoldSays18
namespace Go.Proofs.YtakfineljffoaaaGreatDoor
open Go.RowKit Go.Lib

set_option maxRecDepth 100000 in
set_option maxHeartbeats 4000000 in
theorem rcmp_sign {n : Nat} (b c : BitVec n) (h0 : 0 < n) (hn : n ≤ 90) (which : Nat) (hw : which = 2 ∨ which = 4 ∨ which = 6 ∨ which = 8) (w : World) (v u : Value) (hv : Bools w v (bl b)) (hu : Bools w u (bl c)) :
    Calls Tryz.prog 113 #[.int .i64 which, v, u] w fun e w' => e = .returned (.int .i64 (tv (cmpF which b c))) ∧ Below w.heap.size w w' := by
  have HC1 := hid (copy_bools v (bl b) w hv (by rw [bl_length]; omega))
  have HC2 := hid (fun w' h => copy_bools u (bl c) w' (L1.below hu h) (by rw [bl_length]; omega))
  have HL := hid (fun w' x y hx hy => less_any (flip b) (flip c) h0 (by omega) w' x y hx hy)
  have HM := hid (fun w' x y hx hy => less_any (flip c) (flip b) h0 (by omega) w' x y hx hy)
  have h1 := flip_ult b c h0
  have h2 := flip_ult c b h0
  rw [h1] at HL
  rw [h2] at HM
  clear h1 h2
  have HT := hid (fun x w' => rtruth_b x w')
  obtain ⟨g, off, cap, rfl, hcap, hm, hg, _⟩ := bools_open2 b h0 hv
  obtain ⟨g2, off2, cap2, rfl, hcap2, hm2, hg2, _⟩ := bools_open2 c h0 hu
  clear hv hu
  have hi0 : IntKind.i64.wrap ((n : Int) - 1) = ((n - 1 : Nat) : Int) := by rw [IntKind.wrap_i64]; omega
  have hin : ((n - 1 : Nat) : Int) < (n : Int) := by omega
  have hnn : n - 1 < n := by omega
  have HF1 := hid (flip_set b)
  have HF2 := hid (flip_set c)
  rcases hw with rfl | rfl | rfl | rfl
  all_goals
    simp only [cmpF]
    generalize b.slt c = l at *
    generalize c.slt b = m at *
    go_enter Tryz.func113, Tryz.ntmps113
    go_wp2_with (first | (go_at_call 141; with_reducible refine HC1.out.mono ?_; rintro r w1 ⟨v1, rfl, ho1, hb1⟩; have O1' := hid ho1; have B1 := hid hb1; clear ho1 hb1) | (go_at_call 141; with_reducible refine (HC2.out _ B1.out).mono ?_; rintro r w2 ⟨v2, rfl, ho2, hb2⟩; have O2' := hid ho2; have B2 := hid hb2; clear ho2 hb2))
    obtain ⟨ga, ca, rfl, ha1, ha2, ha3, ha4⟩ := own_open b h0 (O1.below O1'.out B2.out)
    obtain ⟨gb, cb, rfl, hb1, hb2, hb3, hb4⟩ := own_open c h0 O2'.out
    have hltb : ga < w1.heap.size := (World.ownsRow.lt O1'.out ga rfl).2
    have hne : gb ≠ ga := by omega
    have hne2 : ga ≠ gb := by omega
    have a1 : w2.cell? ⟨ga, n - 1, none⟩ = some (.bool (b.getLsbD (n - 1))) := ha3 _ hnn
    have a2 : w2.frozen? ⟨ga, n - 1, none⟩ = false := ha4 _
    have b1 : w2.cell? ⟨gb, n - 1, none⟩ = some (.bool (c.getLsbD (n - 1))) := hb3 _ hnn
    have b2 : w2.frozen? ⟨gb, n - 1, none⟩ = false := hb4 _
    have SA := hid (O1.stored (w := w2) (O1.below O1'.out B2.out) (n - 1) (!b.getLsbD (n - 1))).1
    rw [HF1.out] at SA
    have SA2 := hid (own_other (b2 := gb) SA.out hne (n - 1) (.bool (!c.getLsbD (n - 1))))
    have SB := hid (O1.stored (w := w2.setCell ⟨ga, n - 1, none⟩ (.bool (!b.getLsbD (n - 1)))) (own_other (w := w2) (b2 := ga) O2'.out hne2 (n - 1) (.bool (!b.getLsbD (n - 1)))) (n - 1) (!c.getLsbD (n - 1))).1
    rw [HF2.out] at SB
    have BW := hid (Below.setCell (Below.setCell (B1.out.trans (B2.out.mono B1.out.size)) (p := ⟨ga, n - 1, none⟩) ha1 (.bool (!b.getLsbD (n - 1)))) (p := ⟨gb, n - 1, none⟩) (Nat.le_trans B1.out.size hb1) (.bool (!c.getLsbD (n - 1))))
    clear ha3 ha4 hb3 hb4
    generalize b.getLsbD (n - 1) = x at *
    generalize c.getLsbD (n - 1) = y at *
    go_cut [] (fun wx => wx = ((w2.setCell ⟨ga, n - 1, none⟩ (.bool (!x))).setCell ⟨gb, n - 1, none⟩ (.bool (!y))).drew)
    case first =>
      go_region_law (fail)
      all_goals (go_wp2_with fail; go_meet; exact rfl)
    case rest =>
    have hc9 := hid hcut
    clear hcut
    have L3 := hid (HL.out ((w2.setCell ⟨ga, n - 1, none⟩ (.bool (!x))).setCell ⟨gb, n - 1, none⟩ (.bool (!y))).drew _ _ (O1.l1 SA2.out) (O1.l1 SB.out))
    have M3 := hid (fun w' h => HM.out w' _ _ (L1.below (w := ((w2.setCell ⟨ga, n - 1, none⟩ (.bool (!x))).setCell ⟨gb, n - 1, none⟩ (.bool (!y))).drew) (O1.l1 SB.out) h) (L1.below (w := ((w2.setCell ⟨ga, n - 1, none⟩ (.bool (!x))).setCell ⟨gb, n - 1, none⟩ (.bool (!y))).drew) (O1.l1 SA2.out) h))
    have BW3 : Hid (Below w.heap.size w ((w2.setCell ⟨ga, n - 1, none⟩ (.bool (!x))).setCell ⟨gb, n - 1, none⟩ (.bool (!y))).drew) := hid (drew_bel' (n := 1) BW.out)
    clear HL HM SA SA2 SB BW a1 a2 b1 b2 HF1 HF2 O1' O2'
    rw [← hc9.out] at L3 M3 BW3
    clear hc9
    go_wp2_with (first | (go_at_call 142; with_reducible refine L3.out.mono ?_; rintro r w4 ⟨rfl, hb4⟩; have B4 := hid hb4; clear hb4) | (go_at_call 142; with_reducible refine (M3.out _ B4.out).mono ?_; rintro r w5 ⟨rfl, hb5⟩; have B5 := hid hb5; clear hb5) | (go_at_call 108; refine (HT.out _ _).mono ?_; rintro r w6 ⟨rfl, rfl⟩))
    all_goals
      go_ret
      have B6 := BW3.out.trans ((B4.out.trans (B5.out.mono B4.out.size)).mono BW3.out.size)
      exact ⟨ret1 (by cases l <;> cases m <;> simp_all), (B6.alloc B6.size _).alloc (by have h1 := B6.size; simp; omega) _⟩
end Go.Proofs.YtakfineljffoaaaGreatDoor
