/-
  THE REFERENCE's WORDS: less, minus, up, size. No condition beside the readings.
-/
import Derived.Test.YtomaiolhaenmhaaWdr
import Derived.Deep.OwnRows
namespace Go.Proofs.Ytomaiolhaenmhaa
open Go.RowKit Go.Lib

set_option maxRecDepth 100000 in
set_option maxHeartbeats 2000000 in
theorem less_any {n : Nat} (b c : BitVec n) (h0 : 0 < n) (hn : n ≤ 100) (w : World) (v u : Value) (hv : Bools w v (bl b)) (hu : Bools w u (bl c)) :
    Calls Try.prog 144 #[v, u] w fun e w' => e = .returned (.bool (b.ult c)) ∧ Below w.heap.size w w' := by
  obtain ⟨g, off, cap, rfl, hcap, hm, hg, HC⟩ := bools_open2 b h0 hv
  obtain ⟨g2, off2, cap2, rfl, hcap2, hm2, hg2, HC2⟩ := bools_open2 c h0 hu
  clear hv hu
  have hz := hid (show b.toNat / 2 ^ n = c.toNat / 2 ^ n from by rw [Nat.div_eq_of_lt b.isLt, Nat.div_eq_of_lt c.isLt])
  go_enter Try.func144, Try.ntmps144
  go_wp2_with fail
  go_loopw [5] (fun i wr => ∃ k : Nat, k ≤ n ∧ i = .int .i64 ((k : Int) - 1) ∧ Hid (b.toNat / 2 ^ k = c.toNat / 2 ^ k) ∧ Hid (Below w.heap.size w wr)) (fun i _ => (RowKit.intOf i + 1).toNat)
  case atStart => exact ⟨n, Nat.le_refl _, rfl, hz, hid (Below.refl _ _)⟩
  case round =>
    obtain ⟨k, hk, rfl, hq, HB⟩ := hrel
    cases k with
    | zero =>
      have hu := hid (show b.ult c = false from by
        have h1 := hq.out
        rw [Nat.pow_zero, Nat.div_one, Nat.div_one] at h1
        unfold BitVec.ult
        simp [h1])
      go_wp2_with fail
      go_ret
      exact ⟨retB (by rw [hu.out]), HB.out⟩
    | succ j =>
      have d1 : wr.drew.cell? ⟨g, off + j, none⟩ = some (.bool (b.getLsbD j)) := HC.out j (by omega) wr HB.out
      have d2 : wr.drew.cell? ⟨g2, off2 + j, none⟩ = some (.bool (c.getLsbD j)) := HC2.out j (by omega) wr HB.out
      have d3 : wr.cell? ⟨g2, off2 + j, none⟩ = some (.bool (c.getLsbD j)) := HC2.out j (by omega) wr HB.out
      have d4 : wr.cell? ⟨g, off + j, none⟩ = some (.bool (b.getLsbD j)) := HC.out j (by omega) wr HB.out
      have hj : ((j + 1 : Nat) : Int) - 1 = (j : Int) := by omega
      have hjn : (j : Int) < (n : Int) := by omega
      have hj0 : (0 : Int) ≤ (j : Int) := by omega
      rw [hj]
      by_cases he : b.getLsbD j = c.getLsbD j
      · have hs := hid (div_same b c j hq.out he)
        rw [he] at d1 d4
        have hne : (c.getLsbD j != c.getLsbD j) = false := by simp
        generalize c.getLsbD j = y at *
        clear hj
        go_wp2_with fail
        go_quiet (fail)
        go_wp2_with fail
        go_roundw
        case rel => exact ⟨j, by omega, rfl, hs, hid (drew_bel' (n := nq) HB.out)⟩
        case measure => simp [RowKit.intOf]
      · have hs := hid (less_at b c j hq.out he)
        have hne : (b.getLsbD j == c.getLsbD j) = false := by rw [beq_eq_false_iff_ne]; exact he
        generalize c.getLsbD j = y at *
        generalize b.getLsbD j = x at *
        clear hj he
        go_wp2_with fail
        go_quiet (fail)
        go_wp2_with fail
        go_ret
        exact ⟨retB (by rw [hs.out]), drew_bel' (n := nq) HB.out⟩
theorem bl_zero (n : Nat) : bl (0#n) = List.replicate n false := by
  symm
  apply bl_eq
  · simp
  · intro i hi
    simp
theorem made_false (n : Nat) : (madeCells #[Value.bool false] n).toList = (bl (0#n)).map Value.bool := by
  rw [toList_madeCells_one, bl_zero, List.map_replicate]
theorem made_bools (w : World) (n : Nat) (hn : n ≤ 9223372036854775807) : Bools (w.alloc (.cells (madeCells #[Value.bool false] n) 4)) (.slice (some ⟨w.heap.size, 0, none⟩) n n) (bl (0#n)) := by
  have h := Sl.made w 4 n ((bl (0#n)).map Value.bool) w.heap.size rfl hn
  have e : ((bl (0#n)).map Value.bool).toArray = madeCells #[Value.bool false] n := by rw [← made_false]
  rw [e] at h
  show Sl _ _ (bl (0#n)).length _
  rw [bl_length]
  exact h
set_option maxRecDepth 100000 in
set_option maxHeartbeats 2000000 in
theorem minus_any {n : Nat} (b : BitVec n) (h0 : 0 < n) (hn : n ≤ 100) (w : World) (v : Value) (hv : Bools w v (bl b)) :
    Calls Try.prog 153 #[v] w fun e w' => ∃ v', e = .returned v' ∧ OwnB w' w.heap.size v' (bl (-b)) ∧ Below w.heap.size w w' := by
  have HN := hid (fun w' (h : Below w.heap.size w w') => not_any b h0 hn w' v (L1.below hv h))
  have D1 : Hid (Below w.heap.size w (w.alloc (.cells (madeCells #[Value.bool false] n) 4)).drew) := hid (drew_bel' (n := 1) ((Below.refl _ _).alloc (Nat.le_refl _) _))
  have MB : Hid (Bools (w.alloc (.cells (madeCells #[Value.bool false] n) 4)).drew (.slice (some ⟨w.heap.size, 0, none⟩) n n) (bl (0#n))) := hid (L1.below (made_bools w n (by omega)) (drew_bel' (n := 1) (Below.refl _ _)))
  have HA := hid (fun w' u z hu hz => add_any (~~~b) (0#n) true h0 hn w' u z hu hz)
  rw [minus_eq] at HA
  have hmk := fun wx : World => run_make_row' (P := Try.prog) 145 4 (.bool false) 1 Try.underlying145 (by kernel_rfl) rfl .i64 .i64 n (by omega) (by omega) wx
  obtain ⟨g, off, cap, rfl, hcap, hm, hg, HC⟩ := bools_open2 b h0 hv
  clear hv
  go_enter Try.func153, Try.ntmps153
  go_wp2_with fail
  have D0 : Hid (Below w.heap.size w w.drew) := hid (drew_bel' (n := 1) (Below.refl _ _))
  go_region_held3 (fun _ => True) (trivial) (first | (go_at_call 149; (with_reducible refine (HN.out _ D1.out).mono ?_); rintro r w1 ⟨v1, rfl, ho1, hb1⟩; have O1' := hid ho1; have B1 := hid (D1.out.trans (hb1.mono D1.out.size)); have MB1 := hid (L1.below MB.out hb1); clear ho1 hb1) | (go_at_call 149; (with_reducible refine (HN.out _ D0.out).mono ?_); rintro r w1 ⟨v1, rfl, ho1, hb1⟩; have O1' := hid ho1; have B1 := hid (D0.out.trans (hb1.mono D0.out.size)); have MB1 := hid (made_bools w1 n (by omega)); clear ho1 hb1) | (go_at_call 148; (with_reducible refine (HA.out _ _ _ (O1.l1 O1'.out) MB1.out).mono ?_); rintro r w2 ⟨v2, rfl, ho2, hb2⟩; have O2' := hid ho2; have B2 := hid hb2; clear ho2 hb2) | (go_at_call 148; (with_reducible refine (HA.out _ _ _ (L1.below (O1.l1 O1'.out) ((Below.refl _ _).alloc (Nat.le_refl _) _)) MB1.out).mono ?_); rintro r w2 ⟨v2, rfl, ho2, hb2⟩; have O2' := hid ho2; have B2 := hid ((((Below.refl _ _).alloc (Nat.le_refl _) _).trans (hb2.mono (by simp)))); clear ho2 hb2))
  all_goals
    go_wp2_with fail
    go_ret
    have hs : w.heap.size ≤ w1.heap.size := B1.out.size
    exact ⟨v2, rfl, own_mono O2'.out (by first | exact hs | (simp; omega)), B1.out.trans (B2.out.mono hs)⟩
end Go.Proofs.Ytomaiolhaenmhaa
