/-
  THE REFERENCE's WORDS: not, add, up, less. No condition beside the readings.
-/
import Derived.Test.YtomaiolhaenmhaaWdq
import Derived.Test.YtomaiolhaenmhaaStep
import Derived.Deep.RegionLaw
namespace Go.Proofs.Ytomaiolhaenmhaa
open Go.RowKit Go.Lib

theorem bools_open2 {n : Nat} (b : BitVec n) (h0 : 0 < n) {w : World} {v : Value} (hv : Bools w v (bl b)) : ∃ g off cap, v = .slice (some ⟨g, off, none⟩) n cap ∧ n ≤ cap ∧ cap ≤ 9223372036854775807 ∧ g < w.heap.size ∧ Hid (∀ j (_ : j < n) (w' : World), Below w.heap.size w w' → w'.cell? ⟨g, off + j, none⟩ = some (.bool (b.getLsbD j))) := by
  obtain ⟨g, off, cap, rfl, h1, h2, h3⟩ := bools_open b h0 hv
  refine ⟨g, off, cap, rfl, h1, h2, World.block_lt_of_cell? w ⟨g, off + 0, none⟩ (h3.out 0 h0), hid (fun j hj w' hb => ?_)⟩
  exact (hb.cell (p := ⟨g, off + j, none⟩) (World.block_lt_of_cell? w _ (h3.out j hj))).trans (h3.out j hj)

set_option maxRecDepth 100000 in
set_option maxHeartbeats 1000000 in
theorem not_any {n : Nat} (b : BitVec n) (h0 : 0 < n) (hn : n ≤ 100) (w : World) (v : Value) (hv : Bools w v (bl b)) :
    Calls Try.prog 149 #[v] w fun e w' => ∃ v', e = .returned v' ∧ OwnB w' w.heap.size v' (bl (~~~b)) ∧ Below w.heap.size w w' := by
  obtain ⟨g, off, cap, rfl, hcap, hm, hg, HC⟩ := bools_open2 b h0 hv
  clear hv
  go_enter Try.func149, Try.ntmps149
  go_wp2_with fail
  go_loopw [8, 3] (fun i v wr => ∃ (k : Nat) (vv : Value), k ≤ n ∧ i = .int .i64 k ∧ v = vv ∧ OwnB wr w.heap.size vv ((bl (~~~b)).take k) ∧ Hid (Below w.heap.size w wr) ∧ w.heap.size ≤ wr.heap.size) (fun i _ _ => n - (RowKit.intOf i).toNat)
  case atStart => exact ⟨0, _, Nat.zero_le _, rfl, rfl, O1.nil _ _ _ _, hid (Below.refl _ _), Nat.le_refl _⟩
  case round =>
    obtain ⟨k, vv, hk, rfl, hvv, hown, HB, hsz⟩ := hrel
    have hvv2 := hvv.symm
    subst hvv2
    clear hvv
    by_cases hlt : k < n
    · have hln := bl_take_len (~~~b) k hk
      have hst := hid (bl_take (~~~b) k hlt)
      have hbit := hid (show (~~~b).getLsbD k = !(b.getLsbD k) from by simp [hlt])
      have hck := HC.out k hlt wr HB.out
      generalize (bl (~~~b)).take k = L at *
      have hlen : L.length + 1 ≤ 101 := by omega
      clear hln
      go_wp2_with (at_builtin; go_loud (refine app_o1 one_bool elem_word (y := !(b.getLsbD k)) rfl _ _ rfl rfl rfl rfl hown (by omega) (by omega) hsz ?_); intro v' w' ho' hb' hg'; have HO := hid ho'; have HB2 := hid (HB.out.trans hb'); have hsz2 := HB2.out.size; clear ho' hb' hg')
      go_roundw
      case rel => exact ⟨k + 1, v', by omega, by go_num, rfl, by rw [hst.out, hbit.out]; exact HO.out, HB2, hsz2⟩
      case measure => simp [RowKit.intOf]; omega
    · obtain rfl : k = n := by omega
      rw [bl_full] at hown
      go_wp2_with fail
      go_ret
      exact ⟨vv, rfl, hown, HB.out⟩

set_option maxRecDepth 100000 in
set_option maxHeartbeats 4000000 in
theorem add_any {n : Nat} (b c : BitVec n) (cin : Bool) (h0 : 0 < n) (hn : n ≤ 100) (w : World) (v u : Value) (hv : Bools w v (bl b)) (hu : Bools w u (bl c)) :
    Calls Try.prog 148 #[v, u, .bool cin] w fun e w' => ∃ v', e = .returned v' ∧ OwnB w' w.heap.size v' (bl (b + c + BitVec.setWidth n (BitVec.ofBool cin))) ∧ Below w.heap.size w w' := by
  obtain ⟨g, off, cap, rfl, hcap, hm, hg, HC⟩ := bools_open2 b h0 hv
  obtain ⟨g2, off2, cap2, rfl, hcap2, hm2, hg2, HC2⟩ := bools_open2 c h0 hu
  clear hv hu
  have hbit := hid (fun k hk => add_bit b c cin k hk)
  have hcar := hid (fun k => carry_next b c cin k)
  have hc0 := hid (BitVec.carry_zero (x := b) (y := c) (c := cin))
  have hlen0 := bl_length (b + c + BitVec.setWidth n (BitVec.ofBool cin))
  have htk := hid (fun k (hk : k < n) => bl_take (b + c + BitVec.setWidth n (BitVec.ofBool cin)) k hk)
  have hfl := hid (bl_full (b + c + BitVec.setWidth n (BitVec.ofBool cin)))
  have htl := hid (fun k hk => bl_take_len (b + c + BitVec.setWidth n (BitVec.ofBool cin)) k hk)
  generalize (b + c + BitVec.setWidth n (BitVec.ofBool cin)) = s at *
  clear hlen0
  go_enter Try.func148, Try.ntmps148
  go_wp2_with fail
  go_loopw [11, 7, 2] (fun i v cc wr => ∃ (k : Nat) (vv : Value), k ≤ n ∧ i = .int .i64 k ∧ v = vv ∧ cc = .bool (BitVec.carry k b c cin) ∧ OwnB wr w.heap.size vv ((bl s).take k) ∧ Hid (Below w.heap.size w wr) ∧ w.heap.size ≤ wr.heap.size) (fun i _ _ _ => n - (RowKit.intOf i).toNat)
  case atStart => exact ⟨0, _, Nat.zero_le _, rfl, rfl, by rw [hc0.out], O1.nil _ _ _ _, hid (Below.refl _ _), Nat.le_refl _⟩
  case round =>
    obtain ⟨k, vv, hk, rfl, hvv, rfl, hown, HB, hsz⟩ := hrel
    have hvv2 := hvv.symm
    subst hvv2
    clear hvv
    by_cases hlt : k < n
    · have hln := htl.out k hk
      have hst := hid (htk.out k hlt)
      have hbk := hid (hbit.out k hlt)
      have hck2 := hid (hcar.out k)
      have d1 : wr.drew.cell? ⟨g, off + k, none⟩ = some (.bool (b.getLsbD k)) := HC.out k hlt wr HB.out
      have d2 : wr.drew.cell? ⟨g2, off2 + k, none⟩ = some (.bool (c.getLsbD k)) := HC2.out k hlt wr HB.out
      have D1 := hid (HC.out k hlt)
      have D2 := hid (HC2.out k hlt)
      have hi0 : (0 : Int) ≤ (k : Int) := by omega
      have hi1 : (k : Int) < (n : Int) := by omega
      generalize (bl s).take k = L at *
      generalize s.getLsbD k = sk at *
      generalize BitVec.carry k b c cin = c0 at *
      generalize b.getLsbD k = x at *
      generalize c.getLsbD k = y at *
      have hlen : L.length + 1 ≤ 101 := by omega
      clear hln
      have OW := hid hown
      have HBD : Hid (Below w.heap.size w wr.drew) := hid (drew_bel' (n := 1) HB.out)
      go_wp2_with fail
      go_region_law (first | (refine step_one1 elem_word (cs := [.bool ((x != y) != c0)]) (by rfl) _ _ (by rfl) (by rfl) (by rfl) rfl (own_below OW.out (drew_bel' (n := 1) (Below.refl _ _))) (by rfl) (by intro c hc; simp at hc; subst hc; rfl) (by omega) (by omega) hsz ?_; intro v' w4 ho hb hg'; have HO := hid ho; have HB2 := hid (HBD.out.trans hb); have e1 := D1.out w4 HB2.out; have e2 := D2.out w4 HB2.out; have hsz2 := HB2.out.size; clear ho hb hg'))
      all_goals
        rw [hbk.out] at hst
        have HST := hid hst.out
        clear hst hbk hown OW d1 d2 D1 D2
        cases x <;> cases y <;> cases c0
      all_goals
        go_wp2_with fail
        go_roundw
        case rel =>
          refine ⟨k + 1, v', by omega, by go_num, rfl, by rw [hck2.out]; rfl, ?_, HB2, hsz2⟩
          rw [HST.out]
          show World.ownsRow _ _ _ _ _ (L ++ [_]).length ((L ++ [_]).map _)
          rw [List.length_append, List.map_append]
          exact HO.out
        case measure => simp [RowKit.intOf]; omega
    · obtain rfl : k = n := by omega
      rw [hfl.out] at hown
      go_wp2_with fail
      go_ret
      exact ⟨vv, rfl, hown, HB.out⟩
end Go.Proofs.Ytomaiolhaenmhaa
