/-
  THE REFERENCE's WORDS: Copy, times, split. No condition beside the readings.
-/
import Derived.Test.YtomaiolhaenmhaaWdu
namespace Go.Proofs.Ytomaiolhaenmhaa
open Go.RowKit Go.Lib

theorem elem_bools : Elem Try.prog 144 4 (.bool false) 1 1 := ⟨Try.underlying144, by kernel_rfl, rfl, by decide⟩
set_option maxRecDepth 100000 in
theorem copy_bools (v : Value) (xs : List Bool) (w : World) (hv : Bools w v xs) (hl : xs.length ≤ 140737488355328) :
    Calls Try.prog 143 #[v] w fun e w' => ∃ v', e = .returned v' ∧ OwnB w' w.heap.size v' xs ∧ Below w.heap.size w w' := by
  have HV := hid hv
  clear hv
  go_enter Try.func143, Try.ntmps143
  go_wp2_with (at_builtin; go_must (refine app_l1 one_bool elem_bools (base := w.heap.size) rfl _ _ rfl rfl rfl (O1.nil _ _ _ _) HV.out (by simp; omega) (by simp; omega) (Nat.le_refl _) ?_); intro v' w' ho hb2 _)
  go_ret
  exact ⟨_, rfl, by simpa using ho, hb2⟩

set_option maxRecDepth 100000 in
set_option maxHeartbeats 2000000 in
theorem times_any {n : Nat} (b c : BitVec n) (h0 : 0 < n) (hn : n ≤ 100) (w : World) (v u : Value) (hv : Bools w v (bl b)) (hu : Bools w u (bl c)) :
    Calls Try.prog 150 #[v, u] w fun e w' => ∃ v', e = .returned v' ∧ OwnB w' w.heap.size v' (bl (b * c)) ∧ Below w.heap.size w w' := by
  have hmk := fun wx : World => run_make_row' (P := Try.prog) 145 4 (.bool false) 1 Try.underlying145 (by kernel_rfl) rfl .i64 .i64 n (by omega) (by omega) wx
  have HV := hid hv
  obtain ⟨g, off, cap, rfl, hcap, hm, hg, HC⟩ := bools_open2 b h0 hv
  obtain ⟨g2, off2, cap2, rfl, hcap2, hm2, hg2, HC2⟩ := bools_open2 c h0 hu
  clear hv hu
  go_enter Try.func150, Try.ntmps150
  go_wp2_with fail
  have M0 := hid (made_own w n w.heap.size (by omega) (Nat.le_refl _))
  go_loopw [13, 5] (fun i v wr => ∃ (k : Nat) (vv : Value), k ≤ n ∧ i = .int .i64 k ∧ v = vv ∧ Hid (OwnB wr w.heap.size vv (bl (mulK b c k))) ∧ Hid (Below w.heap.size w wr)) (fun i _ _ => n - (RowKit.intOf i).toNat)
  case atStart => exact ⟨0, _, Nat.zero_le _, rfl, rfl, by rw [mulK_zero]; exact M0, hid ((Below.refl _ _).alloc (Nat.le_refl _) _)⟩
  case round =>
    obtain ⟨k, vv, hk, rfl, hvv, hown, HB⟩ := hrel
    have hvv2 := hvv.symm
    subst hvv2
    clear hvv
    by_cases hlt : k < n
    · have hck := HC2.out k hlt wr HB.out
      cases hb : c.getLsbD k with
      | true =>
        rw [hb] at hck
        have HM := hid (mulK_yes b c k hb)
        have HU := hid (up_any b k h0 hn hk wr _ (L1.below HV.out HB.out))
        have HA := hid (fun w' x (h : Below wr.heap.size wr w') hx => add_any (mulK b c k) (b <<< k) false h0 hn w' vv x (L1.below (O1.l1 hown.out) h) hx)
        rw [sum_eq] at HA
        clear hb
        go_wp2_with (first | (go_at_call 178; refine HU.out.mono ?_; rintro r w1 ⟨v1, rfl, ho1, hb1⟩; have O1' := hid ho1; have B1 := hid hb1; clear ho1 hb1) | (go_at_call 148; refine (HA.out _ _ B1.out (O1.l1 O1'.out)).mono ?_; rintro r w2 ⟨v2, rfl, ho2, hb2⟩; have O2' := hid ho2; have B2 := hid (B1.out.trans (hb2.mono B1.out.size)); clear ho2 hb2))
        go_roundw
        case rel => exact ⟨k + 1, v2, by omega, by go_num, rfl, by rw [HM.out]; exact hid (own_mono O2'.out (Nat.le_trans HB.out.size B1.out.size)), hid (HB.out.trans (B2.out.mono HB.out.size))⟩
        case measure => simp [RowKit.intOf]; omega
      | false =>
        rw [hb] at hck
        have HM := hid (mulK_no b c k hb)
        clear hb
        go_wp2_with fail
        go_roundw
        case rel => exact ⟨k + 1, vv, by omega, by go_num, rfl, by rw [HM.out]; exact hown, HB⟩
        case measure => simp [RowKit.intOf]; omega
    · obtain rfl : k = n := by omega
      rw [mulK_full] at hown
      go_wp2_with fail
      go_ret
      exact ⟨vv, rfl, hown.out, HB.out⟩
end Go.Proofs.Ytomaiolhaenmhaa
