/-
  THE WALKS of the signed readers. Conditions: lengths of strings are at most the model's greatest length.
-/
import Derived.Test.YtakfineljffoaaaGreatDoorGBinReads4
namespace Go.Proofs.YtakfineljffoaaaGreatDoor
open Go.RowKit

def tupS (r : Int × Nat × Nat) : Value := .tuple #[.int .i64 r.1, .int .i64 r.2.1, .int .i64 r.2.2]

set_option maxRecDepth 100000 in
set_option maxHeartbeats 400000 in
theorem readS_bad (s : ByteArray) (b : Int) (w : World) (hb : (b != 32) = true) (hb' : (b != 64) = true) :
    Calls Tryz.prog 117 #[.string s, .int .i64 b] w fun e w' => e = .returned (tup3 .i64 .i64 .i64 (0, 0, 1)) ∧ w = w' := by
  go_enter Tryz.func117, Tryz.ntmps117
  go_wp2
  go_ret3
  exact ⟨rfl, rfl⟩

set_option maxRecDepth 100000 in
set_option maxHeartbeats 1000000 in
theorem readS_ok (s : ByteArray) (b : Nat) (w : World) (hs : s.size ≤ maxLen) (hb : b = 32 ∨ b = 64) :
    Calls Tryz.prog 117 #[.string s, .int .i64 b] w fun e w' => e = .returned (tupS (rs b s.data.toList 0 0)) ∧ w = w' := by
  unfold maxLen at hs
  have hb32 : 32 ≤ b := by omega
  have hb64 : b ≤ 64 := by omega
  have HB := hid hb
  have hg : ((b : Int) != 32) = false ∨ (((b : Int) != 32) = true ∧ ((b : Int) != 64) = false) := by rcases hb with rfl | rfl <;> simp
  clear hb
  rcases hg with hg | ⟨hg, hg'⟩
  all_goals
    go_enter Tryz.func117, Tryz.ntmps117
    go_wp2
    go_loop [7, 21] (fun n i => ∃ (k a : Nat), k ≤ s.size ∧ 7 * k < b ∧ i = .int .i64 k ∧ n = .int .i64 a ∧ Hid (a < 2 ^ (7 * k)) ∧ Hid (rs b (s.data.toList.drop k) k a = rs b s.data.toList 0 0)) (fun _ i => s.size - (intOf i).toNat)
    case atStart => exact ⟨0, 0, by omega, by omega, rfl, rfl, by simp [Hid], by simp [Hid]⟩
    case round =>
      obtain ⟨k, a, hk, h7, rfl, rfl, ha, hr⟩ := hrel
      by_cases hlt : k < s.size
      · rw [data_drop s k hlt] at hr
        go_wp2
        · go_ret3
          exact ⟨by rw [rs_errC hr ‹_› ‹_›]; rfl, rfl⟩
        · go_ret3
          rw [rs_retD hr HB.out h7 ha.out ‹_› ‹_›]
          exact ⟨ret3 rfl (by simp) rfl, rfl⟩
        · go_ret3
          exact ⟨by rw [rs_errB hr ‹_› ‹_›]; rfl, rfl⟩
        · go_ret3
          exact ⟨by rw [rs_errA hr ‹_› ‹_›]; rfl, rfl⟩
        · go_ret3
          rw [rs_retE hr HB.out h7 ha.out ‹_› ‹_›]
          exact ⟨ret3 rfl (by simp) rfl, rfl⟩
        · go_round
          case rel => exact ⟨k + 1, _, by omega, by have := HB.out; omega, by go_num, by rw [ors_go a k _ (by omega) ha.out], ru_next ha.out, rs_go hr ‹_› ‹_›⟩
          case measure => simp [intOf]; omega
      · rw [List.drop_of_length_le (by simp; omega)] at hr
        go_wp2
        go_ret3
        exact ⟨by rw [← hr.out]; rfl, rfl⟩

/-- what the reference's LebReadS computes -/
def refS (b : Nat) (l : List UInt8) : Int × Nat × Nat :=
  let (k, m, e) := spanR b l
  if e ≠ 0 then (0, 0, e)
  else if k = m ∧ b = 32 ∧ (sv (l.getD (k - 1) 0).toNat < -8 ∨ 8 ≤ sv (l.getD (k - 1) 0).toNat) then (0, 0, 4)
  else if k = m ∧ b = 64 ∧ sv (l.getD (k - 1) 0).toNat ≠ 0 ∧ sv (l.getD (k - 1) 0).toNat ≠ -1 then (0, 0, 4)
  else (wrap64 (horner (l.take (k - 1)) + 128 ^ (k - 1) * sv (l.getD (k - 1) 0).toNat), k, 0)

set_option maxRecDepth 100000 in
set_option maxHeartbeats 1000000 in
theorem refS_bad (s : ByteArray) (b : Int) (w : World) (hb : (b != 32) = true) (hb' : (b != 64) = true) (hb2 : (b == 64) = false) :
    Calls Tryz.prog 121 #[.string s, .int .i64 b] w fun e w' => e = .returned (tup3 .i64 .i64 .i64 (0, 0, 1)) ∧ w = w' := by
  go_enter Tryz.func121, Tryz.ntmps121
  go_wp2_with fail
  refine (span_bad s b _ hb hb' hb2).mono ?_
  rintro e w' ⟨rfl, rfl⟩
  unfold tup3
  go_wp2_with fail
  go_ret3
  exact ⟨rfl, rfl⟩

/-- from place j on, with the sign of the last byte -/
def hs (n : Int) : List UInt8 → Int
  | [] => n
  | c :: r => (c.toNat % 128 : Nat) + 128 * hs n r
theorem hs_eq (n : Int) (l : List UInt8) : hs n l = horner l + 128 ^ l.length * n := by
  induction l with
  | nil => simp [hs, horner]
  | cons c r ih =>
    simp only [hs, horner, ih, List.length_cons, Int.pow_succ]
    push_cast
    rw [Int.mul_add, show (128 : Int) ^ r.length * 128 * n = 128 * (128 ^ r.length * n) by rw [Int.mul_comm (128 ^ r.length) 128, Int.mul_assoc]]
    omega
theorem hs_back (n : Int) (l : List UInt8) (j : Nat) (h : j < l.length) : hs n (l.drop j) = (l[j].toNat % 128 : Nat) + 128 * hs n (l.drop (j + 1)) := by
  rw [drop_cons l j h, hs]
theorem hs_step (x : Int) (c : Nat) : wrap64 (wrap64 (wrap64 x * 128) + ((c % 128 : Nat) : Int)) = wrap64 (((c % 128 : Nat) : Int) + 128 * x) := by
  unfold wrap64; omega

set_option maxRecDepth 100000 in
set_option maxHeartbeats 1000000 in
theorem refS_32_err (s : ByteArray) (w : World) (_hs0 : s.size ≤ 9223372036854775807) (q : Nat) (hl : q < s.size) (hq5 : q + 1 ≤ 5) (hsp : Calls Tryz.prog 119 #[.string s, .int .i64 32] w fun e w' => e = .returned (tup3 .i64 .i64 .i64 (q + 1, 5, 0)) ∧ w = w')
    (hc : s[q].toNat ≤ 127) (hbad : q + 1 = 5 ∧ (sv s[q].toNat < -8 ∨ 8 ≤ sv s[q].toNat)) :
    Calls Tryz.prog 121 #[.string s, .int .i64 32] w fun e w' => e = .returned (tupS (0, 0, 4)) ∧ w = w' := by
  have w1 : wrap64 ((s[q].toNat : Nat) : Int) = ((s[q].toNat : Nat) : Int) := wrap64_small (by omega) (by omega)
  have w2 : wrap64 (((s[q].toNat : Nat) : Int) - 128) = ((s[q].toNat : Nat) : Int) - 128 := wrap64_small (by omega) (by omega)
  have hsv : sv s[q].toNat = if 64 ≤ s[q].toNat then ((s[q].toNat : Nat) : Int) - 128 else ((s[q].toNat : Nat) : Int) := by
    unfold sv; rw [Nat.mod_eq_of_lt (by omega)]
  have hm : ((q : Int) + 1 == 5) = true := by simp; omega
  by_cases h63 : 64 ≤ s[q].toNat
  · rw [if_pos h63] at hsv
    rw [hsv] at hbad
    have h65 : ((s[q].toNat : Nat) : Int) ≤ 127 := by omega
    clear hsv hc
    have h64 : (63 : Int) < ((s[q].toNat : Nat) : Int) := by omega
    clear h63
    rcases hbad with ⟨hk, hbad⟩
    clear hk
    replace hbad := hbad.resolve_right (by omega)
    all_goals
      go_enter Tryz.func121, Tryz.ntmps121
      go_wp2_with fail
      refine hsp.mono ?_
      rintro e w' ⟨rfl, rfl⟩
      unfold tup3
      go_wp2_with fail
      go_ret3
      exact ⟨rfl, rfl⟩
  · rw [if_neg h63] at hsv
    rw [hsv] at hbad
    have h65 : ((s[q].toNat : Nat) : Int) ≤ 127 := by omega
    clear hsv hc
    have h64 : ((s[q].toNat : Nat) : Int) ≤ 63 := by omega
    clear h63
    rcases hbad with ⟨hk, hbad⟩
    clear hk
    replace hbad := hbad.resolve_left (by omega)
    all_goals
      go_enter Tryz.func121, Tryz.ntmps121
      go_wp2_with fail
      refine hsp.mono ?_
      rintro e w' ⟨rfl, rfl⟩
      unfold tup3
      go_wp2_with fail
      go_ret3
      exact ⟨rfl, rfl⟩

set_option maxRecDepth 100000 in
set_option maxHeartbeats 1000000 in
theorem refS_32_go (s : ByteArray) (w : World) (hs0 : s.size ≤ 9223372036854775807) (q : Nat) (hl : q < s.size) (hq5 : q + 1 ≤ 5) (hsp : Calls Tryz.prog 119 #[.string s, .int .i64 32] w fun e w' => e = .returned (tup3 .i64 .i64 .i64 (q + 1, 5, 0)) ∧ w = w')
    (hc : s[q].toNat ≤ 127) (hok : q + 1 ≠ 5 ∨ (q + 1 = 5 ∧ -8 ≤ sv s[q].toNat ∧ sv s[q].toNat < 8)) :
    Calls Tryz.prog 121 #[.string s, .int .i64 32] w fun e w' => e = .returned (tupS (wrap64 (horner (s.data.toList.take q) + 128 ^ q * sv s[q].toNat), q + 1, 0)) ∧ w = w' := by
  have w1 : wrap64 ((s[q].toNat : Nat) : Int) = ((s[q].toNat : Nat) : Int) := wrap64_small (by omega) (by omega)
  have w2 : wrap64 (((s[q].toNat : Nat) : Int) - 128) = ((s[q].toNat : Nat) : Int) - 128 := wrap64_small (by omega) (by omega)
  have hsv : sv s[q].toNat = if 64 ≤ s[q].toNat then ((s[q].toNat : Nat) : Int) - 128 else ((s[q].toNat : Nat) : Int) := by
    unfold sv; rw [Nat.mod_eq_of_lt (by omega)]
  by_cases h63 : 64 ≤ s[q].toNat
  · rw [if_pos h63] at hsv
    have h64 : (63 : Int) < ((s[q].toNat : Nat) : Int) := by omega
    have h65 : ((s[q].toNat : Nat) : Int) ≤ 127 := by omega
    have HSV := hid hsv
    rw [hsv] at hok
    clear hsv hc h63
    rcases hok with hk | ⟨hk, hok⟩
    · have hm : ((q : Int) + 1 == 5) = false := by simp; omega
      clear hk
      go_enter Tryz.func121, Tryz.ntmps121
      go_wp2_with fail
      refine hsp.mono ?_
      rintro e w' ⟨rfl, rfl⟩
      unfold tup3
      go_wp2_with fail
      go_loop [10, 12] (fun n i => ∃ j : Nat, j ≤ q ∧ i = .int .i64 ((j : Int) - 1) ∧ n = .int .i64 (wrap64 (hs (sv s[q].toNat) ((s.data.toList.take q).drop j)))) (fun _ i => (intOf i + 1).toNat)
      case atStart => exact ⟨q, by omega, by go_num, by rw [List.drop_of_length_le (by simp; omega), hs, HSV.out, wrap64_small (by omega) (by omega)]⟩
      case round =>
        obtain ⟨j, hj, rfl, rfl⟩ := hrel
        cases j with
        | zero =>
          go_wp2_with fail
          go_ret3
          exact ⟨ret3 (by rw [hs_eq]; simp only [List.length_take]; rw [Nat.min_eq_left (by simp; omega)]) (by simp) rfl, rfl⟩
        | succ j =>
          rw [show ((j + 1 : Nat) : Int) - 1 = (j : Int) from by omega]
          have hjs : j < s.size := by omega
          have hstep : hs (sv s[q].toNat) ((s.data.toList.take q).drop j) = (s[j].toNat % 128 : Nat) + 128 * hs (sv s[q].toNat) ((s.data.toList.take q).drop (j + 1)) := by
            rw [hs_back _ _ j (by simp; omega)]
            congr 4
            simp
            rfl
          have HS := hid hstep
          clear hstep
          generalize hs (sv s[q].toNat) ((s.data.toList.take q).drop (j + 1)) = x at *
          go_wp2_with fail
          go_round
          case rel => exact ⟨j, by omega, rfl, by rw [HS.out, ← hs_step]; simp⟩
          case measure => simp [intOf] <;> omega
    · have hm : ((q : Int) + 1 == 5) = true := by simp; omega
      clear hk
      obtain ⟨hok1, hok2⟩ := hok
      all_goals
        go_enter Tryz.func121, Tryz.ntmps121
        go_wp2_with fail
        refine hsp.mono ?_
        rintro e w' ⟨rfl, rfl⟩
        unfold tup3
        go_wp2_with fail
        go_loop [10, 12] (fun n i => ∃ j : Nat, j ≤ q ∧ i = .int .i64 ((j : Int) - 1) ∧ n = .int .i64 (wrap64 (hs (sv s[q].toNat) ((s.data.toList.take q).drop j)))) (fun _ i => (intOf i + 1).toNat)
        case atStart => exact ⟨q, by omega, by go_num, by rw [List.drop_of_length_le (by simp; omega), hs, HSV.out, wrap64_small (by omega) (by omega)]⟩
        case round =>
          obtain ⟨j, hj, rfl, rfl⟩ := hrel
          cases j with
          | zero =>
            go_wp2_with fail
            go_ret3
            exact ⟨ret3 (by rw [hs_eq]; simp only [List.length_take]; rw [Nat.min_eq_left (by simp; omega)]) (by simp) rfl, rfl⟩
          | succ j =>
            rw [show ((j + 1 : Nat) : Int) - 1 = (j : Int) from by omega]
            have hjs : j < s.size := by omega
            have hstep : hs (sv s[q].toNat) ((s.data.toList.take q).drop j) = (s[j].toNat % 128 : Nat) + 128 * hs (sv s[q].toNat) ((s.data.toList.take q).drop (j + 1)) := by
              rw [hs_back _ _ j (by simp; omega)]
              congr 4
              simp
              rfl
            have HS := hid hstep
            clear hstep
            generalize hs (sv s[q].toNat) ((s.data.toList.take q).drop (j + 1)) = x at *
            go_wp2_with fail
            go_round
            case rel => exact ⟨j, by omega, rfl, by rw [HS.out, ← hs_step]; simp⟩
            case measure => simp [intOf] <;> omega
  · rw [if_neg h63] at hsv
    have h64 : ((s[q].toNat : Nat) : Int) ≤ 63 := by omega
    have HSV := hid hsv
    rw [hsv] at hok
    clear hsv hc h63
    rcases hok with hk | ⟨hk, hok⟩
    · have hm : ((q : Int) + 1 == 5) = false := by simp; omega
      clear hk
      go_enter Tryz.func121, Tryz.ntmps121
      go_wp2_with fail
      refine hsp.mono ?_
      rintro e w' ⟨rfl, rfl⟩
      unfold tup3
      go_wp2_with fail
      go_loop [10, 12] (fun n i => ∃ j : Nat, j ≤ q ∧ i = .int .i64 ((j : Int) - 1) ∧ n = .int .i64 (wrap64 (hs (sv s[q].toNat) ((s.data.toList.take q).drop j)))) (fun _ i => (intOf i + 1).toNat)
      case atStart => exact ⟨q, by omega, by go_num, by rw [List.drop_of_length_le (by simp; omega), hs, HSV.out, wrap64_small (by omega) (by omega)]⟩
      case round =>
        obtain ⟨j, hj, rfl, rfl⟩ := hrel
        cases j with
        | zero =>
          go_wp2_with fail
          go_ret3
          exact ⟨ret3 (by rw [hs_eq]; simp only [List.length_take]; rw [Nat.min_eq_left (by simp; omega)]) (by simp) rfl, rfl⟩
        | succ j =>
          rw [show ((j + 1 : Nat) : Int) - 1 = (j : Int) from by omega]
          have hjs : j < s.size := by omega
          have hstep : hs (sv s[q].toNat) ((s.data.toList.take q).drop j) = (s[j].toNat % 128 : Nat) + 128 * hs (sv s[q].toNat) ((s.data.toList.take q).drop (j + 1)) := by
            rw [hs_back _ _ j (by simp; omega)]
            congr 4
            simp
            rfl
          have HS := hid hstep
          clear hstep
          generalize hs (sv s[q].toNat) ((s.data.toList.take q).drop (j + 1)) = x at *
          go_wp2_with fail
          go_round
          case rel => exact ⟨j, by omega, rfl, by rw [HS.out, ← hs_step]; simp⟩
          case measure => simp [intOf] <;> omega
    · have hm : ((q : Int) + 1 == 5) = true := by simp; omega
      clear hk
      obtain ⟨hok1, hok2⟩ := hok
      all_goals
        go_enter Tryz.func121, Tryz.ntmps121
        go_wp2_with fail
        refine hsp.mono ?_
        rintro e w' ⟨rfl, rfl⟩
        unfold tup3
        go_wp2_with fail
        go_loop [10, 12] (fun n i => ∃ j : Nat, j ≤ q ∧ i = .int .i64 ((j : Int) - 1) ∧ n = .int .i64 (wrap64 (hs (sv s[q].toNat) ((s.data.toList.take q).drop j)))) (fun _ i => (intOf i + 1).toNat)
        case atStart => exact ⟨q, by omega, by go_num, by rw [List.drop_of_length_le (by simp; omega), hs, HSV.out, wrap64_small (by omega) (by omega)]⟩
        case round =>
          obtain ⟨j, hj, rfl, rfl⟩ := hrel
          cases j with
          | zero =>
            go_wp2_with fail
            go_ret3
            exact ⟨ret3 (by rw [hs_eq]; simp only [List.length_take]; rw [Nat.min_eq_left (by simp; omega)]) (by simp) rfl, rfl⟩
          | succ j =>
            rw [show ((j + 1 : Nat) : Int) - 1 = (j : Int) from by omega]
            have hjs : j < s.size := by omega
            have hstep : hs (sv s[q].toNat) ((s.data.toList.take q).drop j) = (s[j].toNat % 128 : Nat) + 128 * hs (sv s[q].toNat) ((s.data.toList.take q).drop (j + 1)) := by
              rw [hs_back _ _ j (by simp; omega)]
              congr 4
              simp
              rfl
            have HS := hid hstep
            clear hstep
            generalize hs (sv s[q].toNat) ((s.data.toList.take q).drop (j + 1)) = x at *
            go_wp2_with fail
            go_round
            case rel => exact ⟨j, by omega, rfl, by rw [HS.out, ← hs_step]; simp⟩
            case measure => simp [intOf] <;> omega

set_option maxRecDepth 100000 in
set_option maxHeartbeats 1000000 in
theorem refS_64_err (s : ByteArray) (w : World) (_hs0 : s.size ≤ 9223372036854775807) (q : Nat) (hl : q < s.size) (hq5 : q + 1 ≤ 10) (hsp : Calls Tryz.prog 119 #[.string s, .int .i64 64] w fun e w' => e = .returned (tup3 .i64 .i64 .i64 (q + 1, 10, 0)) ∧ w = w')
    (hc : s[q].toNat ≤ 127) (hbad : q + 1 = 10 ∧ sv s[q].toNat ≠ 0 ∧ sv s[q].toNat ≠ -1) :
    Calls Tryz.prog 121 #[.string s, .int .i64 64] w fun e w' => e = .returned (tupS (0, 0, 4)) ∧ w = w' := by
  have w1 : wrap64 ((s[q].toNat : Nat) : Int) = ((s[q].toNat : Nat) : Int) := wrap64_small (by omega) (by omega)
  have w2 : wrap64 (((s[q].toNat : Nat) : Int) - 128) = ((s[q].toNat : Nat) : Int) - 128 := wrap64_small (by omega) (by omega)
  have hsv : sv s[q].toNat = if 64 ≤ s[q].toNat then ((s[q].toNat : Nat) : Int) - 128 else ((s[q].toNat : Nat) : Int) := by
    unfold sv; rw [Nat.mod_eq_of_lt (by omega)]
  have hm : ((q : Int) + 1 == 10) = true := by simp; omega
  by_cases h63 : 64 ≤ s[q].toNat
  · rw [if_pos h63] at hsv
    rw [hsv] at hbad
    have h65 : ((s[q].toNat : Nat) : Int) ≤ 127 := by omega
    clear hsv hc
    have h64 : (63 : Int) < ((s[q].toNat : Nat) : Int) := by omega
    clear h63
    rcases hbad with ⟨hk, hbad⟩
    clear hk
    obtain ⟨hb1, hb2⟩ := hbad
    have hb3 : (((s[q].toNat : Nat) : Int) - 128 != 0) = true := by simp <;> omega
    have hb4 : (((s[q].toNat : Nat) : Int) - 128 != -1) = true := by simp <;> omega
    clear hb1 hb2
    all_goals
      go_enter Tryz.func121, Tryz.ntmps121
      go_wp2_with fail
      refine hsp.mono ?_
      rintro e w' ⟨rfl, rfl⟩
      unfold tup3
      go_wp2_with fail
      go_ret3
      exact ⟨rfl, rfl⟩
  · rw [if_neg h63] at hsv
    rw [hsv] at hbad
    have h65 : ((s[q].toNat : Nat) : Int) ≤ 127 := by omega
    clear hsv hc
    have h64 : ((s[q].toNat : Nat) : Int) ≤ 63 := by omega
    clear h63
    rcases hbad with ⟨hk, hbad⟩
    clear hk
    obtain ⟨hb1, hb2⟩ := hbad
    have hb3 : (((s[q].toNat : Nat) : Int) != 0) = true := by simp <;> omega
    have hb4 : (((s[q].toNat : Nat) : Int) != -1) = true := by simp <;> omega
    clear hb1 hb2
    all_goals
      go_enter Tryz.func121, Tryz.ntmps121
      go_wp2_with fail
      refine hsp.mono ?_
      rintro e w' ⟨rfl, rfl⟩
      unfold tup3
      go_wp2_with fail
      go_ret3
      exact ⟨rfl, rfl⟩

set_option maxRecDepth 100000 in
set_option maxHeartbeats 1000000 in
theorem refS_64_go (s : ByteArray) (w : World) (hs0 : s.size ≤ 9223372036854775807) (q : Nat) (hl : q < s.size) (hq5 : q + 1 ≤ 10) (hsp : Calls Tryz.prog 119 #[.string s, .int .i64 64] w fun e w' => e = .returned (tup3 .i64 .i64 .i64 (q + 1, 10, 0)) ∧ w = w')
    (hc : s[q].toNat ≤ 127) (hok : q + 1 ≠ 10 ∨ (q + 1 = 10 ∧ (sv s[q].toNat = 0 ∨ sv s[q].toNat = -1))) :
    Calls Tryz.prog 121 #[.string s, .int .i64 64] w fun e w' => e = .returned (tupS (wrap64 (horner (s.data.toList.take q) + 128 ^ q * sv s[q].toNat), q + 1, 0)) ∧ w = w' := by
  have w1 : wrap64 ((s[q].toNat : Nat) : Int) = ((s[q].toNat : Nat) : Int) := wrap64_small (by omega) (by omega)
  have w2 : wrap64 (((s[q].toNat : Nat) : Int) - 128) = ((s[q].toNat : Nat) : Int) - 128 := wrap64_small (by omega) (by omega)
  have hsv : sv s[q].toNat = if 64 ≤ s[q].toNat then ((s[q].toNat : Nat) : Int) - 128 else ((s[q].toNat : Nat) : Int) := by
    unfold sv; rw [Nat.mod_eq_of_lt (by omega)]
  by_cases h63 : 64 ≤ s[q].toNat
  · rw [if_pos h63] at hsv
    have h64 : (63 : Int) < ((s[q].toNat : Nat) : Int) := by omega
    have h65 : ((s[q].toNat : Nat) : Int) ≤ 127 := by omega
    have HSV := hid hsv
    rw [hsv] at hok
    clear hsv hc h63
    rcases hok with hk | ⟨hk, hok⟩
    · have hm : ((q : Int) + 1 == 10) = false := by simp; omega
      clear hk
      go_enter Tryz.func121, Tryz.ntmps121
      go_wp2_with fail
      refine hsp.mono ?_
      rintro e w' ⟨rfl, rfl⟩
      unfold tup3
      go_wp2_with fail
      go_loop [10, 12] (fun n i => ∃ j : Nat, j ≤ q ∧ i = .int .i64 ((j : Int) - 1) ∧ n = .int .i64 (wrap64 (hs (sv s[q].toNat) ((s.data.toList.take q).drop j)))) (fun _ i => (intOf i + 1).toNat)
      case atStart => exact ⟨q, by omega, by go_num, by rw [List.drop_of_length_le (by simp; omega), hs, HSV.out, wrap64_small (by omega) (by omega)]⟩
      case round =>
        obtain ⟨j, hj, rfl, rfl⟩ := hrel
        cases j with
        | zero =>
          go_wp2_with fail
          go_ret3
          exact ⟨ret3 (by rw [hs_eq]; simp only [List.length_take]; rw [Nat.min_eq_left (by simp; omega)]) (by simp) rfl, rfl⟩
        | succ j =>
          rw [show ((j + 1 : Nat) : Int) - 1 = (j : Int) from by omega]
          have hjs : j < s.size := by omega
          have hstep : hs (sv s[q].toNat) ((s.data.toList.take q).drop j) = (s[j].toNat % 128 : Nat) + 128 * hs (sv s[q].toNat) ((s.data.toList.take q).drop (j + 1)) := by
            rw [hs_back _ _ j (by simp; omega)]
            congr 4
            simp
            rfl
          have HS := hid hstep
          clear hstep
          generalize hs (sv s[q].toNat) ((s.data.toList.take q).drop (j + 1)) = x at *
          go_wp2_with fail
          go_round
          case rel => exact ⟨j, by omega, rfl, by rw [HS.out, ← hs_step]; simp⟩
          case measure => simp [intOf] <;> omega
    · have hm : ((q : Int) + 1 == 10) = true := by simp; omega
      clear hk
      have hz : (((s[q].toNat : Nat) : Int) - 128 != 0) = true := by rcases hok with h | h <;> simp <;> omega
      have hz' : (((s[q].toNat : Nat) : Int) - 128 != -1) = false := by rcases hok with h | h <;> simp <;> omega
      clear hok
      all_goals
        go_enter Tryz.func121, Tryz.ntmps121
        go_wp2_with fail
        refine hsp.mono ?_
        rintro e w' ⟨rfl, rfl⟩
        unfold tup3
        go_wp2_with fail
        go_loop [10, 12] (fun n i => ∃ j : Nat, j ≤ q ∧ i = .int .i64 ((j : Int) - 1) ∧ n = .int .i64 (wrap64 (hs (sv s[q].toNat) ((s.data.toList.take q).drop j)))) (fun _ i => (intOf i + 1).toNat)
        case atStart => exact ⟨q, by omega, by go_num, by rw [List.drop_of_length_le (by simp; omega), hs, HSV.out, wrap64_small (by omega) (by omega)]⟩
        case round =>
          obtain ⟨j, hj, rfl, rfl⟩ := hrel
          cases j with
          | zero =>
            go_wp2_with fail
            go_ret3
            exact ⟨ret3 (by rw [hs_eq]; simp only [List.length_take]; rw [Nat.min_eq_left (by simp; omega)]) (by simp) rfl, rfl⟩
          | succ j =>
            rw [show ((j + 1 : Nat) : Int) - 1 = (j : Int) from by omega]
            have hjs : j < s.size := by omega
            have hstep : hs (sv s[q].toNat) ((s.data.toList.take q).drop j) = (s[j].toNat % 128 : Nat) + 128 * hs (sv s[q].toNat) ((s.data.toList.take q).drop (j + 1)) := by
              rw [hs_back _ _ j (by simp; omega)]
              congr 4
              simp
              rfl
            have HS := hid hstep
            clear hstep
            generalize hs (sv s[q].toNat) ((s.data.toList.take q).drop (j + 1)) = x at *
            go_wp2_with fail
            go_round
            case rel => exact ⟨j, by omega, rfl, by rw [HS.out, ← hs_step]; simp⟩
            case measure => simp [intOf] <;> omega
  · rw [if_neg h63] at hsv
    have h64 : ((s[q].toNat : Nat) : Int) ≤ 63 := by omega
    have HSV := hid hsv
    rw [hsv] at hok
    clear hsv hc h63
    rcases hok with hk | ⟨hk, hok⟩
    · have hm : ((q : Int) + 1 == 10) = false := by simp; omega
      clear hk
      go_enter Tryz.func121, Tryz.ntmps121
      go_wp2_with fail
      refine hsp.mono ?_
      rintro e w' ⟨rfl, rfl⟩
      unfold tup3
      go_wp2_with fail
      go_loop [10, 12] (fun n i => ∃ j : Nat, j ≤ q ∧ i = .int .i64 ((j : Int) - 1) ∧ n = .int .i64 (wrap64 (hs (sv s[q].toNat) ((s.data.toList.take q).drop j)))) (fun _ i => (intOf i + 1).toNat)
      case atStart => exact ⟨q, by omega, by go_num, by rw [List.drop_of_length_le (by simp; omega), hs, HSV.out, wrap64_small (by omega) (by omega)]⟩
      case round =>
        obtain ⟨j, hj, rfl, rfl⟩ := hrel
        cases j with
        | zero =>
          go_wp2_with fail
          go_ret3
          exact ⟨ret3 (by rw [hs_eq]; simp only [List.length_take]; rw [Nat.min_eq_left (by simp; omega)]) (by simp) rfl, rfl⟩
        | succ j =>
          rw [show ((j + 1 : Nat) : Int) - 1 = (j : Int) from by omega]
          have hjs : j < s.size := by omega
          have hstep : hs (sv s[q].toNat) ((s.data.toList.take q).drop j) = (s[j].toNat % 128 : Nat) + 128 * hs (sv s[q].toNat) ((s.data.toList.take q).drop (j + 1)) := by
            rw [hs_back _ _ j (by simp; omega)]
            congr 4
            simp
            rfl
          have HS := hid hstep
          clear hstep
          generalize hs (sv s[q].toNat) ((s.data.toList.take q).drop (j + 1)) = x at *
          go_wp2_with fail
          go_round
          case rel => exact ⟨j, by omega, rfl, by rw [HS.out, ← hs_step]; simp⟩
          case measure => simp [intOf] <;> omega
    · have hm : ((q : Int) + 1 == 10) = true := by simp; omega
      clear hk
      have hz : (((s[q].toNat : Nat) : Int) != 0) = false := by rcases hok with h | h <;> simp <;> omega
      clear hok
      all_goals
        go_enter Tryz.func121, Tryz.ntmps121
        go_wp2_with fail
        refine hsp.mono ?_
        rintro e w' ⟨rfl, rfl⟩
        unfold tup3
        go_wp2_with fail
        go_loop [10, 12] (fun n i => ∃ j : Nat, j ≤ q ∧ i = .int .i64 ((j : Int) - 1) ∧ n = .int .i64 (wrap64 (hs (sv s[q].toNat) ((s.data.toList.take q).drop j)))) (fun _ i => (intOf i + 1).toNat)
        case atStart => exact ⟨q, by omega, by go_num, by rw [List.drop_of_length_le (by simp; omega), hs, HSV.out, wrap64_small (by omega) (by omega)]⟩
        case round =>
          obtain ⟨j, hj, rfl, rfl⟩ := hrel
          cases j with
          | zero =>
            go_wp2_with fail
            go_ret3
            exact ⟨ret3 (by rw [hs_eq]; simp only [List.length_take]; rw [Nat.min_eq_left (by simp; omega)]) (by simp) rfl, rfl⟩
          | succ j =>
            rw [show ((j + 1 : Nat) : Int) - 1 = (j : Int) from by omega]
            have hjs : j < s.size := by omega
            have hstep : hs (sv s[q].toNat) ((s.data.toList.take q).drop j) = (s[j].toNat % 128 : Nat) + 128 * hs (sv s[q].toNat) ((s.data.toList.take q).drop (j + 1)) := by
              rw [hs_back _ _ j (by simp; omega)]
              congr 4
              simp
              rfl
            have HS := hid hstep
            clear hstep
            generalize hs (sv s[q].toNat) ((s.data.toList.take q).drop (j + 1)) = x at *
            go_wp2_with fail
            go_round
            case rel => exact ⟨j, by omega, rfl, by rw [HS.out, ← hs_step]; simp⟩
            case measure => simp [intOf] <;> omega

end Go.Proofs.YtakfineljffoaaaGreatDoor
