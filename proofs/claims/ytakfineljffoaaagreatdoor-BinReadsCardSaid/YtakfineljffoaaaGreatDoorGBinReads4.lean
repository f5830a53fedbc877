/-
  THE WALKS of package leb's readers and writers and of the reference's: each returns what the plain functions of LebP say. Conditions: lengths of strings are at most the model's greatest length.
-/
import Derived.Test.YtakfineljffoaaaGreatDoorGBinReads3
import Derived.Deep.QuietTactic
import Derived.BigQuiet
import Derived.IntWalk
namespace Go.Proofs.YtakfineljffoaaaGreatDoor
open Go.RowKit

def tup3 (k1 k2 k3 : IntKind) (r : Nat × Nat × Nat) : Value := .tuple #[.int k1 r.1, .int k2 r.2.1, .int k3 r.2.2]

theorem data_drop (s : ByteArray) (k : Nat) (h : k < s.size) : s.data.toList.drop k = s[k] :: s.data.toList.drop (k + 1) := by
  rw [drop_cons _ k (by simpa using h)]; rfl

set_option maxRecDepth 100000 in
set_option maxHeartbeats 400000 in
theorem readU_bad (s : ByteArray) (b : Int) (w : World) (hb : (b != 32) = true) (hb' : (b != 64) = true) :
    Calls Tryz.prog 84 #[.string s, .int .i64 b] w fun e w' => e = .returned (tup3 .u64 .i64 .i64 (0, 0, 1)) ∧ w = w' := by
  go_enter Tryz.func84, Tryz.ntmps84
  go_wp2
  go_ret3
  exact ⟨rfl, rfl⟩

set_option maxRecDepth 100000 in
set_option maxHeartbeats 1000000 in
theorem readU_ok (s : ByteArray) (b : Nat) (w : World) (hs : s.size ≤ maxLen) (hb : b = 32 ∨ b = 64) :
    Calls Tryz.prog 84 #[.string s, .int .i64 b] w fun e w' => e = .returned (tup3 .u64 .i64 .i64 (ru b s.data.toList 0 0)) ∧ w = w' := by
  unfold maxLen at hs
  have hb32 : 32 ≤ b := by omega
  have hb64 : b ≤ 64 := by omega
  have HB := hid hb
  have hg : ((b : Int) != 32) = false ∨ (((b : Int) != 32) = true ∧ ((b : Int) != 64) = false) := by rcases hb with rfl | rfl <;> simp
  clear hb
  rcases hg with hg | ⟨hg, hg'⟩
  all_goals
    go_enter Tryz.func84, Tryz.ntmps84
    go_wp2
    go_loop [7, 19] (fun n i => ∃ (k a : Nat), k ≤ s.size ∧ 7 * k < b ∧ i = .int .i64 k ∧ n = .int .u64 a ∧ Hid (a < 2 ^ (7 * k)) ∧ Hid (ru b (s.data.toList.drop k) k a = ru b s.data.toList 0 0)) (fun _ i => s.size - (intOf i).toNat)
    case atStart => exact ⟨0, 0, by omega, by omega, rfl, rfl, by simp [Hid], by simp [Hid]⟩
    case round =>
      obtain ⟨k, a, hk, h7, rfl, rfl, ha, hr⟩ := hrel
      by_cases hlt : k < s.size
      · rw [data_drop s k hlt] at hr
        go_wp2
        · go_ret3
          exact ⟨by rw [ru_err hr ‹_› ‹_›]; rfl, rfl⟩
        · have hno : ¬ (b - 7 * k < 7 ∧ s[k].toNat / 2 ^ (b - 7 * k) ≠ 0) := fun h => h.2 (div_eq ‹_›)
          go_ret3
          rw [ru_ret hr hno ‹_›]
          exact ⟨ret3 (or_step a k _ (by omega) ha.out (ru_room HB.out h7 ha.out hno) s[k] rfl) (by simp) rfl, rfl⟩
        · have hno : ¬ (b - 7 * k < 7 ∧ s[k].toNat / 2 ^ (b - 7 * k) ≠ 0) := fun h => h.2 (div_eq ‹_›)
          go_round
          case rel => exact ⟨k + 1, _, by omega, ru_more HB.out h7 hno (by omega), by go_num, by rw [or_step a k _ (by omega) ha.out (ru_room HB.out h7 ha.out hno) s[k] rfl], ru_next ha.out, ru_go hr hno ‹_›⟩
          case measure => simp [intOf]; omega
        · have hno : ¬ (b - 7 * k < 7 ∧ s[k].toNat / 2 ^ (b - 7 * k) ≠ 0) := fun h => by omega
          go_ret3
          rw [ru_ret hr hno ‹_›]
          exact ⟨ret3 (or_step a k _ (by omega) ha.out (ru_room HB.out h7 ha.out hno) s[k] rfl) (by simp) rfl, rfl⟩
        · have hno : ¬ (b - 7 * k < 7 ∧ s[k].toNat / 2 ^ (b - 7 * k) ≠ 0) := fun h => by omega
          go_round
          case rel => exact ⟨k + 1, _, by omega, ru_more HB.out h7 hno (by omega), by go_num, by rw [or_step a k _ (by omega) ha.out (ru_room HB.out h7 ha.out hno) s[k] rfl], ru_next ha.out, ru_go hr hno ‹_›⟩
          case measure => simp [intOf]; omega
      · rw [List.drop_of_length_le (by simp; omega)] at hr
        go_wp2
        go_ret3
        exact ⟨by rw [← hr.out]; rfl, rfl⟩

set_option maxRecDepth 100000 in
set_option maxHeartbeats 400000 in
theorem span_bad (s : ByteArray) (b : Int) (w : World) (hb : (b != 32) = true) (hb' : (b != 64) = true) (hb2 : (b == 64) = false) :
    Calls Tryz.prog 119 #[.string s, .int .i64 b] w fun e w' => e = .returned (tup3 .i64 .i64 .i64 (0, 0, 1)) ∧ w = w' := by
  go_enter Tryz.func119, Tryz.ntmps119
  go_wp2
  go_ret3
  exact ⟨rfl, rfl⟩

set_option maxRecDepth 100000 in
set_option maxHeartbeats 1000000 in
theorem span_ok (s : ByteArray) (b : Nat) (w : World) (hs : s.size ≤ maxLen) (hb : b = 32 ∨ b = 64) :
    Calls Tryz.prog 119 #[.string s, .int .i64 b] w fun e w' => e = .returned (tup3 .i64 .i64 .i64 (spanR b s.data.toList)) ∧ w = w' := by
  unfold maxLen at hs
  obtain ⟨m, hm⟩ : ∃ m, m = mostOf b := ⟨_, rfl⟩
  have hg : (((b : Int) == 64) = false ∧ ((b : Int) != 32) = false ∧ m = 5) ∨ (((b : Int) == 64) = true ∧ ((b : Int) != 32) = true ∧ ((b : Int) != 64) = false ∧ m = 10) := by
    subst hm; rcases hb with rfl | rfl <;> simp [mostOf]
  have HM := hid hm
  clear hb hm
  have fin : ∀ k : Nat, lead (mostOf b) s.data.toList = k → ∀ r, (if k = m then (0, 0, 4) else if k = s.size then (0, 0, 3) else (k + 1, m, 0)) = r → spanR b s.data.toList = r := by
    intro k hk r hr
    rw [spanR, hk, ← HM.out, ← hr]; simp
  have FIN := hid fin
  clear fin
  rcases hg with ⟨hg1, hg2, rfl⟩ | ⟨hg1, hg2, hg3, rfl⟩
  · go_enter Tryz.func119, Tryz.ntmps119
    go_wp2
    go_loop [8] (fun i => ∃ k : Nat, k ≤ 5 ∧ k ≤ s.size ∧ i = .int .i64 k ∧ Hid (lead 5 s.data.toList = k + lead (5 - k) (s.data.toList.drop k))) (fun i => 5 - (intOf i).toNat)
    case atStart => exact ⟨0, by omega, by omega, rfl, by simp [Hid]⟩
    case round =>
      obtain ⟨k, hk, hks, rfl, hr⟩ := hrel
      by_cases hlt : k < 5
      · have hne : ((k : Int) == 5) = false := by simp; omega
        by_cases hls : k < s.size
        · have hne2 : ((k : Int) == (s.size : Int)) = false := by simp; omega
          rw [data_drop s k hls] at hr
          by_cases hc : (127 : Int) < (s[k].toNat : Int)
          · go_wp2
            go_round
            case rel => exact ⟨k + 1, by omega, by omega, by go_num, lead_go (r := 5 - k) hr (by omega) hc⟩
            case measure => simp [intOf]; omega
          · have HC := hid (show (s[k].toNat : Int) ≤ 127 by omega)
            go_wp2
            go_ret3
            exact ⟨by rw [FIN.out k (by rw [← HM.out]; exact lead_stop' hr HC.out) _ rfl, if_neg (by omega), if_neg (by omega)]; rfl, rfl⟩
        · have hne2 : ((k : Int) == (s.size : Int)) = true := by simp; omega
          go_wp2
          go_ret3
          exact ⟨by rw [FIN.out k (by rw [← HM.out]; exact lead_stop hr (.inr (by simp; omega))) _ rfl, if_neg (by omega), if_pos (by omega)]; rfl, rfl⟩
      · have hne : ((k : Int) == 5) = true := by simp; omega
        go_wp2
        go_ret3
        exact ⟨by rw [FIN.out k (by rw [← HM.out]; exact lead_stop hr (.inl (by omega))) _ rfl, if_pos (by omega)]; rfl, rfl⟩
  · go_enter Tryz.func119, Tryz.ntmps119
    go_wp2
    go_loop [8] (fun i => ∃ k : Nat, k ≤ 10 ∧ k ≤ s.size ∧ i = .int .i64 k ∧ Hid (lead 10 s.data.toList = k + lead (10 - k) (s.data.toList.drop k))) (fun i => 10 - (intOf i).toNat)
    case atStart => exact ⟨0, by omega, by omega, rfl, by simp [Hid]⟩
    case round =>
      obtain ⟨k, hk, hks, rfl, hr⟩ := hrel
      by_cases hlt : k < 10
      · have hne : ((k : Int) == 10) = false := by simp; omega
        by_cases hls : k < s.size
        · have hne2 : ((k : Int) == (s.size : Int)) = false := by simp; omega
          rw [data_drop s k hls] at hr
          by_cases hc : (127 : Int) < (s[k].toNat : Int)
          · go_wp2
            go_round
            case rel => exact ⟨k + 1, by omega, by omega, by go_num, lead_go (r := 10 - k) hr (by omega) hc⟩
            case measure => simp [intOf]; omega
          · have HC := hid (show (s[k].toNat : Int) ≤ 127 by omega)
            go_wp2
            go_ret3
            exact ⟨by rw [FIN.out k (by rw [← HM.out]; exact lead_stop' hr HC.out) _ rfl, if_neg (by omega), if_neg (by omega)]; rfl, rfl⟩
        · have hne2 : ((k : Int) == (s.size : Int)) = true := by simp; omega
          go_wp2
          go_ret3
          exact ⟨by rw [FIN.out k (by rw [← HM.out]; exact lead_stop hr (.inr (by simp; omega))) _ rfl, if_neg (by omega), if_pos (by omega)]; rfl, rfl⟩
      · have hne : ((k : Int) == 10) = true := by simp; omega
        go_wp2
        go_ret3
        exact ⟨by rw [FIN.out k (by rw [← HM.out]; exact lead_stop hr (.inl (by omega))) _ rfl, if_pos (by omega)]; rfl, rfl⟩

/-- what the reference's LebReadU computes -/
def refU (b : Nat) (l : List UInt8) : Nat × Nat × Nat :=
  let (k, m, e) := spanR b l
  if e ≠ 0 then (0, 0, e)
  else if k = m ∧ 2 ^ (b - 7 * (m - 1)) ≤ (l.getD (k - 1) 0).toNat then (0, 0, 4)
  else (horner (l.take k) % 18446744073709551616, k, 0)

theorem spanR_ok {b : Nat} {l : List UInt8} {k m : Nat} (h : spanR b l = (k, m, 0)) : m = mostOf b ∧ 1 ≤ k ∧ k ≤ m ∧ k ≤ l.length ∧ lead m l + 1 = k := by
  unfold spanR at h
  have h1 := lead_le (mostOf b) l
  split at h
  · simp at h
  · split at h
    · simp at h
    · simp at h
      obtain ⟨rfl, rfl⟩ := h
      omega

set_option maxRecDepth 100000 in
set_option maxHeartbeats 1000000 in
theorem refU_bad (s : ByteArray) (b : Int) (w : World) (hb : (b != 32) = true) (hb' : (b != 64) = true) (hb2 : (b == 64) = false) :
    Calls Tryz.prog 90 #[.string s, .int .i64 b] w fun e w' => e = .returned (tup3 .u64 .i64 .i64 (0, 0, 1)) ∧ w = w' := by
  go_enter Tryz.func90, Tryz.ntmps90
  go_wp2_with fail
  refine (span_bad s b _ hb hb' hb2).mono ?_
  rintro e w' ⟨rfl, rfl⟩
  unfold tup3
  go_wp2_with fail
  go_ret3
  exact ⟨rfl, rfl⟩

set_option maxRecDepth 100000 in
set_option maxHeartbeats 1000000 in
theorem refU_32 (s : ByteArray) (w : World) (hs : s.size ≤ maxLen) :
    Calls Tryz.prog 90 #[.string s, .int .i64 32] w fun e w' => e = .returned (tup3 .u64 .i64 .i64 (refU 32 s.data.toList)) ∧ ∃ n, w' = w.drewN n := by
  have hsp := span_ok s 32 w hs (by simp)
  rw [show ((32 : Nat) : Int) = 32 from rfl] at hsp
  unfold maxLen at hs
  obtain ⟨k, m, e, hr⟩ : ∃ k m e, spanR 32 s.data.toList = (k, m, e) := ⟨_, _, _, rfl⟩
  rw [hr] at hsp
  by_cases he : e = 0
  · subst he
    obtain ⟨hm, h1, hkm, hkl, _⟩ := spanR_ok hr
    obtain rfl : m = 5 := by rw [hm]; rfl
    clear hm
    have hl : k ≤ s.size := by simpa using hkl
    have hq : ∀ r, (if k = 5 ∧ 16 ≤ (s[k - 1]'(by omega)).toNat then (0, 0, 4) else (horner (s.data.toList.take k) % 18446744073709551616, k, 0)) = r → refU 32 s.data.toList = r := by
      intro r h
      rw [← h]
      simp only [refU, hr]
      rw [if_neg (by decide)]
      have : s.data.toList.getD (k - 1) 0 = s[k - 1]'(by omega) := by
        rw [List.getD_eq_getElem?_getD, List.getElem?_eq_getElem (by simp; omega)]; rfl
      rw [this]
    have HQ := hid hq
    clear hq hr hkl
    have e1 : IntKind.i64.wrap ((k : Int) - 1) = (k : Int) - 1 := IntWalk.i64_in _ (by omega)
    have e2 : (0 : Int) ≤ (k : Int) - 1 := by omega
    have e3 : ((k : Int) - 1).toNat = k - 1 := by omega
    have e4 : (k : Int) - 1 < (s.size : Int) := by omega
    have e5 : k - 1 < s.size := by omega
    have e6 : (k : Int) ≤ (s.size : Int) := by omega
    have e7 : (1 : Int) ≤ (k : Int) := by omega
    have e8 : wrap64 ((s[k - 1].toNat : Nat) : Int) = ((s[k - 1].toNat : Nat) : Int) := by have := byte_lt s[k - 1]; unfold wrap64; omega
    by_cases hbig : k = 5 ∧ 16 ≤ s[k - 1].toNat
    · have hkm3 : ((k : Int) == 5) = true := by simp; omega
      have hb1 : (16 : Int) ≤ ((s[k - 1].toNat : Nat) : Int) := by omega
      have HB := hid hbig
      clear hbig
      go_enter Tryz.func90, Tryz.ntmps90
      go_wp2_with fail
      refine hsp.mono ?_
      rintro e w' ⟨rfl, rfl⟩
      unfold tup3
      go_wp2_with fail
      go_quiet (fail)
      go_wp2_with fail
      go_ret3
      exact ⟨by rw [HQ.out _ rfl, if_pos HB.out]; rfl, _, rfl⟩
    · have HN := hid hbig
      have hcase : (((k : Int) == 5) = true ∧ ((s[k - 1].toNat : Nat) : Int) < 16) ∨ ((k : Int) == 5) = false := by
        by_cases hk5 : k = 5
        · exact .inl ⟨by simp; omega, by have : ¬ 16 ≤ s[k - 1].toNat := fun h => hbig ⟨hk5, h⟩; omega⟩
        · exact .inr (by simp; omega)
      clear hbig
      rcases hcase with ⟨hk3, hlow⟩ | hk3
      all_goals
        go_enter Tryz.func90, Tryz.ntmps90
        go_wp2_with fail
        refine hsp.mono ?_
        rintro e w' ⟨rfl, rfl⟩
        unfold tup3
        go_wp2_with fail
        go_quiet (fail)
        go_wp2_with fail
        go_loop [10, 11] (fun n i => ∃ j : Nat, j ≤ k ∧ i = .int .i64 ((j : Int) - 1) ∧ n = .int .u64 ((horner ((s.data.toList.take k).drop j) % 18446744073709551616 : Nat) : Int)) (fun _ i => (intOf i + 1).toNat)
        case atStart => exact ⟨k, by omega, rfl, by rw [List.drop_of_length_le (by simp; omega)]; rfl⟩
        case round =>
          obtain ⟨j, hj, rfl, rfl⟩ := hrel
          cases j with
          | zero =>
            go_wp2_with fail
            go_ret3
            exact ⟨by rw [HQ.out _ rfl, if_neg HN.out]; rfl, _, rfl⟩
          | succ j =>
            rw [show ((j + 1 : Nat) : Int) - 1 = (j : Int) from by omega]
            have hjs : j < s.size := by omega
            have hstep : horner ((s.data.toList.take k).drop j) = s[j].toNat % 128 + 128 * horner ((s.data.toList.take k).drop (j + 1)) := by
              rw [horner_back _ j (by simp; omega)]
              congr 3
              simp
              rfl
            have HS := hid hstep
            clear hstep
            generalize horner ((s.data.toList.take k).drop (j + 1)) = x at *
            go_wp2_with fail
            go_round
            case rel => exact ⟨j, by omega, rfl, by rw [HS.out, ← horner_step]; simp⟩
            case measure => simp [intOf] <;> omega
  · have he' : ((e : Int) != 0) = true := by simp; omega
    have hq : refU 32 s.data.toList = (0, 0, e) := by simp [refU, hr, he]
    have HQ := hid hq
    clear hq hr
    go_enter Tryz.func90, Tryz.ntmps90
    go_wp2_with fail
    refine hsp.mono ?_
    rintro e w' ⟨rfl, rfl⟩
    unfold tup3
    go_wp2_with fail
    go_ret3
    exact ⟨by rw [HQ.out]; try rfl, 0, rfl⟩

set_option maxRecDepth 100000 in
set_option maxHeartbeats 1000000 in
theorem refU_64 (s : ByteArray) (w : World) (hs : s.size ≤ maxLen) :
    Calls Tryz.prog 90 #[.string s, .int .i64 64] w fun e w' => e = .returned (tup3 .u64 .i64 .i64 (refU 64 s.data.toList)) ∧ ∃ n, w' = w.drewN n := by
  have hsp := span_ok s 64 w hs (by simp)
  rw [show ((64 : Nat) : Int) = 64 from rfl] at hsp
  unfold maxLen at hs
  obtain ⟨k, m, e, hr⟩ : ∃ k m e, spanR 64 s.data.toList = (k, m, e) := ⟨_, _, _, rfl⟩
  rw [hr] at hsp
  by_cases he : e = 0
  · subst he
    obtain ⟨hm, h1, hkm, hkl, _⟩ := spanR_ok hr
    obtain rfl : m = 10 := by rw [hm]; rfl
    clear hm
    have hl : k ≤ s.size := by simpa using hkl
    have hq : ∀ r, (if k = 10 ∧ 2 ≤ (s[k - 1]'(by omega)).toNat then (0, 0, 4) else (horner (s.data.toList.take k) % 18446744073709551616, k, 0)) = r → refU 64 s.data.toList = r := by
      intro r h
      rw [← h]
      simp only [refU, hr]
      rw [if_neg (by decide)]
      have : s.data.toList.getD (k - 1) 0 = s[k - 1]'(by omega) := by
        rw [List.getD_eq_getElem?_getD, List.getElem?_eq_getElem (by simp; omega)]; rfl
      rw [this]
    have HQ := hid hq
    clear hq hr hkl
    have e1 : IntKind.i64.wrap ((k : Int) - 1) = (k : Int) - 1 := IntWalk.i64_in _ (by omega)
    have e2 : (0 : Int) ≤ (k : Int) - 1 := by omega
    have e3 : ((k : Int) - 1).toNat = k - 1 := by omega
    have e4 : (k : Int) - 1 < (s.size : Int) := by omega
    have e5 : k - 1 < s.size := by omega
    have e6 : (k : Int) ≤ (s.size : Int) := by omega
    have e7 : (1 : Int) ≤ (k : Int) := by omega
    have e8 : wrap64 ((s[k - 1].toNat : Nat) : Int) = ((s[k - 1].toNat : Nat) : Int) := by have := byte_lt s[k - 1]; unfold wrap64; omega
    by_cases hbig : k = 10 ∧ 2 ≤ s[k - 1].toNat
    · have hkm3 : ((k : Int) == 10) = true := by simp; omega
      have hb1 : (2 : Int) ≤ ((s[k - 1].toNat : Nat) : Int) := by omega
      have HB := hid hbig
      clear hbig
      go_enter Tryz.func90, Tryz.ntmps90
      go_wp2_with fail
      refine hsp.mono ?_
      rintro e w' ⟨rfl, rfl⟩
      unfold tup3
      go_wp2_with fail
      go_quiet (fail)
      go_wp2_with fail
      go_ret3
      exact ⟨by rw [HQ.out _ rfl, if_pos HB.out]; rfl, _, rfl⟩
    · have HN := hid hbig
      have hcase : (((k : Int) == 10) = true ∧ ((s[k - 1].toNat : Nat) : Int) < 2) ∨ ((k : Int) == 10) = false := by
        by_cases hk5 : k = 10
        · exact .inl ⟨by simp; omega, by have : ¬ 2 ≤ s[k - 1].toNat := fun h => hbig ⟨hk5, h⟩; omega⟩
        · exact .inr (by simp; omega)
      clear hbig
      rcases hcase with ⟨hk3, hlow⟩ | hk3
      all_goals
        go_enter Tryz.func90, Tryz.ntmps90
        go_wp2_with fail
        refine hsp.mono ?_
        rintro e w' ⟨rfl, rfl⟩
        unfold tup3
        go_wp2_with fail
        go_quiet (fail)
        go_wp2_with fail
        go_loop [10, 11] (fun n i => ∃ j : Nat, j ≤ k ∧ i = .int .i64 ((j : Int) - 1) ∧ n = .int .u64 ((horner ((s.data.toList.take k).drop j) % 18446744073709551616 : Nat) : Int)) (fun _ i => (intOf i + 1).toNat)
        case atStart => exact ⟨k, by omega, rfl, by rw [List.drop_of_length_le (by simp; omega)]; rfl⟩
        case round =>
          obtain ⟨j, hj, rfl, rfl⟩ := hrel
          cases j with
          | zero =>
            go_wp2_with fail
            go_ret3
            exact ⟨by rw [HQ.out _ rfl, if_neg HN.out]; rfl, _, rfl⟩
          | succ j =>
            rw [show ((j + 1 : Nat) : Int) - 1 = (j : Int) from by omega]
            have hjs : j < s.size := by omega
            have hstep : horner ((s.data.toList.take k).drop j) = s[j].toNat % 128 + 128 * horner ((s.data.toList.take k).drop (j + 1)) := by
              rw [horner_back _ j (by simp; omega)]
              congr 3
              simp
              rfl
            have HS := hid hstep
            clear hstep
            generalize horner ((s.data.toList.take k).drop (j + 1)) = x at *
            go_wp2_with fail
            go_round
            case rel => exact ⟨j, by omega, rfl, by rw [HS.out, ← horner_step]; simp⟩
            case measure => simp [intOf] <;> omega
  · have he' : ((e : Int) != 0) = true := by simp; omega
    have hq : refU 64 s.data.toList = (0, 0, e) := by simp [refU, hr, he]
    have HQ := hid hq
    clear hq hr
    go_enter Tryz.func90, Tryz.ntmps90
    go_wp2_with fail
    refine hsp.mono ?_
    rintro e w' ⟨rfl, rfl⟩
    unfold tup3
    go_wp2_with fail
    go_ret3
    exact ⟨by rw [HQ.out]; try rfl, 0, rfl⟩

end Go.Proofs.YtakfineljffoaaaGreatDoor
