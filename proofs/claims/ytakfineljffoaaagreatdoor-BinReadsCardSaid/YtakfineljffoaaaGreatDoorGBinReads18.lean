/-
  TEXTS: the reference's sign and isText. Condition: the text's length is in the form's reach.
-/
import Derived.Test.YtakfineljffoaaaGreatDoorGBinReads2
import Derived.Test.YtakfineljffoaaaGreatDoorGBinReads9
namespace Go.Proofs.YtakfineljffoaaaGreatDoor
open Go.RowKit

theorem bt_get (s : ByteArray) (k : Nat) (h : k < s.size) : s[k].toNat = bt s k := by
  unfold bt
  have e : s.get! k = s[k] := by
    cases s with
    | mk d => exact getElem!_pos d k h
  rw [e]
theorem acc_next (s : ByteArray) (c k : Nat) (h : 1 ≤ k) : accS s c k = accS s c (k - 1) * 64 + (bt s k - 128) := by
  obtain ⟨j, rfl⟩ : ∃ j, k = j + 1 := ⟨k - 1, by omega⟩
  rfl
theorem all_next (s : ByteArray) (k : Nat) (h1 : 1 ≤ k) (h : ∀ j, 1 ≤ j → j < k → okUt s j = true) (hk : okUt s k = true) : ∀ j, 1 ≤ j → j < k + 1 → okUt s j = true := by
  intro j h2 h3
  by_cases e : j = k
  · rw [e]; exact hk
  · exact h j h2 (by omega)
theorem signV_bad (M c : Nat) (s : ByteArray) (k : Nat) (h1 : 1 ≤ k) (h2 : k < M) (h : okUt s k = false) : signV M c s = 0 := by
  rcases signV_iff M c s with ⟨_, h3⟩ | ⟨h3, _⟩
  · exfalso
    have := List.all_eq_true.1 h3.2.1 (k - 1) (List.mem_range.2 (by omega))
    rw [show k - 1 + 1 = k by omega, h] at this
    cases this
  · exact h3
theorem signV_short (M c : Nat) (s : ByteArray) (h : s.size < M) : signV M c s = 0 := by
  rcases signV_iff M c s with ⟨_, h3⟩ | ⟨h3, _⟩
  · omega
  · exact h3
theorem signV_end (M c : Nat) (s : ByteArray) (hl : M ≤ s.size) (h : ∀ j, 1 ≤ j → j < M → okUt s j = true) : signV M c s = if okV M (accS s c (M - 1)) = true then M else 0 := by
  have ha : (List.range (M - 1)).all (fun j => okUt s (j + 1)) = true := by
    rw [List.all_eq_true]
    intro j hj
    exact h (j + 1) (by omega) (by have := List.mem_range.1 hj; omega)
  rcases signV_iff M c s with ⟨e, h3⟩ | ⟨e, h3⟩
  · rw [e, if_pos h3.2.2]
  · rw [e, if_neg (fun h4 => h3 ⟨hl, ha, h4⟩)]
theorem okB_no (s : ByteArray) (k : Nat) (h : bt s k < 128 ∨ 191 < bt s k) : okUt s k = false := by
  rw [← Bool.not_eq_true, okB_iff]; omega
theorem okB_yes (s : ByteArray) (k : Nat) (h : 128 ≤ bt s k) (h2 : bt s k ≤ 191) : okUt s k = true := (okB_iff s k).2 ⟨h, h2⟩
theorem pow64 (k : Nat) (h1 : 1 ≤ k) (h4 : k ≤ 4) : (64 : Nat) ^ (k - 1) ≤ 262144 ∧ (64 : Nat) ^ k = 64 * 64 ^ (k - 1) := by
  rcases (by omega : k = 1 ∨ k = 2 ∨ k = 3 ∨ k = 4) with rfl | rfl | rfl | rfl <;> decide

set_option maxRecDepth 100000 in
set_option maxHeartbeats 4000000 in
theorem sign_2 (s : ByteArray) (h0 : 0 < s.size) (hs : s.size ≤ 9223372036854775807) (hc : 192 ≤ bt s 0 ∧ bt s 0 < 224) (w : World) :
    Calls Tryz.prog 154 #[.string s] w fun e w' => e = .returned (.int .i64 (signV 2 (bt s 0 - 192) s)) ∧ Below w.heap.size w w' := by
  have e0 := bt_get s 0 h0
  obtain ⟨c, hcc⟩ : ∃ c, c = bt s 0 - 192 := ⟨_, rfl⟩
  have HX := hid (signV_short 2 c s)
  have HY := hid (signV_bad 2 c s)
  have HZ := hid (signV_end 2 c s)
  have g1 : ¬ (bt s 0 : Int) < 128 := by omega
  have g192 : (192 : Int) ≤ bt s 0 := by omega
  have k224 : (bt s 0 : Int) < 224 := by omega
  have hsub : (bt s 0 : Int) - 192 = (c : Int) := by omega
  have hc32 : c < 32 := by omega
  rw [← hcc]
  generalize hR : signV 2 c s = R at *
  clear hR hcc hc
  by_cases hsz : s.size < 2
  · have hR0 := hid (HX.out hsz)
    have hsz2 : (s.size : Int) < 2 := by omega
    go_enter Tryz.func154, Tryz.ntmps154
    go_wp2_with fail
    go_ret
    exact ⟨ret1 (by rw [hR0.out]; rfl), Below.refl _ _⟩
  · have hsz2 : ¬ (s.size : Int) < 2 := by omega
    have hsz3 : 2 ≤ s.size := by omega
    go_enter Tryz.func154, Tryz.ntmps154
    go_wp2_with fail
    go_loop [5, 6] (fun n i => ∃ (k a : Nat), 1 ≤ k ∧ k ≤ 2 ∧ i = .int .i64 k ∧ n = .int .i64 a ∧ a < 32 * 64 ^ (k - 1) ∧ Hid (a = accS s c (k - 1)) ∧ Hid (∀ j, 1 ≤ j → j < k → okUt s j = true)) (fun _ i => 2 - (intOf i).toNat)
    case atStart => exact ⟨1, c, by omega, by omega, rfl, rfl, by omega, hid rfl, hid (fun j h1 h2 => by omega)⟩
    case round =>
      obtain ⟨k, a, hk1, hkM, rfl, rfl, ha, hacc, hall⟩ := hrel
      have hp := pow64 k hk1 (by omega)
      by_cases hlt : k < 2
      · have hks : k < s.size := by omega
        have hkM2 : (k : Int) < 2 := by omega
        have ek := bt_get s k hks
        have hbl := bt_lt s k
        by_cases hb1 : bt s k < 128
        · have hb1' : (bt s k : Int) < 128 := by omega
          have hR0 := hid (HY.out k hk1 hlt (okB_no s k (.inl hb1)))
          clear hp ha
          go_wp2_with fail
          go_ret
          exact ⟨ret1 (by rw [hR0.out]; rfl), Below.refl _ _⟩
        · have hb1' : ¬ (bt s k : Int) < 128 := by omega
          by_cases hb2 : 191 < bt s k
          · have hb2' : (191 : Int) < bt s k := by omega
            have hR0 := hid (HY.out k hk1 hlt (okB_no s k (.inr hb2)))
            clear hp ha
            go_wp2_with fail
            go_ret
            exact ⟨ret1 (by rw [hR0.out]; rfl), Below.refl _ _⟩
          · have hb2' : ¬ (191 : Int) < bt s k := by omega
            obtain ⟨d, hd⟩ : ∃ d, d = a * 64 + (bt s k - 128) := ⟨_, rfl⟩
            have hdI : (a : Int) * 64 + (bt s k : Int) - 128 = (d : Int) := by omega
            have hd2 : d < 32 * 64 ^ k := by omega
            have hdb : d < 1000000000 := by omega
            have hab : a < 100000000 := by omega
            have HD := hid (show d = accS s c (k + 1 - 1) from by rw [show k + 1 - 1 = k from rfl, acc_next s c k hk1, ← hacc.out]; exact hd)
            have HA := hid (all_next s k hk1 hall.out (okB_yes s k (by omega) (by omega)))
            have HD2 := hid (show d < 32 * 64 ^ (k + 1 - 1) from hd2)
            clear hp ha hd hd2
            go_wp2_with fail
            go_round
            case rel => exact ⟨k + 1, d, by omega, by omega, by go_num, by first | rfl | go_num, HD2.out, HD, HA⟩
            case measure => simp [intOf]; omega
      · obtain rfl : k = 2 := by omega
        have hend := HZ.out hsz3 hall.out
        rw [← hacc.out] at hend
        have hov := okV_iff 2 a
        have hab : a < 100000000 := by omega
        have hl : leastS 2 = 128 := rfl
        rw [hl] at hov
        clear hp ha
        by_cases c1 : a < 128
        · have c1' : (a : Int) < 128 := by omega
          have hR0 := hid (show R = 0 from by rw [hend, if_neg (fun h => by have := hov.1 h; omega)])
          clear hend hov
          go_wp2_with fail
          go_ret
          exact ⟨ret1 (by rw [hR0.out]; rfl), (Below.refl _ _).alloc (Nat.le_refl _) _⟩
        · have c1' : ¬ (a : Int) < 128 := by omega
          by_cases c2 : 1114111 < a
          · have c2' : (1114111 : Int) < a := by omega
            have hR0 := hid (show R = 0 from by rw [hend, if_neg (fun h => by have := hov.1 h; omega)])
            clear hend hov
            go_wp2_with fail
            go_ret
            exact ⟨ret1 (by rw [hR0.out]; rfl), (Below.refl _ _).alloc (Nat.le_refl _) _⟩
          · have c2' : ¬ (1114111 : Int) < a := by omega
            by_cases c3 : 55296 ≤ a
            · have c3' : (55296 : Int) ≤ a := by omega
              by_cases c4 : a ≤ 57343
              · have c4' : (a : Int) ≤ 57343 := by omega
                have hR0 := hid (show R = 0 from by rw [hend, if_neg (fun h => by have := hov.1 h; omega)])
                clear hend hov
                go_wp2_with fail
                go_ret
                exact ⟨ret1 (by rw [hR0.out]; rfl), (Below.refl _ _).alloc (Nat.le_refl _) _⟩
              · have c4' : ¬ (a : Int) ≤ 57343 := by omega
                have hR0 := hid (show R = 2 from by rw [hend, if_pos (hov.2 (by omega))])
                clear hend hov
                go_wp2_with fail
                go_ret
                exact ⟨ret1 (by rw [hR0.out]; rfl), (Below.refl _ _).alloc (Nat.le_refl _) _⟩
            · have c3' : ¬ (55296 : Int) ≤ a := by omega
              have hR0 := hid (show R = 2 from by rw [hend, if_pos (hov.2 (by omega))])
              clear hend hov
              go_wp2_with fail
              go_ret
              exact ⟨ret1 (by rw [hR0.out]; rfl), (Below.refl _ _).alloc (Nat.le_refl _) _⟩

set_option maxRecDepth 100000 in
set_option maxHeartbeats 4000000 in
theorem sign_3 (s : ByteArray) (h0 : 0 < s.size) (hs : s.size ≤ 9223372036854775807) (hc : 224 ≤ bt s 0 ∧ bt s 0 < 240) (w : World) :
    Calls Tryz.prog 154 #[.string s] w fun e w' => e = .returned (.int .i64 (signV 3 (bt s 0 - 224) s)) ∧ Below w.heap.size w w' := by
  have e0 := bt_get s 0 h0
  obtain ⟨c, hcc⟩ : ∃ c, c = bt s 0 - 224 := ⟨_, rfl⟩
  have HX := hid (signV_short 3 c s)
  have HY := hid (signV_bad 3 c s)
  have HZ := hid (signV_end 3 c s)
  have g1 : ¬ (bt s 0 : Int) < 128 := by omega
  have g192 : (192 : Int) ≤ bt s 0 := by omega
  have g224 : (224 : Int) ≤ bt s 0 := by omega
  have k224 : ¬ (bt s 0 : Int) < 224 := by omega
  have k240 : (bt s 0 : Int) < 240 := by omega
  have hsub : (bt s 0 : Int) - 224 = (c : Int) := by omega
  have hc32 : c < 32 := by omega
  rw [← hcc]
  generalize hR : signV 3 c s = R at *
  clear hR hcc hc
  by_cases hsz : s.size < 3
  · have hR0 := hid (HX.out hsz)
    have hsz2 : (s.size : Int) < 3 := by omega
    go_enter Tryz.func154, Tryz.ntmps154
    go_wp2_with fail
    go_ret
    exact ⟨ret1 (by rw [hR0.out]; rfl), Below.refl _ _⟩
  · have hsz2 : ¬ (s.size : Int) < 3 := by omega
    have hsz3 : 3 ≤ s.size := by omega
    go_enter Tryz.func154, Tryz.ntmps154
    go_wp2_with fail
    go_loop [5, 6] (fun n i => ∃ (k a : Nat), 1 ≤ k ∧ k ≤ 3 ∧ i = .int .i64 k ∧ n = .int .i64 a ∧ a < 32 * 64 ^ (k - 1) ∧ Hid (a = accS s c (k - 1)) ∧ Hid (∀ j, 1 ≤ j → j < k → okUt s j = true)) (fun _ i => 3 - (intOf i).toNat)
    case atStart => exact ⟨1, c, by omega, by omega, rfl, rfl, by omega, hid rfl, hid (fun j h1 h2 => by omega)⟩
    case round =>
      obtain ⟨k, a, hk1, hkM, rfl, rfl, ha, hacc, hall⟩ := hrel
      have hp := pow64 k hk1 (by omega)
      by_cases hlt : k < 3
      · have hks : k < s.size := by omega
        have hkM2 : (k : Int) < 3 := by omega
        have ek := bt_get s k hks
        have hbl := bt_lt s k
        by_cases hb1 : bt s k < 128
        · have hb1' : (bt s k : Int) < 128 := by omega
          have hR0 := hid (HY.out k hk1 hlt (okB_no s k (.inl hb1)))
          clear hp ha
          go_wp2_with fail
          go_ret
          exact ⟨ret1 (by rw [hR0.out]; rfl), Below.refl _ _⟩
        · have hb1' : ¬ (bt s k : Int) < 128 := by omega
          by_cases hb2 : 191 < bt s k
          · have hb2' : (191 : Int) < bt s k := by omega
            have hR0 := hid (HY.out k hk1 hlt (okB_no s k (.inr hb2)))
            clear hp ha
            go_wp2_with fail
            go_ret
            exact ⟨ret1 (by rw [hR0.out]; rfl), Below.refl _ _⟩
          · have hb2' : ¬ (191 : Int) < bt s k := by omega
            obtain ⟨d, hd⟩ : ∃ d, d = a * 64 + (bt s k - 128) := ⟨_, rfl⟩
            have hdI : (a : Int) * 64 + (bt s k : Int) - 128 = (d : Int) := by omega
            have hd2 : d < 32 * 64 ^ k := by omega
            have hdb : d < 1000000000 := by omega
            have hab : a < 100000000 := by omega
            have HD := hid (show d = accS s c (k + 1 - 1) from by rw [show k + 1 - 1 = k from rfl, acc_next s c k hk1, ← hacc.out]; exact hd)
            have HA := hid (all_next s k hk1 hall.out (okB_yes s k (by omega) (by omega)))
            have HD2 := hid (show d < 32 * 64 ^ (k + 1 - 1) from hd2)
            clear hp ha hd hd2
            go_wp2_with fail
            go_round
            case rel => exact ⟨k + 1, d, by omega, by omega, by go_num, by first | rfl | go_num, HD2.out, HD, HA⟩
            case measure => simp [intOf]; omega
      · obtain rfl : k = 3 := by omega
        have hend := HZ.out hsz3 hall.out
        rw [← hacc.out] at hend
        have hov := okV_iff 3 a
        have hab : a < 100000000 := by omega
        have hl : leastS 3 = 2048 := rfl
        rw [hl] at hov
        clear hp ha
        by_cases c1 : a < 2048
        · have c1' : (a : Int) < 2048 := by omega
          have hR0 := hid (show R = 0 from by rw [hend, if_neg (fun h => by have := hov.1 h; omega)])
          clear hend hov
          go_wp2_with fail
          go_ret
          exact ⟨ret1 (by rw [hR0.out]; rfl), (Below.refl _ _).alloc (Nat.le_refl _) _⟩
        · have c1' : ¬ (a : Int) < 2048 := by omega
          by_cases c2 : 1114111 < a
          · have c2' : (1114111 : Int) < a := by omega
            have hR0 := hid (show R = 0 from by rw [hend, if_neg (fun h => by have := hov.1 h; omega)])
            clear hend hov
            go_wp2_with fail
            go_ret
            exact ⟨ret1 (by rw [hR0.out]; rfl), (Below.refl _ _).alloc (Nat.le_refl _) _⟩
          · have c2' : ¬ (1114111 : Int) < a := by omega
            by_cases c3 : 55296 ≤ a
            · have c3' : (55296 : Int) ≤ a := by omega
              by_cases c4 : a ≤ 57343
              · have c4' : (a : Int) ≤ 57343 := by omega
                have hR0 := hid (show R = 0 from by rw [hend, if_neg (fun h => by have := hov.1 h; omega)])
                clear hend hov
                go_wp2_with fail
                go_ret
                exact ⟨ret1 (by rw [hR0.out]; rfl), (Below.refl _ _).alloc (Nat.le_refl _) _⟩
              · have c4' : ¬ (a : Int) ≤ 57343 := by omega
                have hR0 := hid (show R = 3 from by rw [hend, if_pos (hov.2 (by omega))])
                clear hend hov
                go_wp2_with fail
                go_ret
                exact ⟨ret1 (by rw [hR0.out]; rfl), (Below.refl _ _).alloc (Nat.le_refl _) _⟩
            · have c3' : ¬ (55296 : Int) ≤ a := by omega
              have hR0 := hid (show R = 3 from by rw [hend, if_pos (hov.2 (by omega))])
              clear hend hov
              go_wp2_with fail
              go_ret
              exact ⟨ret1 (by rw [hR0.out]; rfl), (Below.refl _ _).alloc (Nat.le_refl _) _⟩

set_option maxRecDepth 100000 in
set_option maxHeartbeats 4000000 in
theorem sign_4 (s : ByteArray) (h0 : 0 < s.size) (hs : s.size ≤ 9223372036854775807) (hc : 240 ≤ bt s 0 ∧ bt s 0 < 248) (w : World) :
    Calls Tryz.prog 154 #[.string s] w fun e w' => e = .returned (.int .i64 (signV 4 (bt s 0 - 240) s)) ∧ Below w.heap.size w w' := by
  have e0 := bt_get s 0 h0
  obtain ⟨c, hcc⟩ : ∃ c, c = bt s 0 - 240 := ⟨_, rfl⟩
  have HX := hid (signV_short 4 c s)
  have HY := hid (signV_bad 4 c s)
  have HZ := hid (signV_end 4 c s)
  have g1 : ¬ (bt s 0 : Int) < 128 := by omega
  have g192 : (192 : Int) ≤ bt s 0 := by omega
  have g224 : (224 : Int) ≤ bt s 0 := by omega
  have g240 : (240 : Int) ≤ bt s 0 := by omega
  have k224 : ¬ (bt s 0 : Int) < 224 := by omega
  have k240 : ¬ (bt s 0 : Int) < 240 := by omega
  have k248 : (bt s 0 : Int) < 248 := by omega
  have hsub : (bt s 0 : Int) - 240 = (c : Int) := by omega
  have hc32 : c < 32 := by omega
  rw [← hcc]
  generalize hR : signV 4 c s = R at *
  clear hR hcc hc
  by_cases hsz : s.size < 4
  · have hR0 := hid (HX.out hsz)
    have hsz2 : (s.size : Int) < 4 := by omega
    go_enter Tryz.func154, Tryz.ntmps154
    go_wp2_with fail
    go_ret
    exact ⟨ret1 (by rw [hR0.out]; rfl), Below.refl _ _⟩
  · have hsz2 : ¬ (s.size : Int) < 4 := by omega
    have hsz3 : 4 ≤ s.size := by omega
    go_enter Tryz.func154, Tryz.ntmps154
    go_wp2_with fail
    go_loop [5, 6] (fun n i => ∃ (k a : Nat), 1 ≤ k ∧ k ≤ 4 ∧ i = .int .i64 k ∧ n = .int .i64 a ∧ a < 32 * 64 ^ (k - 1) ∧ Hid (a = accS s c (k - 1)) ∧ Hid (∀ j, 1 ≤ j → j < k → okUt s j = true)) (fun _ i => 4 - (intOf i).toNat)
    case atStart => exact ⟨1, c, by omega, by omega, rfl, rfl, by omega, hid rfl, hid (fun j h1 h2 => by omega)⟩
    case round =>
      obtain ⟨k, a, hk1, hkM, rfl, rfl, ha, hacc, hall⟩ := hrel
      have hp := pow64 k hk1 (by omega)
      by_cases hlt : k < 4
      · have hks : k < s.size := by omega
        have hkM2 : (k : Int) < 4 := by omega
        have ek := bt_get s k hks
        have hbl := bt_lt s k
        by_cases hb1 : bt s k < 128
        · have hb1' : (bt s k : Int) < 128 := by omega
          have hR0 := hid (HY.out k hk1 hlt (okB_no s k (.inl hb1)))
          clear hp ha
          go_wp2_with fail
          go_ret
          exact ⟨ret1 (by rw [hR0.out]; rfl), Below.refl _ _⟩
        · have hb1' : ¬ (bt s k : Int) < 128 := by omega
          by_cases hb2 : 191 < bt s k
          · have hb2' : (191 : Int) < bt s k := by omega
            have hR0 := hid (HY.out k hk1 hlt (okB_no s k (.inr hb2)))
            clear hp ha
            go_wp2_with fail
            go_ret
            exact ⟨ret1 (by rw [hR0.out]; rfl), Below.refl _ _⟩
          · have hb2' : ¬ (191 : Int) < bt s k := by omega
            obtain ⟨d, hd⟩ : ∃ d, d = a * 64 + (bt s k - 128) := ⟨_, rfl⟩
            have hdI : (a : Int) * 64 + (bt s k : Int) - 128 = (d : Int) := by omega
            have hd2 : d < 32 * 64 ^ k := by omega
            have hdb : d < 1000000000 := by omega
            have hab : a < 100000000 := by omega
            have HD := hid (show d = accS s c (k + 1 - 1) from by rw [show k + 1 - 1 = k from rfl, acc_next s c k hk1, ← hacc.out]; exact hd)
            have HA := hid (all_next s k hk1 hall.out (okB_yes s k (by omega) (by omega)))
            have HD2 := hid (show d < 32 * 64 ^ (k + 1 - 1) from hd2)
            clear hp ha hd hd2
            go_wp2_with fail
            go_round
            case rel => exact ⟨k + 1, d, by omega, by omega, by go_num, by first | rfl | go_num, HD2.out, HD, HA⟩
            case measure => simp [intOf]; omega
      · obtain rfl : k = 4 := by omega
        have hend := HZ.out hsz3 hall.out
        rw [← hacc.out] at hend
        have hov := okV_iff 4 a
        have hab : a < 100000000 := by omega
        have hl : leastS 4 = 65536 := rfl
        rw [hl] at hov
        clear hp ha
        by_cases c1 : a < 65536
        · have c1' : (a : Int) < 65536 := by omega
          have hR0 := hid (show R = 0 from by rw [hend, if_neg (fun h => by have := hov.1 h; omega)])
          clear hend hov
          go_wp2_with fail
          go_ret
          exact ⟨ret1 (by rw [hR0.out]; rfl), (Below.refl _ _).alloc (Nat.le_refl _) _⟩
        · have c1' : ¬ (a : Int) < 65536 := by omega
          by_cases c2 : 1114111 < a
          · have c2' : (1114111 : Int) < a := by omega
            have hR0 := hid (show R = 0 from by rw [hend, if_neg (fun h => by have := hov.1 h; omega)])
            clear hend hov
            go_wp2_with fail
            go_ret
            exact ⟨ret1 (by rw [hR0.out]; rfl), (Below.refl _ _).alloc (Nat.le_refl _) _⟩
          · have c2' : ¬ (1114111 : Int) < a := by omega
            by_cases c3 : 55296 ≤ a
            · have c3' : (55296 : Int) ≤ a := by omega
              by_cases c4 : a ≤ 57343
              · omega
              · have c4' : ¬ (a : Int) ≤ 57343 := by omega
                have hR0 := hid (show R = 4 from by rw [hend, if_pos (hov.2 (by omega))])
                clear hend hov
                go_wp2_with fail
                go_ret
                exact ⟨ret1 (by rw [hR0.out]; rfl), (Below.refl _ _).alloc (Nat.le_refl _) _⟩
            · omega

set_option maxRecDepth 100000 in
set_option maxHeartbeats 2000000 in
theorem sign_lone (s : ByteArray) (h0 : 0 < s.size) (hc : bt s 0 < 128) (w : World) :
    Calls Tryz.prog 154 #[.string s] w fun e w' => e = .returned (.int .i64 1) ∧ Below w.heap.size w w' := by
  have e0 := bt_get s 0 h0
  have g1 : (bt s 0 : Int) < 128 := by omega
  go_enter Tryz.func154, Tryz.ntmps154
  go_wp2_with fail
  go_ret
  exact ⟨rfl, Below.refl _ _⟩
set_option maxRecDepth 100000 in
set_option maxHeartbeats 2000000 in
theorem sign_none (s : ByteArray) (h0 : 0 < s.size) (hc : 128 ≤ bt s 0 ∧ bt s 0 < 192 ∨ 248 ≤ bt s 0) (w : World) :
    Calls Tryz.prog 154 #[.string s] w fun e w' => e = .returned (.int .i64 0) ∧ Below w.heap.size w w' := by
  have e0 := bt_get s 0 h0
  have g1 : ¬ (bt s 0 : Int) < 128 := by omega
  have hlt := bt_lt s 0
  have hlt2 : (bt s 0 : Int) < 256 := by omega
  rcases hc with hc | hc
  · have g2 : ¬ (192 : Int) ≤ bt s 0 := by omega
    have g3 : ¬ (224 : Int) ≤ bt s 0 := by omega
    have g4 : ¬ (240 : Int) ≤ bt s 0 := by omega
    clear hc
    go_enter Tryz.func154, Tryz.ntmps154
    go_wp2_with fail
    go_ret
    exact ⟨ret1 rfl, Below.refl _ _⟩
  · have g2 : (192 : Int) ≤ bt s 0 := by omega
    have g3 : (224 : Int) ≤ bt s 0 := by omega
    have g4 : (240 : Int) ≤ bt s 0 := by omega
    have k2 : ¬ (bt s 0 : Int) < 224 := by omega
    have k3 : ¬ (bt s 0 : Int) < 240 := by omega
    have k4 : ¬ (bt s 0 : Int) < 248 := by omega
    clear hc
    go_enter Tryz.func154, Tryz.ntmps154
    go_wp2_with fail
    go_ret
    exact ⟨ret1 (by rfl), Below.refl _ _⟩
theorem sign_any (s : ByteArray) (h0 : 0 < s.size) (hs : s.size ≤ 9223372036854775807) (w : World) :
    Calls Tryz.prog 154 #[.string s] w fun e w' => e = .returned (.int .i64 (signS s)) ∧ Below w.heap.size w w' := by
  unfold signS
  by_cases c1 : bt s 0 < 128
  · rw [if_pos c1]; exact sign_lone s h0 c1 w
  rw [if_neg c1]
  by_cases c2 : 192 ≤ bt s 0 ∧ bt s 0 < 224
  · rw [if_pos c2]; exact sign_2 s h0 hs c2 w
  rw [if_neg c2]
  by_cases c3 : 224 ≤ bt s 0 ∧ bt s 0 < 240
  · rw [if_pos c3]; exact sign_3 s h0 hs c3 w
  rw [if_neg c3]
  by_cases c4 : 240 ≤ bt s 0 ∧ bt s 0 < 248
  · rw [if_pos c4]; exact sign_4 s h0 hs c4 w
  rw [if_neg c4]
  exact sign_none s h0 (by omega) w
theorem drop_text (t : ByteArray) (k : Nat) : (t.extract k t.size).data.toList = t.data.toList.drop k := by
  rw [ByteArray.data_extract, Array.toList_extract]
  simp [List.extract]
  exact List.take_of_length_le (by rw [List.length_drop, Array.length_toList]; exact Nat.le_refl _)
def strSz : Value → Nat
  | .string t => t.size
  | _ => 0

set_option maxRecDepth 100000 in
set_option maxHeartbeats 2000000 in
theorem isText_any (s : ByteArray) (hs : s.size ≤ 9223372036854775807) (w : World) :
    Calls Tryz.prog 120 #[.string s] w fun e w' => e = .returned (.bool (Lib.validD s.data.toList)) ∧ Below w.heap.size w w' := by
  have HS := hid (fun (t : ByteArray) (h0 : 0 < t.size) (ht : t.size ≤ 9223372036854775807) w' => sign_any t h0 ht w')
  generalize hR : Lib.validD s.data.toList = R
  have HR := hid hR
  clear hR
  go_enter Tryz.func120, Tryz.ntmps120
  go_wp2_with fail
  go_loopw [0] (fun s0 wr => ∃ t : ByteArray, s0 = .string t ∧ t.size ≤ 9223372036854775807 ∧ Hid (Lib.validD t.data.toList = R) ∧ Hid (Below w.heap.size w wr)) (fun s0 _ => strSz s0)
  case atStart => exact ⟨s, rfl, hs, HR, hid (Below.refl _ _)⟩
  case round =>
    obtain ⟨t, rfl, ht, hv, HB⟩ := hrel
    by_cases h0 : 0 < t.size
    · have hstep := valid_step t h0
      rw [hv.out] at hstep
      have hle := signS_le t h0
      have HST := hid hstep
      have HC := hid (HS.out t h0 ht)
      generalize signS t = k at *
      clear hstep
      have hne : t.toList.isEmpty = false := by
        have hne2 : t.toList ≠ [] := by
          intro e
          have h1 : t.data.toList = [] := by rw [← e]; exact (ByteArray.toList_eq t).symm
          have h2 : t.data.toList.length = 0 := by rw [h1]; rfl
          rw [Array.length_toList] at h2
          have h3 : t.data.size = t.size := rfl
          omega
        cases hl : t.toList with
        | nil => exact absurd hl hne2
        | cons a l => rfl
      by_cases hk : k = 0
      · subst hk
        have hR0 := hid (show R = false from by rw [HST.out]; rfl)
        clear hle
        go_wp2_with fail
        refine (HC.out _).mono ?_
        rintro r w1 ⟨rfl, hb1⟩
        have B1 := hid (HB.out.trans (hb1.mono HB.out.size))
        clear hb1
        go_wp2_with fail
        go_ret
        exact ⟨by rw [hR0.out]; rfl, B1.out⟩
      · have hk2 : ((k : Int) == 0) = false := by simpa using hk
        have hkt : (k : Int) ≤ t.size := by omega
        have hR0 := HST.out
        rw [if_neg hk, ← drop_text] at hR0
        have HN := hid hR0.symm
        have hsz : (t.extract k t.size).size = t.size - k := by rw [ByteArray.size_extract]; omega
        clear hR0
        go_wp2_with fail
        refine (HC.out _).mono ?_
        rintro r w1 ⟨rfl, hb1⟩
        have B1 := hid (HB.out.trans (hb1.mono HB.out.size))
        clear hb1
        go_wp2_with fail
        go_roundw
        case rel => exact ⟨t.extract k t.size, by simp, by omega, HN, B1⟩
        case measure => simp [strSz]; omega
    · have h00 : t.size = 0 := by omega
      have ht0 : t = ⟨#[]⟩ := by
        cases t
        congr 1
        exact Array.eq_empty_of_size_eq_zero h00
      subst ht0
      have hR0 := hid (show R = true from by rw [← hv.out]; rfl)
      clear hv
      go_wp2_with fail
      go_ret
      exact ⟨by rw [hR0.out]; rfl, HB.out⟩
end Go.Proofs.YtakfineljffoaaaGreatDoor
