/-
  TIMERS: container/heap's up and down over the program's line. Conditions: the object's own invariant.
-/
import Derived.Test.YtalookaaogiinaaTmA
import Derived.Deep.CutBlock
namespace Go.Proofs.Ytalookaaogiinaa
open Go.RowKit Go.Lib
attribute [local go_sem ↓] Go.wp_at_zero Go.wp_at_succ

/-- the clock's block, its line behind -/
structure TL (w : World) (base B : Nat) (now turn : Int) (g cap : Nat) (l : List Tm) : Prop where
  blk : Blk w B 103 [.int .i64 now, .int .i64 turn, .slice (some ⟨g, 0, none⟩) l.length cap]
  own : w.ownsRow base 108 3 (.slice (some ⟨g, 0, none⟩) l.length cap) l.length (l.flatMap encTm)
  ne : g ≠ B
theorem TL.below {w w' : World} {base B g cap : Nat} {now turn : Int} {l : List Tm} (h : TL w base B now turn g cap l) (hb : Below w.heap.size w w') : TL w' base B now turn g cap l := ⟨h.blk.below hb, own_below h.own hb, h.ne⟩
theorem TL.swapped {w w' : World} {base B g cap : Nat} {now turn : Int} {l m : List Tm} (h : TL w base B now turn g cap l) (ho : w'.ownsRow base 108 3 (.slice (some ⟨g, 0, none⟩) l.length cap) l.length (m.flatMap encTm)) (ht : Touch (· = g) w w') (hm : m.length = l.length) : TL w' base B now turn g cap m := by
  refine ⟨?_, ?_, h.ne⟩
  · rw [hm]; exact h.blk.touch ht (fun e => h.ne e.symm)
  · rw [hm]; exact ho
theorem upL_end {n j : Nat} {l : List Tm} (h : j < n) (hc : (j - 1) / 2 = j ∨ lessT (at0 l j) (at0 l ((j - 1) / 2)) = false) : upL n l j = l := by
  obtain ⟨m, rfl⟩ : ∃ m, n = m + 1 := ⟨n - 1, by omega⟩
  rw [upL, if_pos hc]
theorem upL_go {n j : Nat} {l : List Tm} (h : j < n) (h0 : 0 < j) (hc : lessT (at0 l j) (at0 l ((j - 1) / 2)) = true) : upL n l j = upL (n - 1) (swapL l ((j - 1) / 2) j) ((j - 1) / 2) := by
  obtain ⟨m, rfl⟩ : ∃ m, n = m + 1 := ⟨n - 1, by omega⟩
  rw [upL, if_neg (fun g => g.elim (fun e => by omega) (fun e => by rw [hc] at e; simp at e))]
  rfl
set_option maxRecDepth 100000 in
set_option maxHeartbeats 400000 in
theorem up_any (w : World) (base B : Nat) (now turn : Int) (g cap : Nat) (l : List Tm) (j n : Nat) (hj : j < l.length) (hn : j < n) (h : TL w base B now turn g cap l) :
    Calls Try.prog 64 #[.iface 106 (.pointer (some ⟨B, 2, none⟩)), .int .i64 j] w fun e w' => e = .returned (.tuple #[]) ∧ TL w' base B now turn g cap (upL n l j) ∧ Touch (· = g) w w' := by
  have hlen := own_sl h.own
  have hlm : l.length ≤ 9223372036854775807 := by
    obtain ⟨_, _, _, h1, h2, _⟩ := hlen
    omega
  have H := hid h
  clear h hlen
  go_enter Try.func64, Try.ntmps64
  go_wp2_with fail
  go_loopw [1, 4] (fun jv iv wr => ∃ (k m : Nat) (l' : List Tm), jv = .int .i64 k ∧ k < l.length ∧ k < m ∧ l'.length = l.length ∧ Hid (upL n l j = upL m l' k) ∧ Hid (TL wr base B now turn g cap l') ∧ Hid (Touch (· = g) w wr)) (fun jv _ _ => (intOf jv).toNat)
  case atStart => exact ⟨j, n, l, rfl, hj, hn, rfl, hid rfl, H, hid (Touch.refl _ _)⟩
  case round =>
    obtain ⟨k, m, l', rfl, hk, hm, hl, HU, HT, HTo⟩ := hrel
    obtain ⟨i, hi⟩ : ∃ i, (k - 1) / 2 = i := ⟨_, rfl⟩
    have hq : ((k : Int) - 1).tdiv 2 = (i : Int) := by
      rcases Nat.eq_zero_or_pos k with e | e
      · subst e; subst hi; rfl
      · rw [Int.tdiv_eq_ediv_of_nonneg (by omega)]; omega
    by_cases h0 : k = 0
    · have h1 : i = k := by omega
      subst h1
      have HE := hid (show upL n l j = l' from by rw [HU.out]; exact upL_end hm (.inl hi))
      have hne : ((i : Int) == (i : Int)) = true := by simp
      have hw : IntKind.i64.wrap ((i : Int) - 1) = (i : Int) - 1 := IntWalk.i64_in _ (by omega)
      go_wp2_with fail
      go_end0
      exact ⟨rfl, by rw [HE.out]; exact HT.out, HTo.out⟩
    · have hne : ((i : Int) == (k : Int)) = false := beq_eq_false_iff_ne.2 (by omega)
      have hik : (i : Int) < (k : Int) := by omega
      have hkb : (k : Int) ≤ 9223372036854775807 := by omega
      have hi0 : (0 : Int) ≤ (i : Int) := by omega
      have hw : IntKind.i64.wrap ((k : Int) - 1) = (k : Int) - 1 := IntWalk.i64_in _ (by omega)
      have hil : i < l'.length := by omega
      have hkl : k < l'.length := by omega
      have hc := HT.out.blk.cell (i := 2) rfl
      have hmt := fun n => meth_line info_less n wr B _ hc
      have HLE := hid (less_any wr base _ l' k i hkl hil HT.out.own)
      have HG := hid (fun (h : lessT (at0 l' k) (at0 l' i) = true) => (show upL n l j = upL (m - 1) (swapL l' i k) i from by rw [HU.out, ← hi]; exact upL_go hm (by omega) (by rw [hi]; exact h)))
      have HE := hid (fun (h : lessT (at0 l' k) (at0 l' i) = false) => (show upL n l j = l' from by rw [HU.out]; exact upL_end hm (.inr (by rw [hi]; exact h))))
      have HI := hid hi
      have HIL := hid hil
      have HKL := hid hkl
      have HLL := hid hl
      have HK := hid hk
      clear hi hil hkl hl hk hj
      generalize lessT (at0 l' k) (at0 l' i) = b at *
      cases b with
      | false =>
        go_wp2_with fail
        refine HLE.out.mono ?_
        rintro e w1 ⟨rfl, hb⟩
        go_wp2_with fail
        go_end0
        exact ⟨rfl, by rw [HE.out (by trivial)]; exact HT.out.below hb, HTo.out.trans (Touch.of_below hb)⟩
      | true =>
        go_wp2_with fail
        refine HLE.out.mono ?_
        rintro e w1 ⟨rfl, hb⟩
        have T1 := hid (HT.out.below hb)
        have B1 := hid hb
        clear hb
        have hc1 := T1.out.blk.cell (i := 2) rfl
        have hmt1 := fun n => meth_line info_swap n w1 B _ hc1
        have HSW := hid (swap_any w1 base g cap l' i k HIL.out HKL.out T1.out.own)
        go_wp2_with fail
        refine HSW.out.mono ?_
        rintro e w2 ⟨rfl, ho, ht⟩
        have T2 := hid (T1.out.swapped ho ht (swapL_len _ _ _))
        have HT2 := hid (HTo.out.trans ((Touch.of_below B1.out).trans ht))
        clear ho ht
        go_wp2_with fail
        go_roundw
        case rel => exact ⟨i, m - 1, swapL l' i k, rfl, by have := HI.out; have := HK.out; omega, by have := HI.out; omega, by rw [swapL_len]; exact HLL.out, hid (HG.out (by trivial)), T2, HT2⟩
        case measure => simp [RowKit.intOf]; have := HI.out; omega
theorem downL_end {m i n : Nat} {l : List Tm} (hc : n ≤ 2 * i + 1 ∨ lessT (at0 l (kid l i n)) (at0 l i) = false) : downL m l i n = (l, i) := by
  cases m with
  | zero => rfl
  | succ m => rw [downL, if_pos hc]
theorem downL_go {m i n : Nat} {l : List Tm} (h : 0 < m) (h0 : ¬ n ≤ 2 * i + 1) (hc : lessT (at0 l (kid l i n)) (at0 l i) = true) : downL m l i n = downL (m - 1) (swapL l i (kid l i n)) (kid l i n) n := by
  obtain ⟨k, rfl⟩ : ∃ k, m = k + 1 := ⟨m - 1, by omega⟩
  rw [downL, if_neg (fun g => g.elim h0 (fun e => by rw [hc] at e; simp at e))]
  rfl
set_option maxRecDepth 100000 in
set_option maxHeartbeats 1000000 in
theorem down_any (w : World) (base B : Nat) (now turn : Int) (g cap : Nat) (l : List Tm) (i0 n m0 : Nat) (hn : n ≤ l.length) (hi : i0 < l.length) (hb : l.length ≤ 1000000) (hm : n ≤ i0 + m0) (h : TL w base B now turn g cap l) :
    Calls Try.prog 65 #[.iface 106 (.pointer (some ⟨B, 2, none⟩)), .int .i64 i0, .int .i64 n] w fun e w' => e = .returned (.bool (decide (i0 < (downL m0 l i0 n).2))) ∧ TL w' base B now turn g cap (downL m0 l i0 n).1 ∧ Touch (· = g) w w' := by
  have H := hid h
  have HBD := hid hb
  have HNN := hid hn
  have HI0 := hid hi
  have hnb : (n : Int) ≤ 1000000 := by omega
  clear h
  go_enter Try.func65, Try.ntmps65
  go_wp2_with fail
  go_loopw [7, 8, 9, 10] (fun iv _ _ _ wr => ∃ (i m : Nat) (l' : List Tm), iv = .int .i64 i ∧ Hid (i < l.length ∧ n ≤ i + m ∧ l'.length = l.length ∧ i0 ≤ i) ∧ Hid (downL m0 l i0 n = downL m l' i n) ∧ Hid (TL wr base B now turn g cap l') ∧ Hid (Touch (· = g) w wr)) (fun iv _ _ _ _ => l.length - (intOf iv).toNat)
  case atStart => exact ⟨i0, m0, l, rfl, hid ⟨hi, hm, rfl, Nat.le_refl _⟩, hid rfl, H, hid (Touch.refl _ _)⟩
  case round =>
    obtain ⟨i, m, l', rfl, HP, HU, HT, HTo⟩ := hrel
    have hib : (i : Int) ≤ 1000000 := by have := HP.out.1; have := HBD.out; omega
    have hi0 : (0 : Int) ≤ (i : Int) := by omega
    clear hm hi hn hb
    by_cases h1 : n ≤ 2 * i + 1
    · have HE := hid (show downL m0 l i0 n = (l', i) from by rw [HU.out]; exact downL_end (.inl h1))
      have h2 : (n : Int) ≤ 2 * (i : Int) + 1 := by omega
      go_wp2_with fail
      go_ret
      rw [HE.out]
      exact ⟨by simp, HT.out, HTo.out⟩
    · have h2 : ¬ ((n : Int) ≤ 2 * (i : Int) + 1) := by omega
      have h3 : 2 * (i : Int) + 1 < (n : Int) := by omega
      have HW := hid (show w.heap.size ≤ wr.heap.size from HTo.out.size)
      have HK := hid (show kid l' i n = if (decide (2 * (i : Int) + 1 + 1 < (n : Int)) && lessT (at0 l' (2 * i + 2)) (at0 l' (2 * i + 1))) = true then 2 * i + 2 else 2 * i + 1 from by
        unfold kid
        by_cases g : 2 * i + 2 < n
        · have e : decide (2 * (i : Int) + 1 + 1 < (n : Int)) = true := decide_eq_true (by omega)
          rw [e, Bool.true_and]
          simp [g]
        · have e : decide (2 * (i : Int) + 1 + 1 < (n : Int)) = false := decide_eq_false (by omega)
          rw [e, Bool.false_and]
          simp [g])
      have HKL := hid (kid_lt l' i n (by omega))
      have HGO := hid (fun (g : lessT (at0 l' (kid l' i n)) (at0 l' i) = true) => (show downL m0 l i0 n = downL (m - 1) (swapL l' i (kid l' i n)) (kid l' i n) n from by rw [HU.out]; exact downL_go (by have := HP.out.2.1; omega) h1 g))
      have HEN := hid (fun (g : lessT (at0 l' (kid l' i n)) (at0 l' i) = false) => (show downL m0 l i0 n = (l', i) from by rw [HU.out]; exact downL_end (.inr g)))
      have HH1 := hid h1
      clear h1
      go_upto_region 6 with fail
      go_cut [33] from 25 to 33 (fun c wy => c = .bool (decide (2 * (i : Int) + 1 + 1 < (n : Int)) && lessT (at0 l' (2 * i + 2)) (at0 l' (2 * i + 1))) ∧ Below wr.heap.size wr wy)
      case first =>
        by_cases g1 : 2 * (i : Int) + 1 + 1 < (n : Int)
        · have hc := HT.out.blk.cell (i := 2) rfl
          have hmt := fun n => meth_line info_less n wr B _ hc
          have hle := less_any wr base _ l' (2 * i + 2) (2 * i + 1) (by have := HP.out.2.2.1; have := HNN.out; omega) (by have := HP.out.2.2.1; have := HNN.out; omega) HT.out.own
          rw [show ((2 * i + 2 : Nat) : Int) = 2 * (i : Int) + 1 + 1 by omega, show ((2 * i + 1 : Nat) : Int) = 2 * (i : Int) + 1 by omega] at hle
          have HLE := hid hle
          have e1 := decide_eq_true g1
          clear hle
          generalize lessT (at0 l' (2 * i + 2)) (at0 l' (2 * i + 1)) = b at *
          go_wp2_with fail
          refine HLE.out.mono ?_
          rintro e w1 ⟨rfl, hb⟩
          go_wp2_with fail
          go_meet
          exact ⟨by rw [e1, Bool.true_and], hb⟩
        · have e1 := decide_eq_false g1
          go_wp2_with fail
          go_meet
          exact ⟨by rw [e1, Bool.false_and], Below.refl _ _⟩
      case rest =>
        obtain ⟨rfl, hby⟩ := hcut
        have T1 := hid (HT.out.below hby)
        have HT1 := hid (HTo.out.trans (Touch.of_below hby))
        clear hby
        go_upto_if 33 with fail
        go_cut [9] from 33 to 34 (fun jv wy => jv = .int .i64 (kid l' i n) ∧ wy = wc)
        case first =>
          cases hb : (decide (2 * (i : Int) + 1 + 1 < (n : Int)) && lessT (at0 l' (2 * i + 2)) (at0 l' (2 * i + 1))) with
          | true =>
            have HK2 := hid (show kid l' i n = 2 * i + 2 from by rw [HK.out, hb]; rfl)
            clear hb
            go_wp2_with fail
            go_meet
            exact ⟨by rw [HK2.out]; rfl, rfl⟩
          | false =>
            have HK2 := hid (show kid l' i n = 2 * i + 1 from by rw [HK.out, hb]; rfl)
            clear hb
            go_wp2_with fail
            go_meet
            exact ⟨by rw [HK2.out]; rfl, rfl⟩
        case rest =>
          obtain ⟨rfl, rfl⟩ := hcut
          clear h2 h3 HK
          generalize kid l' i n = q at *
          have hqb : (q : Int) ≤ 1000000 := by have := HKL.out.1; omega
          have hc := T1.out.blk.cell (i := 2) rfl
          have hmt := fun n => meth_line info_less n wc B _ hc
          have HQL := hid (show q < l'.length from by have := HKL.out.1; have := HP.out.2.2.1; have := HNN.out; omega)
          have HIL := hid (show i < l'.length from by have := HP.out; omega)
          have HLE := hid (less_any wc base _ l' q i HQL.out HIL.out T1.out.own)
          generalize lessT (at0 l' q) (at0 l' i) = b at *
          cases b with
          | false =>
            go_wp2_with fail
            refine HLE.out.mono ?_
            rintro e w1 ⟨rfl, hb⟩
            go_wp2_with fail
            go_ret
            rw [HEN.out (by trivial)]
            exact ⟨by simp, T1.out.below hb, HT1.out.trans (Touch.of_below hb)⟩
          | true =>
            go_wp2_with fail
            refine HLE.out.mono ?_
            rintro e w1 ⟨rfl, hb⟩
            have T2 := hid (T1.out.below hb)
            have HT2 := hid (HT1.out.trans (Touch.of_below hb))
            clear hb
            have hc1 := T2.out.blk.cell (i := 2) rfl
            have hmt1 := fun n => meth_line info_swap n w1 B _ hc1
            have HSW := hid (swap_any w1 base g cap l' i q HIL.out HQL.out T2.out.own)
            go_wp2_with fail
            refine HSW.out.mono ?_
            rintro e w2 ⟨rfl, ho, ht⟩
            have T3 := hid (T2.out.swapped ho ht (swapL_len _ _ _))
            have HT3 := hid (HT2.out.trans ht)
            clear ho ht
            go_wp2_with fail
            go_roundw
            case rel => exact ⟨q, m - 1, swapL l' i q, rfl, hid (by have h1 := HKL.out; have h2 := HP.out; have h3 := HNN.out; rw [swapL_len]; omega), hid (HGO.out (by trivial)), T3, HT3⟩
            case measure => simp [RowKit.intOf]; have := HKL.out; have := HP.out; have := HNN.out; omega
end Go.Proofs.Ytalookaaogiinaa
