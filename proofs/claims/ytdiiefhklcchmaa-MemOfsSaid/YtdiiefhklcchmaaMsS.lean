/-
  MEMORIES: one call of both (memStep). Condition: the variable of the library that strings.Contains reads holds some number.
-/
import Derived.Test.YtdiiefhklcchmaaMsL
import Derived.Deep.CutBlock
import Derived.Deep.RegionLaw
import Derived.Deep.RegionHeld3
namespace Go.Proofs.Ytdiiefhklcchmaa
open Go.RowKit Go.Lib
attribute [local go_sem ↓] Go.wp_at_zero Go.wp_at_succ

theorem drew_belM {w w' : World} (h : Below w.drew.heap.size w.drew w') : Below w.heap.size w w' := ⟨h.os, h.tape, h.output, h.size, h.block⟩
/-- string(n.B) -/
theorem conv_m {w : World} {base B g cap : Nat} {most : Int} {m : List Int} (h : MR w base B g cap most m) : (convert 34 9 (.slice (some ⟨g, 0, none⟩) m.length cap)).run Try.prog w = .ok (.string (byS m)) w := by
  refine conv_bytes ⟨some ⟨g, 0, none⟩, cap, rfl, h.own.le, by have := h.own.cap; unfold maxLen at this; omega, fun e => (by cases e), .inr ⟨g, 0, rfl, fun j hj => ?_⟩⟩
  rw [List.length_map] at hj
  rw [Nat.zero_add, h.own.at j hj]
  simp
set_option maxRecDepth 100000 in
set_option maxHeartbeats 8000000 in
theorem mstep_any (W w : World) (B1 B2 : Nat) (kind op A Bn V : Int) (s : ByteArray) (hM : MaxL W) (hbel : Below W.heap.size W w) (hk0 : -9223372036854775808 ≤ kind) (hk1 : kind ≤ 9223372036854775807) (hop : 0 ≤ op ∧ op ≤ 255) (hV : -9223372036854775808 ≤ V ∧ V ≤ 9223372036854775807) (h : InvM w W.heap.size B1 B2) :
    Calls Try.prog 7 #[.pointer (some ⟨B1, 0, none⟩), .pointer (some ⟨B2, 0, none⟩), .agg #[.int .i64 kind, .int .u8 op, .int .i64 A, .int .i64 Bn, .int .i64 V, .string s]] w fun e w' => e = .returned (.bool true) ∧ InvM w' W.heap.size B1 B2 ∧ Below W.heap.size W w' := by
  obtain ⟨o, ho⟩ := Int.eq_ofNat_of_zero_le hop.1
  subst ho
  have hop2 : o < 256 := by omega
  have hstep := fun wx => step_no kind 7 wx hk0 hk1 (by omega) (by omega)
  have hmod : kind % 7 = 0 ∨ kind % 7 = 1 ∨ kind % 7 = 2 ∨ kind % 7 = 3 ∨ kind % 7 = 4 ∨ kind % 7 = 5 ∨ kind % 7 = 6 := by omega
  generalize kind % 7 = q at *
  have HST := hid hstep
  obtain ⟨v, g, cap, p, most, m, hD, hK⟩ := h.ex
  have HV := hid hV
  have HK := hid hK
  have HLM := hid hD.p.holds.len
  have hsz := hbel.size
  have hD0 := hD.alloc (.cells #[.int .i64 kind, .int .u8 o, .int .i64 A, .int .i64 Bn, .int .i64 V, .string s] 31)
  have hxb := Blk.new w #[.int .i64 kind, .int .u8 o, .int .i64 A, .int .i64 Bn, .int .i64 V, .string s] 31 _ rfl
  have hbel0 : Below W.heap.size W (w.alloc (.cells #[.int .i64 kind, .int .u8 o, .int .i64 A, .int .i64 Bn, .int .i64 V, .string s] 31)) := hbel.alloc hsz _
  have N1 := hid (show ∀ k, footM1 B1 v k → k ≠ w.heap.size from fun k hk => by have := (hD.p.lt k hk).2; omega)
  have N2 := hid (show ∀ k, footR B2 g k → k ≠ w.heap.size from fun k hk => by have := (hD.q.lt k hk).2; omega)
  have HML := hid (fun wx (hb : Below W.heap.size W wx) => hM.below hb)
  have hln : m.length = p * 256 := HLM.out
  have HA0 := hid (fun wx h => mload_u wx W.heap.size B1 p v most m o A Bn hop2 hK h)
  have HB0 := hid (fun wx hM h => rload_u wx W.heap.size B2 g cap p most m o A Bn hop2 hK hln hM h)
  have HA1 := hid (fun wx h => mstore_u wx W.heap.size B1 p v most m o A Bn V hop2 hV hK h)
  have HB1 := hid (fun wx hM h => rstore_u wx W.heap.size B2 g cap p most m o A Bn V hop2 hV hK hln hM h)
  have HA2 := hid (fun wx h => mgrow_u wx W.heap.size B1 p v most m A hK h)
  have HB2 := hid (fun wx h => rgrow_u wx W.heap.size B2 g cap p most m A hK hln h)
  have HA3 := hid (fun wx h => mbytes_u wx W.heap.size B1 p v most m A Bn hK h)
  have HB3 := hid (fun wx h => rbytes_u wx W.heap.size B2 g cap p most m A Bn hK hln h)
  have HA4 := hid (fun wx h => mput_u wx W.heap.size B1 p v most m A s hK h)
  have HB4 := hid (fun wx h => rput_u wx W.heap.size B2 g cap p most m A s hK hln h)
  have HK1 := hid (hK.store o A Bn V)
  have HK2 := hid (hK.grow A hln)
  have HK4 := hid (hK.put A s)
  have HW := hid hbel0
  have HDD := hid hD0
  have HXB := hid hxb
  have c0 := hxb.cell (i := 0) rfl
  have c1 := hxb.cell (i := 1) rfl
  have c2 := hxb.cell (i := 2) rfl
  have c3 := hxb.cell (i := 3) rfl
  have c4 := hxb.cell (i := 4) rfl
  have c5 := hxb.cell (i := 5) rfl
  clear hxb hbel0 hD0 hln hM hbel hK h hop hstep hk0 hk1 hV hsz hop2
  go_enter Try.func7, Try.ntmps7
  have HDd := hid HDD.out.drew1
  have HXd := hid (HXB.out.below (Below.refl _ _).drew)
  rcases hmod with rfl | rfl | rfl | rfl | rfl | rfl | rfl
  · generalize ldE (decide (54 ≤ o)) (tW o) A Bn p = E9 at HA0 HB0
    generalize ldR m o A Bn p = R9 at HA0 HB0
    go_wp2_with (go_at_call 12; refine (HST.out _).mono ?_; rintro e w' ⟨rfl, rfl⟩)
    refine (HA0.out _ HDD.out.p.holds).mono ?_
    rintro e w1 ⟨rfl, hp⟩
    obtain ⟨v1, hd1, ht1⟩ := m_left HDD.out hp
    have BB1 := hid (show Below W.heap.size W w1 from HW.out.trans (HDD.out.p.under ht1 (Nat.le_refl _)))
    have X1 := hid (Blk.touch HXB.out ht1 (fun e => N1.out _ e rfl))
    have M1 := hid hd1
    clear hp hd1 ht1 c0 c1 c2 c3 c4 c5
    have c1 := X1.out.cell (i := 1) rfl
    have c2 := X1.out.cell (i := 2) rfl
    have c3 := X1.out.cell (i := 3) rfl
    go_wp2_with fail
    refine (HB0.out _ (HML.out _ BB1.out) M1.out.q.holds).mono ?_
    rintro e w2 ⟨rfl, hp⟩
    obtain ⟨g2, cap2, hd2, ht2⟩ := m_right M1.out hp
    have M2 := hid (And.intro hd2 ht2)
    clear hp hd2 ht2
    go_wp2_with fail
    go_ret
    exact ⟨rfl, ⟨v1, g2, cap2, p, most, m, M2.out.1, HK.out⟩, BB1.out.trans (M1.out.q.under M2.out.2 (Nat.le_refl _))⟩
  · generalize ldE (decide (o < 54)) (tW o) A Bn p = E9 at HA1 HB1
    clear c0 c1 c2 c3 c4 c5
    go_wp2_with (go_at_call 12; refine (HST.out _).mono ?_; rintro e w' ⟨rfl, rfl⟩)
    go_region_held3 (fun w' => w'.cell? ⟨w.heap.size, 1, none⟩ = some (.int .u8 o) ∧ w'.cell? ⟨w.heap.size, 2, none⟩ = some (.int .i64 A) ∧ w'.cell? ⟨w.heap.size, 3, none⟩ = some (.int .i64 Bn) ∧ w'.cell? ⟨w.heap.size, 4, none⟩ = some (.int .i64 V)) (first | exact ⟨HXd.out.cell (i := 1) rfl, HXd.out.cell (i := 2) rfl, HXd.out.cell (i := 3) rfl, HXd.out.cell (i := 4) rfl⟩ | exact ⟨X2.out.cell (i := 1) rfl, X2.out.cell (i := 2) rfl, X2.out.cell (i := 3) rfl, X2.out.cell (i := 4) rfl⟩ | exact ⟨X1.out.cell (i := 1) rfl, X1.out.cell (i := 2) rfl, X1.out.cell (i := 3) rfl, X1.out.cell (i := 4) rfl⟩)
      (first | (go_at_call 15; refine (HA1.out _ HDd.out.p.holds).mono ?_; rintro e w1 ⟨rfl, hp⟩; obtain ⟨v1, hd1, ht1⟩ := m_left HDd.out hp; have BB1 := hid (show Below W.heap.size W w1 from HW.out.drew.trans (HDd.out.p.under ht1 (Nat.le_refl _))); have X1 := hid (Blk.touch HXd.out ht1 (fun e => N1.out _ e rfl)); have M1 := hid hd1; clear hp hd1 ht1) | (go_at_call 16; refine (HB1.out _ (HML.out _ BB1.out) M1.out.q.holds).mono ?_; rintro e w2 ⟨rfl, hp⟩; obtain ⟨g2, cap2, hd2, ht2⟩ := m_right M1.out hp; have X2 := hid (Blk.touch X1.out ht2 (fun e => N2.out _ e rfl)); have M2 := hid (And.intro hd2 ht2); clear hp hd2 ht2))
    all_goals
      go_wp2_with fail
      go_ret
      exact ⟨rfl, ⟨v1, g2, cap2, _, most, _, M2.out.1, HK1.out.1⟩, BB1.out.trans (M1.out.q.under M2.out.2 (Nat.le_refl _))⟩
  · generalize grR p most A = E9 at HA2 HB2
    clear c0 c1 c2 c3 c4 c5
    go_wp2_with (go_at_call 12; refine (HST.out _).mono ?_; rintro e w' ⟨rfl, rfl⟩)
    go_region_held3 (fun w' => w'.cell? ⟨w.heap.size, 2, none⟩ = some (.int .i64 A)) (first | exact HXd.out.cell (i := 2) rfl | exact X2.out.cell (i := 2) rfl | exact X1.out.cell (i := 2) rfl)
      (first | (go_at_call 17; refine (HA2.out _ HDd.out.p.holds).mono ?_; rintro e w1 ⟨rfl, hp⟩; obtain ⟨v1, hd1, ht1⟩ := m_left HDd.out hp; have BB1 := hid (show Below W.heap.size W w1 from HW.out.drew.trans (HDd.out.p.under ht1 (Nat.le_refl _))); have X1 := hid (Blk.touch HXd.out ht1 (fun e => N1.out _ e rfl)); have M1 := hid hd1; clear hp hd1 ht1) | (go_at_call 18; refine (HB2.out _ M1.out.q.holds).mono ?_; rintro e w2 ⟨rfl, hp⟩; obtain ⟨g2, cap2, hd2, ht2⟩ := m_right M1.out hp; have X2 := hid (Blk.touch X1.out ht2 (fun e => N2.out _ e rfl)); have M2 := hid (And.intro hd2 ht2); clear hp hd2 ht2))
    all_goals
      go_wp2_with fail
      go_ret
      exact ⟨rfl, ⟨v1, g2, cap2, _, most, _, M2.out.1, HK2.out.1⟩, BB1.out.trans (M1.out.q.under M2.out.2 (Nat.le_refl _))⟩
  · generalize byR m p A Bn = R9 at HA3 HB3
    generalize byE p A Bn = E9 at HA3 HB3
    go_wp2_with (go_at_call 12; refine (HST.out _).mono ?_; rintro e w' ⟨rfl, rfl⟩)
    refine (HA3.out _ HDD.out.p.holds).mono ?_
    rintro e w1 ⟨rfl, hp⟩
    obtain ⟨v1, hd1, ht1⟩ := m_left HDD.out hp
    have BB1 := hid (show Below W.heap.size W w1 from HW.out.trans (HDD.out.p.under ht1 (Nat.le_refl _)))
    have X1 := hid (Blk.touch HXB.out ht1 (fun e => N1.out _ e rfl))
    have M1 := hid hd1
    clear hp hd1 ht1 c0 c1 c2 c3 c4 c5
    have c1 := X1.out.cell (i := 1) rfl
    have c2 := X1.out.cell (i := 2) rfl
    have c3 := X1.out.cell (i := 3) rfl
    go_wp2_with fail
    refine (HB3.out _ M1.out.q.holds).mono ?_
    rintro e w2 ⟨rfl, hp⟩
    obtain ⟨g2, cap2, hd2, ht2⟩ := m_right M1.out hp
    have M2 := hid (And.intro hd2 ht2)
    clear hp hd2 ht2
    go_wp2_with fail
    go_ret
    exact ⟨rfl, ⟨v1, g2, cap2, p, most, m, M2.out.1, HK.out⟩, BB1.out.trans (M1.out.q.under M2.out.2 (Nat.le_refl _))⟩
  · generalize byE p A s.size = E9 at HA4 HB4
    clear c0 c1 c2 c3 c4 c5
    go_wp2_with (go_at_call 12; refine (HST.out _).mono ?_; rintro e w' ⟨rfl, rfl⟩)
    go_region_held3 (fun w' => w'.cell? ⟨w.heap.size, 2, none⟩ = some (.int .i64 A) ∧ w'.cell? ⟨w.heap.size, 5, none⟩ = some (.string s)) (first | exact ⟨HXd.out.cell (i := 2) rfl, HXd.out.cell (i := 5) rfl⟩ | exact ⟨X2.out.cell (i := 2) rfl, X2.out.cell (i := 5) rfl⟩ | exact ⟨X1.out.cell (i := 2) rfl, X1.out.cell (i := 5) rfl⟩)
      (first | (go_at_call 21; refine (HA4.out _ HDd.out.p.holds).mono ?_; rintro e w1 ⟨rfl, hp⟩; obtain ⟨v1, hd1, ht1⟩ := m_left HDd.out hp; have BB1 := hid (show Below W.heap.size W w1 from HW.out.drew.trans (HDd.out.p.under ht1 (Nat.le_refl _))); have X1 := hid (Blk.touch HXd.out ht1 (fun e => N1.out _ e rfl)); have M1 := hid hd1; clear hp hd1 ht1) | (go_at_call 22; refine (HB4.out _ M1.out.q.holds).mono ?_; rintro e w2 ⟨rfl, hp⟩; obtain ⟨g2, cap2, hd2, ht2⟩ := m_right M1.out hp; have X2 := hid (Blk.touch X1.out ht2 (fun e => N2.out _ e rfl)); have M2 := hid (And.intro hd2 ht2); clear hp hd2 ht2))
    all_goals
      go_wp2_with fail
      go_ret
      exact ⟨rfl, ⟨v1, g2, cap2, _, most, _, M2.out.1, HK4.out.1⟩, BB1.out.trans (M1.out.q.under M2.out.2 (Nat.le_refl _))⟩
  · have z0 := HDd.out.q.holds.blk.cell (i := 0) rfl
    have hp8 : p ≤ 8 := HK.out.p8
    obtain ⟨L, hL⟩ : ∃ L, m.length = L := ⟨_, rfl⟩
    rw [hL] at z0
    have hLp : L = p * 256 := by rw [← hL]; exact HLM.out
    have hdv : (L : Int).tdiv 256 = (p : Int) := by rw [Int.tdiv_eq_ediv_of_nonneg (by omega)]; omega
    have hL8 : (L : Int) ≤ 2048 := by omega
    have hwp : IntKind.i64.wrap (p : Int) = (p : Int) := IntWalk.i64_in _ (by omega)
    clear hL hLp
    clear c0 c1 c2 c3 c4 c5
    go_wp2_with (go_at_call 12; refine (HST.out _).mono ?_; rintro e w' ⟨rfl, rfl⟩)
    go_region_held3 (fun w' => w'.cell? ⟨B2, 0, none⟩ = some (.slice (some ⟨g, 0, none⟩) L cap)) (first | exact z0)
      (first | (go_at_call 8; refine (msize_any _ _ _ _ _ _ _ HDd.out.p.holds).mono ?_; rintro e w1 ⟨rfl, rfl⟩))
    all_goals
      go_wp2_with fail
      go_ret
      exact ⟨rfl, ⟨v, g, cap, p, most, m, HDd.out, HK.out⟩, HW.out.drew⟩
  · have z0 := HDd.out.q.holds.blk.cell (i := 0) rfl
    have z1 := conv_m HDd.out.q.holds
    have HA6 := hid (fun wx h => mall_u wx W.heap.size B1 p v most m HK.out h)
    rw [HLM.out] at z0 z1
    obtain ⟨R9, hR9⟩ : ∃ R9, byS m = R9 := ⟨_, rfl⟩
    rw [hR9] at z1 HA6
    have HR9 := hid hR9
    clear hR9
    have hp8 : p ≤ 8 := HK.out.p8
    clear c0 c1 c2 c3 c4 c5
    go_wp2_with (go_at_call 12; refine (HST.out _).mono ?_; rintro e w' ⟨rfl, rfl⟩)
    go_region_held3 (fun w' => w'.cell? ⟨B2, 0, none⟩ = some (.slice (some ⟨g, 0, none⟩) (p * 256) cap) ∧ (convert 34 9 (.slice (some ⟨g, 0, none⟩) (p * 256) cap)).run Try.prog w' = .ok (.string R9) w') (first | exact ⟨z0, z1⟩ | exact ⟨y0, y1⟩)
      (first | (go_at_call 9; refine (HA6.out _ HDd.out.p.holds).mono ?_; rintro e w1 ⟨rfl, hp⟩; obtain ⟨v1, hd1, ht1⟩ := m_left HDd.out hp; have BB1 := hid (show Below W.heap.size W w1 from HW.out.drew.trans (HDd.out.p.under ht1 (Nat.le_refl _))); have M1 := hid hd1; have y0 := hd1.q.holds.blk.cell (i := 0) rfl; have y1 := conv_m hd1.q.holds; rw [HLM.out] at y0 y1; rw [HR9.out] at y1; clear hp hd1 ht1))
    all_goals
      go_wp2_with fail
      go_ret
      exact ⟨rfl, ⟨v1, g, cap, p, most, m, M1.out, HK.out⟩, BB1.out⟩
end Go.Proofs.Ytdiiefhklcchmaa
