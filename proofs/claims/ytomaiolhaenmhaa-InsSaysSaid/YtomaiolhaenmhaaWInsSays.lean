/-
  THE LAW InsSays: the program's instructions, checked, described and written, and the reference's are one, for all instructions. Condition: the variable of the library that strings.Contains reads holds some number.
-/
import Derived.Test.YtomaiolhaenmhaaInS
import Derived.Test.YtomaiolhaenmhaaInQ
import Derived.Test.YtomaiolhaenmhaaEqK
import Derived.Test.YtomaiolhaenmhaaDecI
import Derived.Test.YtomaiolhaenmhaaLawK
import Derived.Deep.RegionHeld3
namespace Go.Proofs.Ytomaiolhaenmhaa
open Go.RowKit Go.Lib
attribute [local go_sem ↓] Go.wp_at_zero Go.wp_at_succ

theorem i64s_of {W : World} {v : Value} {zs : List Int} (h : sliceR W 1 8 (intR .i64) [v] zs) : Ints W .i64 v zs := by
  have hf := slice_flat (fun z => [Value.int .i64 z]) (fun z => -9223372036854775808 ≤ z ∧ z ≤ 9223372036854775807) (fun cs z h => by
    obtain ⟨rfl, w⟩ := h
    exact ⟨rfl, wf_i64 w⟩) h
  have h1 : Sl W v zs.length (zs.flatMap fun z => [Value.int .i64 z]) := hf.1
  have e : (zs.flatMap fun z => [Value.int .i64 z]) = zs.map (Value.int .i64) := by
    clear h hf h1
    induction zs with
    | nil => rfl
    | cons z r ih => rw [List.flatMap_cons, ih]; rfl
  rw [e] at h1
  exact h1
theorem ins_open {W : World} {v : Value} {x : D_api_Ins} (h : IsAgg (R_api_Ins W) v x) : ∃ (op : Nat) (A B : Int) (xs : List Int) (u : Value), op < 256 ∧ (-9223372036854775808 ≤ A ∧ A ≤ 9223372036854775807) ∧ v = insV op A B u ∧ Ints W .i64 u xs := by
  obtain ⟨cs, rfl, h⟩ := h
  obtain ⟨_, _, rfl, ⟨rfl, w0⟩, _, _, rfl, ⟨rfl, w1⟩, _, _, rfl, ⟨rfl, w2⟩, c3, _, rfl, hs, rfl⟩ := h
  have hs2 := hs
  obtain ⟨v', css, hv, _⟩ := hs
  subst hv
  have h0 : 0 ≤ x.1 ∧ x.1 < 256 := by simp [Lit.wf, IntKind.min, IntKind.max, IntKind.signed, IntKind.bits] at w0; omega
  obtain ⟨n, hn⟩ := Int.eq_ofNat_of_zero_le h0.1
  refine ⟨n, x.2.1, x.2.2.1, x.2.2.2.1, v', by omega, wf_i64 w1, ?_, i64s_of hs2⟩
  rw [hn]
  rfl
/-- what Write says, whole -/
def wrT (op : Nat) (A B : Int) (xs : List Int) : ByteArray := if chkI (tB op) A B xs = 0 then S (wrI (tB op) op A B xs) else ⟨#[]⟩
theorem pinsW_any (op : Nat) (hop : op < 256) (A B : Int) (hA : -9223372036854775808 ≤ A ∧ A ≤ 9223372036854775807) (xs : List Int) (v : Value) (w : World) (hx : Ints w .i64 v xs) :
    Calls Try.prog 52 #[insV op A B v] w fun e w' => e = .returned (.tuple #[.string (wrT op A B xs), .int .i64 (chkI (tB op) A B xs)]) ∧ Below w.heap.size w w' := by
  unfold wrT
  by_cases hc : chkI (tB op) A B xs = 0
  · rw [if_pos hc, hc]
    have hle := tB_le ⟨op, hop⟩
    simp only at hle
    obtain ⟨h0, _⟩ := chk_ok hc
    rcases (by omega : tB op = 1 ∨ tB op = 2 ∨ tB op = 3 ∨ tB op = 4 ∨ tB op = 5 ∨ tB op = 6 ∨ tB op = 7 ∨ tB op = 8 ∨ tB op = 9) with hk | hk | hk | hk | hk | hk | hk | hk | hk
    all_goals rw [hk] at hc ⊢
    · exact pwr_1 op hop hk A B hA xs v w hx hc
    · exact pwr_2 op hop hk A B hA xs v w hx hc
    · exact pwr_3 op hop hk A B hA xs v w hx hc
    · exact pwr_4 op hop hk A B hA xs v w hx hc
    · exact pwr_5 op hop hk A B hA xs v w hx hc
    · exact pwr_6 op hop hk A B hA xs v w hx hc
    · exact pwr_7 op hop hk A B hA xs v w hx hc
    · exact pwr_8 op hop hk A B hA xs v w hx hc
    · exact pwr_9 op hop hk A B hA xs v w hx hc
  · rw [if_neg hc]
    exact pwr_bad op hop A B hA xs v w hx hc
theorem rinsW_any (op : Nat) (hop : op < 256) (A B : Int) (hA : -9223372036854775808 ≤ A ∧ A ≤ 9223372036854775807) (xs : List Int) (v : Value) (w : World) (hM : MaxL w) (hx : Ints w .i64 v xs) :
    Calls Try.prog 53 #[insV op A B v] w fun e w' => e = .returned (.tuple #[.string (wrT op A B xs), .int .i64 (chkI (tB op) A B xs)]) ∧ Below w.heap.size w w' := by
  unfold wrT
  by_cases hc : chkI (tB op) A B xs = 0
  · rw [if_pos hc, hc]
    have hle := tB_le ⟨op, hop⟩
    simp only at hle
    obtain ⟨h0, _⟩ := chk_ok hc
    rcases (by omega : tB op = 1 ∨ tB op = 2 ∨ tB op = 3 ∨ tB op = 4 ∨ tB op = 5 ∨ tB op = 6 ∨ tB op = 7 ∨ tB op = 8 ∨ tB op = 9) with hk | hk | hk | hk | hk | hk | hk | hk | hk
    all_goals rw [hk] at hc ⊢
    · exact rwr_1 op hop hk A B hA xs v w hM hx hc
    · exact rwr_2 op hop hk A B hA xs v w hM hx hc
    · exact rwr_3 op hop hk A B hA xs v w hM hx hc
    · exact rwr_4 op hop hk A B hA xs v w hM hx hc
    · exact rwr_5 op hop hk A B hA xs v w hM hx hc
    · exact rwr_6 op hop hk A B hA xs v w hM hx hc
    · exact rwr_7 op hop hk A B hA xs v w hM hx hc
    · exact rwr_8 op hop hk A B hA xs v w hM hx hc
    · exact rwr_9 op hop hk A B hA xs v w hM hx hc
  · rw [if_neg hc]
    exact rwr_bad op hop A B xs v w hM hx hc

set_option maxRecDepth 100000 in
set_option maxHeartbeats 8000000 in
theorem law_InsSays (v0 : Value) (x0 : D_api_Ins) (W : World) (i0 : IsAgg (R_api_Ins W) v0 x0) (hM : MaxL W) :
    Calls Try.prog 9 #[v0] W fun e w' => e = .returned (.bool true) ∧ Below W.heap.size W w' := by
  obtain ⟨op, A, B, xs, u, hop, hA, rfl, hx⟩ := ins_open i0
  clear i0
  have hA0 : Below W.heap.size W (W.alloc (.cells #[.int .u8 op, .int .i64 A, .int .i64 B, u] 90)) := (Below.refl _ _).alloc (Nat.le_refl _) _
  have hblk := Blk.new W #[.int .u8 op, .int .i64 A, .int .i64 B, u] 90 _ rfl
  generalize hW0 : W.alloc (.cells #[.int .u8 op, .int .i64 A, .int .i64 B, u] 90) = W0 at *
  have HW0 := hid hW0
  have b0 : W0.cell? ⟨W.heap.size, 0, none⟩ = some (.int .u8 op) := hblk.cell (i := 0) rfl
  have b1 : W0.cell? ⟨W.heap.size, 1, none⟩ = some (.int .i64 A) := hblk.cell (i := 1) rfl
  have b2 : W0.cell? ⟨W.heap.size, 2, none⟩ = some (.int .i64 B) := hblk.cell (i := 2) rfl
  have b3 : W0.cell? ⟨W.heap.size, 3, none⟩ = some u := hblk.cell (i := 3) rfl
  have HA := hid hA0
  have HC := hid (fun w' (hb : Below W0.heap.size W0 w') => And.intro ((hblk.below hb).cell (i := 0) rfl) (And.intro ((hblk.below hb).cell (i := 1) rfl) (And.intro ((hblk.below hb).cell (i := 2) rfl) ((hblk.below hb).cell (i := 3) rfl))))
  have hMA := hM.below hA0
  have hxA := L1.below hx hA0
  have C1 := hid (fun w' (hb : Below W0.heap.size W0 w') => pinsW_any op hop A B hA xs u w' (L1.below hxA hb))
  have C2 := hid (fun w' (hb : Below W0.heap.size W0 w') => rinsW_any op hop A B hA xs u w' (hMA.below hb) (L1.below hxA hb))
  have C3 := hid (fun w' => plain_any op hop w')
  have C4 := hid (fun w' => rplain_any op hop w')
  have C5 := hid (fun w' => width_any op hop w')
  have C6 := hid (fun w' (hb : Below W0.heap.size W0 w') => rwidth_any op hop w' (hMA.below hb))
  have C7 := hid (fun w' (hb : Below W0.heap.size W0 w') => pchk_any op hop A B hA xs u w' (L1.below hxA hb))
  have C8 := hid (fun w' (hb : Below W0.heap.size W0 w') => rchk_any op hop A B xs u w' (hMA.below hb) (L1.below hxA hb))
  generalize wrT op A B xs = X at *
  generalize chkI (tB op) A B xs = E at *
  generalize decide (tT op ≠ 0) = Q at *
  generalize kI (tT op) = KI at *
  generalize kO (tT op) = KO at *
  generalize tW op = WD at *
  clear hA0 hblk hMA hxA hx hM
  go_enter Try.func9, Try.ntmps9
  rw [show insV op A B u = .agg #[.int .u8 op, .int .i64 A, .int .i64 B, u] from rfl]
  go_wp2_with fail
  refine (C1.out _ (Below.refl _ _)).mono ?_
  rintro e w1 ⟨rfl, hb⟩
  have B1 := hid hb
  obtain ⟨c0, c1, c2, c3⟩ := HC.out _ hb
  clear hb
  go_wp2_with fail
  refine (C2.out _ B1.out).mono ?_
  rintro e w2 ⟨rfl, hb⟩
  have B2 := hid (B1.out.trans (hb.mono B1.out.size))
  clear hb c0 c1 c2 c3
  obtain ⟨c0, c1, c2, c3⟩ := HC.out _ B2.out
  go_wp2_with fail
  refine (C3.out _).mono ?_
  rintro e w3 ⟨v3, u3, rfl, hk1, hk2, hb⟩
  have B3 := hid (B2.out.trans (hb.mono B2.out.size))
  have K1 := hid hk1
  have K2 := hid hk2
  clear hb c0 c1 c2 c3 hk1 hk2
  obtain ⟨c0, c1, c2, c3⟩ := HC.out _ B3.out
  go_wp2_with fail
  refine (C4.out _).mono ?_
  rintro e w4 ⟨v4, u4, rfl, hk3, hk4, hb⟩
  have B4 := hid (B3.out.trans (hb.mono B3.out.size))
  have K1' := hid (L1.below K1.out hb)
  have K2' := hid (L1.below K2.out hb)
  have K3 := hid hk3
  have K4 := hid hk4
  clear hb c0 c1 c2 c3 hk3 hk4
  obtain ⟨c0, c1, c2, c3⟩ := HC.out _ B4.out
  clear b0 b1 b2 b3
  go_wp2_with fail
  have BD := hid (B4.out.drew)
  have K1d := hid (show Kinds w4.drew v3 KI from K1'.out)
  have K2d := hid (show Kinds w4.drew u3 KO from K2'.out)
  have K3d := hid (show Kinds w4.drew v4 KI from K3.out)
  have K4d := hid (show Kinds w4.drew u4 KO from K4.out)
  have c0d : w4.drew.cell? ⟨W.heap.size, 0, none⟩ = some (.int .u8 op) := c0
  have c1d : w4.drew.cell? ⟨W.heap.size, 1, none⟩ = some (.int .i64 A) := c1
  have c2d : w4.drew.cell? ⟨W.heap.size, 2, none⟩ = some (.int .i64 B) := c2
  have c3d : w4.drew.cell? ⟨W.heap.size, 3, none⟩ = some u := c3
  clear c0 c1 c2 c3 B1 B2 B3 B4 hW0 K1 K2 K1' K2' K3 K4
  generalize hq : w4.drew = WD0 at *
  have HQ := hid hq
  clear hq
  have S0 : (WD0.cell? ⟨W.heap.size, 0, none⟩ = some (.int .u8 op) ∧ WD0.cell? ⟨W.heap.size, 1, none⟩ = some (.int .i64 A) ∧ WD0.cell? ⟨W.heap.size, 2, none⟩ = some (.int .i64 B) ∧ WD0.cell? ⟨W.heap.size, 3, none⟩ = some u ∧ Hid (Below WD0.heap.size WD0 WD0)) := ⟨c0d, c1d, c2d, c3d, hid (Below.refl _ _)⟩
  have N0 := hid (show ∀ w' w2, (w'.cell? ⟨W.heap.size, 0, none⟩ = some (.int .u8 op) ∧ w'.cell? ⟨W.heap.size, 1, none⟩ = some (.int .i64 A) ∧ w'.cell? ⟨W.heap.size, 2, none⟩ = some (.int .i64 B) ∧ w'.cell? ⟨W.heap.size, 3, none⟩ = some u ∧ Hid (Below WD0.heap.size WD0 w')) → Below w'.heap.size w' w2 → (w2.cell? ⟨W.heap.size, 0, none⟩ = some (.int .u8 op) ∧ w2.cell? ⟨W.heap.size, 1, none⟩ = some (.int .i64 A) ∧ w2.cell? ⟨W.heap.size, 2, none⟩ = some (.int .i64 B) ∧ w2.cell? ⟨W.heap.size, 3, none⟩ = some u ∧ Hid (Below WD0.heap.size WD0 w2)) from fun w' w2 h hb => by
    have hb2 := h.2.2.2.2.out.trans (hb.mono h.2.2.2.2.out.size)
    have hb3 := BD.out.trans (hb2.mono BD.out.size)
    obtain ⟨a0, a1, a2, a3⟩ := HC.out _ hb3
    exact ⟨a0, a1, a2, a3, hid hb2⟩)
  have G0 := hid (show ∀ w', (w'.cell? ⟨W.heap.size, 0, none⟩ = some (.int .u8 op) ∧ w'.cell? ⟨W.heap.size, 1, none⟩ = some (.int .i64 A) ∧ w'.cell? ⟨W.heap.size, 2, none⟩ = some (.int .i64 B) ∧ w'.cell? ⟨W.heap.size, 3, none⟩ = some u ∧ Hid (Below WD0.heap.size WD0 w')) → Below W0.heap.size W0 w' from fun w' h => BD.out.trans (h.2.2.2.2.out.mono BD.out.size))
  have E1 := hid (show ∀ w', (w'.cell? ⟨W.heap.size, 0, none⟩ = some (.int .u8 op) ∧ w'.cell? ⟨W.heap.size, 1, none⟩ = some (.int .i64 A) ∧ w'.cell? ⟨W.heap.size, 2, none⟩ = some (.int .i64 B) ∧ w'.cell? ⟨W.heap.size, 3, none⟩ = some u ∧ Hid (Below WD0.heap.size WD0 w')) → Calls Try.prog 56 #[v3, v4] w' fun e w2 => e = .returned (.bool true) ∧ w' = w2 from fun w' hS => by
    have h := eq_kind v3 v4 KI KI w' (L1.below K1d.out hS.2.2.2.2.out) (L1.below K3d.out hS.2.2.2.2.out)
    rw [decide_eq_true rfl] at h
    exact h)
  have E2 := hid (show ∀ w', (w'.cell? ⟨W.heap.size, 0, none⟩ = some (.int .u8 op) ∧ w'.cell? ⟨W.heap.size, 1, none⟩ = some (.int .i64 A) ∧ w'.cell? ⟨W.heap.size, 2, none⟩ = some (.int .i64 B) ∧ w'.cell? ⟨W.heap.size, 3, none⟩ = some u ∧ Hid (Below WD0.heap.size WD0 w')) → Calls Try.prog 56 #[u3, u4] w' fun e w2 => e = .returned (.bool true) ∧ w' = w2 from fun w' hS => by
    have h := eq_kind u3 u4 KO KO w' (L1.below K2d.out hS.2.2.2.2.out) (L1.below K4d.out hS.2.2.2.2.out)
    rw [decide_eq_true rfl] at h
    exact h)
  have E6 := hid (show ∀ w', (w'.cell? ⟨W.heap.size, 0, none⟩ = some (.int .u8 op) ∧ w'.cell? ⟨W.heap.size, 1, none⟩ = some (.int .i64 A) ∧ w'.cell? ⟨W.heap.size, 2, none⟩ = some (.int .i64 B) ∧ w'.cell? ⟨W.heap.size, 3, none⟩ = some u ∧ Hid (Below WD0.heap.size WD0 w')) → Calls Try.prog 58 #[.int .u8 op] w' fun e w2 => e = .returned (.int .i64 WD) ∧ (w2.cell? ⟨W.heap.size, 0, none⟩ = some (.int .u8 op) ∧ w2.cell? ⟨W.heap.size, 1, none⟩ = some (.int .i64 A) ∧ w2.cell? ⟨W.heap.size, 2, none⟩ = some (.int .i64 B) ∧ w2.cell? ⟨W.heap.size, 3, none⟩ = some u ∧ Hid (Below WD0.heap.size WD0 w2)) from fun w' hS => (C6.out w' (G0.out w' hS)).mono (by
    rintro e w2 ⟨rfl, hb⟩
    exact ⟨rfl, N0.out _ _ hS hb⟩))
  have E7 := hid (show ∀ w', (w'.cell? ⟨W.heap.size, 0, none⟩ = some (.int .u8 op) ∧ w'.cell? ⟨W.heap.size, 1, none⟩ = some (.int .i64 A) ∧ w'.cell? ⟨W.heap.size, 2, none⟩ = some (.int .i64 B) ∧ w'.cell? ⟨W.heap.size, 3, none⟩ = some u ∧ Hid (Below WD0.heap.size WD0 w')) → Calls Try.prog 59 #[.agg #[.int .u8 op, .int .i64 A, .int .i64 B, u]] w' fun e w2 => e = .returned (.int .i64 E) ∧ (w2.cell? ⟨W.heap.size, 0, none⟩ = some (.int .u8 op) ∧ w2.cell? ⟨W.heap.size, 1, none⟩ = some (.int .i64 A) ∧ w2.cell? ⟨W.heap.size, 2, none⟩ = some (.int .i64 B) ∧ w2.cell? ⟨W.heap.size, 3, none⟩ = some u ∧ Hid (Below WD0.heap.size WD0 w2)) from fun w' hS => (C7.out w' (G0.out w' hS)).mono (by
    rintro e w2 ⟨rfl, hb⟩
    exact ⟨rfl, N0.out _ _ hS hb⟩))
  have E8 := hid (show ∀ w', (w'.cell? ⟨W.heap.size, 0, none⟩ = some (.int .u8 op) ∧ w'.cell? ⟨W.heap.size, 1, none⟩ = some (.int .i64 A) ∧ w'.cell? ⟨W.heap.size, 2, none⟩ = some (.int .i64 B) ∧ w'.cell? ⟨W.heap.size, 3, none⟩ = some u ∧ Hid (Below WD0.heap.size WD0 w')) → Calls Try.prog 60 #[.agg #[.int .u8 op, .int .i64 A, .int .i64 B, u]] w' fun e w2 => e = .returned (.int .i64 E) ∧ (w2.cell? ⟨W.heap.size, 0, none⟩ = some (.int .u8 op) ∧ w2.cell? ⟨W.heap.size, 1, none⟩ = some (.int .i64 A) ∧ w2.cell? ⟨W.heap.size, 2, none⟩ = some (.int .i64 B) ∧ w2.cell? ⟨W.heap.size, 3, none⟩ = some u ∧ Hid (Below WD0.heap.size WD0 w2)) from fun w' hS => (C8.out w' (G0.out w' hS)).mono (by
    rintro e w2 ⟨rfl, hb⟩
    exact ⟨rfl, N0.out _ _ hS hb⟩))
  have F0 := hid (show ∀ w', (w'.cell? ⟨W.heap.size, 0, none⟩ = some (.int .u8 op) ∧ w'.cell? ⟨W.heap.size, 1, none⟩ = some (.int .i64 A) ∧ w'.cell? ⟨W.heap.size, 2, none⟩ = some (.int .i64 B) ∧ w'.cell? ⟨W.heap.size, 3, none⟩ = some u ∧ Hid (Below WD0.heap.size WD0 w')) → Below W.heap.size W w' from fun w' h => HA.out.trans ((G0.out w' h).mono HA.out.size))
  clear C1 C2 C3 C4 C6 C7 C8 G0 N0 HC HA BD K1d K2d K3d K4d c0d c1d c2d c3d HW0
  go_region_held3 (fun w' => w'.cell? ⟨W.heap.size, 0, none⟩ = some (.int .u8 op) ∧ w'.cell? ⟨W.heap.size, 1, none⟩ = some (.int .i64 A) ∧ w'.cell? ⟨W.heap.size, 2, none⟩ = some (.int .i64 B) ∧ w'.cell? ⟨W.heap.size, 3, none⟩ = some u ∧ Hid (Below WD0.heap.size WD0 w')) (first | assumption | (rw [HQ.out]; exact S0)) (first | (go_at_call 56; (first | (with_reducible refine (E1.out _ (by assumption)).mono ?_) | (with_reducible refine (E2.out _ (by assumption)).mono ?_)); rintro r w5 ⟨rfl, rfl⟩) | (go_at_call 57; with_reducible refine (C5.out _).mono ?_; rintro r w5 ⟨rfl, rfl⟩) | (go_at_call 58; with_reducible refine (E6.out _ (by assumption)).mono ?_; rintro r w5 ⟨rfl, hS5⟩) | (go_at_call 59; with_reducible refine (E7.out _ (by assumption)).mono ?_; rintro r w5 ⟨rfl, hS5⟩) | (go_at_call 60; with_reducible refine (E8.out _ (by assumption)).mono ?_; rintro r w5 ⟨rfl, hS5⟩))
  have HF := hid (F0.out _ (by assumption))
  clear E1 E2 E6 E7 E8 F0 C5
  go_wp2_with fail
  go_ret
  exact ⟨rfl, HF.out⟩
end Go.Proofs.Ytomaiolhaenmhaa
