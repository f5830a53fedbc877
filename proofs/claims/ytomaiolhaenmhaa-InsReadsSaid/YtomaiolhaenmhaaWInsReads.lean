/-
  THE LAW InsReads: Read is the reference's. Condition: the library's variable that strings.Contains reads holds some number.
-/
import Derived.Test.YtomaiolhaenmhaaIrh
import Derived.Test.YtomaiolhaenmhaaDecI
import Derived.Test.YtomaiolhaenmhaaLawK
namespace Go.Proofs.Ytomaiolhaenmhaa
open Go.RowKit Go.Lib

set_option maxRecDepth 100000 in
set_option maxHeartbeats 2000000 in
theorem law_InsReads (v0 : Value) (x0 : ByteArray) (W : World) (i0 : IsStr W v0 x0) (hM : MaxL W) :
    Calls Try.prog 8 #[v0] W fun e w' => e = .returned (.bool true) ∧ Below W.heap.size W w' := by
  obtain ⟨rfl, h1⟩ := i0
  have P1 := hid (pread_any W x0 h1)
  have P2 := hid (fun w' (h : Below W.heap.size W w') => rread_any w' x0 h1 (hM.below h))
  unfold RdP at P1 P2
  generalize rdI x0 = a at *
  obtain ⟨op, ⟨A, B, xs⟩, s⟩ := a
  simp only at P1 P2
  clear hM
  by_cases hb : s.2 = 0
  · simp only [if_pos hb] at P1 P2
    clear hb
    go_enter Try.func8, Try.ntmps8
    go_wp2_with fail
    refine P1.out.mono ?_
    rintro e w1 ⟨u, ⟨rfl, hu⟩, b1⟩
    obtain ⟨ao, cap, rfl, -⟩ := id hu
    have X1 := hid (Blk.new w1 #[.int .u8 op, .int .i64 A, .int .i64 B, .slice ao xs.length cap] 90 _ rfl)
    have B1 := hid (b1.alloc b1.size (.cells #[.int .u8 op, .int .i64 A, .int .i64 B, .slice ao xs.length cap] 90))
    have U1 := hid (L1.below hu ((Below.refl _ _).alloc (Nat.le_refl _) (.cells #[.int .u8 op, .int .i64 A, .int .i64 B, .slice ao xs.length cap] 90)))
    clear b1 hu
    go_wp2_with fail
    refine (P2.out _ B1.out).mono ?_
    rintro e w2 ⟨u, ⟨rfl, hu⟩, b2⟩
    obtain ⟨ao', cap', rfl, -⟩ := id hu
    have X2 := hid ((X1.out.below b2).alloc (.cells #[.int .u8 op, .int .i64 A, .int .i64 B, .slice ao' xs.length cap'] 90))
    have Y2 := hid (Blk.new w2 #[.int .u8 op, .int .i64 A, .int .i64 B, .slice ao' xs.length cap'] 90 _ rfl)
    have B2 := hid ((B1.out.trans (b2.mono B1.out.size)).alloc (Nat.le_trans B1.out.size b2.size) (.cells #[.int .u8 op, .int .i64 A, .int .i64 B, .slice ao' xs.length cap'] 90))
    have HS := hid (sameIns_any op A B _ _ xs _ (L1.below (L1.below U1.out b2) ((Below.refl _ _).alloc (Nat.le_refl _) (.cells #[.int .u8 op, .int .i64 A, .int .i64 B, .slice ao' xs.length cap'] 90))) (L1.below hu ((Below.refl _ _).alloc (Nat.le_refl _) (.cells #[.int .u8 op, .int .i64 A, .int .i64 B, .slice ao' xs.length cap'] 90))))
    clear b2 hu
    have x0 := X2.out.cell (i := 0) rfl
    have x1 := X2.out.cell (i := 1) rfl
    have x2 := X2.out.cell (i := 2) rfl
    have x3 := X2.out.cell (i := 3) rfl
    have y0 := Y2.out.cell (i := 0) rfl
    have y1 := Y2.out.cell (i := 1) rfl
    have y2 := Y2.out.cell (i := 2) rfl
    have y3 := Y2.out.cell (i := 3) rfl
    go_wp2_with fail
    refine HS.out.mono ?_
    rintro e w3 ⟨rfl, b3⟩
    have B3 := hid (B2.out.trans (b3.mono B2.out.size))
    clear b3 x0 x1 x2 x3 y0 y1 y2 y3
    go_wp2_with fail
    go_ret
    exact ⟨rfl, B3.out⟩
  · simp only [if_neg hb] at P1 P2
    clear hb
    have hn : ∀ wx, Ints wx .i64 (.slice none 0 0) [] := fun wx => ⟨none, 0, rfl, by simp, by simp, by simp, .inl rfl⟩
    have HN := hid hn
    clear hn
    go_enter Try.func8, Try.ntmps8
    go_wp2_with fail
    refine P1.out.mono ?_
    rintro e w1 ⟨u, rfl, b1⟩
    have X1 := hid (Blk.new w1 #[.int .u8 0, .int .i64 0, .int .i64 0, .slice none 0 0] 90 _ rfl)
    have B1 := hid (b1.alloc b1.size (.cells #[.int .u8 0, .int .i64 0, .int .i64 0, .slice none 0 0] 90))
    clear b1
    go_wp2_with fail
    refine (P2.out _ B1.out).mono ?_
    rintro e w2 ⟨u, rfl, b2⟩
    have X2 := hid ((X1.out.below b2).alloc (.cells #[.int .u8 0, .int .i64 0, .int .i64 0, .slice none 0 0] 90))
    have Y2 := hid (Blk.new w2 #[.int .u8 0, .int .i64 0, .int .i64 0, .slice none 0 0] 90 _ rfl)
    have B2 := hid ((B1.out.trans (b2.mono B1.out.size)).alloc (Nat.le_trans B1.out.size b2.size) (.cells #[.int .u8 0, .int .i64 0, .int .i64 0, .slice none 0 0] 90))
    clear b2
    have x0 := X2.out.cell (i := 0) rfl
    have x1 := X2.out.cell (i := 1) rfl
    have x2 := X2.out.cell (i := 2) rfl
    have x3 := X2.out.cell (i := 3) rfl
    have y0 := Y2.out.cell (i := 0) rfl
    have y1 := Y2.out.cell (i := 1) rfl
    have y2 := Y2.out.cell (i := 2) rfl
    have y3 := Y2.out.cell (i := 3) rfl
    go_wp2_with fail
    refine (sameIns_any 0 0 0 _ _ [] _ (HN.out _) (HN.out _)).mono ?_
    rintro e w3 ⟨rfl, b3⟩
    have B3 := hid (B2.out.trans (b3.mono B2.out.size))
    clear b3 x0 x1 x2 x3 y0 y1 y2 y3
    go_wp2_with fail
    go_ret
    exact ⟨rfl, B3.out⟩
end Go.Proofs.Ytomaiolhaenmhaa
