/-
  THE LAW ShotReads: Read is the reference's. No condition.
-/
import Derived.Test.YtpapblahnbeccaaRea
import Derived.Test.YtpapblahnbeccaaReb
import Derived.Test.YtpapblahnbeccaaSmI
import Derived.Test.YtpapblahnbeccaaLawK
namespace Go.Proofs.Ytpapblahnbeccaa
open Go.RowKit Go.Lib

set_option maxRecDepth 100000 in
set_option maxHeartbeats 2000000 in
theorem law_ShotReads (v0 : Value) (x0 : ByteArray) (W : World) (i0 : IsStr W v0 x0) :
    Calls Try.prog 9 #[v0] W fun e w' => e = .returned (.bool true) ∧ Below W.heap.size W w' := by
  obtain ⟨rfl, h0⟩ := i0
  have R1 := hid (read_any W x0 h0)
  have R2 := hid (fun w' => rread_any w' x0 h0)
  unfold ReadP at R1 R2
  generalize readM x0 = q at *
  go_enter Try.func9, Try.ntmps9
  go_wp2_with fail
  refine R1.out.mono ?_
  rintro e w1 ⟨vt, vg, vc, rfl, t1, g1, c1, b1⟩
  obtain ⟨aot, capt, rfl, -⟩ := id t1
  obtain ⟨aog, capg, rfl, -⟩ := id g1
  obtain ⟨css, -, ⟨aoc, capc, rfl, -⟩, -⟩ := id c1
  have hw2 : Below w1.heap.size w1 ((w1.alloc (.cells #[.string q.1.mem, .slice aot q.1.tab.length capt, .slice aog q.1.glob.length capg] 114)).alloc (.cells #[.slice aoc q.1.calls.length capc, .int .i64 q.1.host] 117)) := ((Below.refl _ _).alloc (Nat.le_refl _) _).alloc (by simp) _
  have X3 := hid ((Blk.new w1 #[.string q.1.mem, .slice aot q.1.tab.length capt, .slice aog q.1.glob.length capg] 114 _ rfl).alloc (.cells #[.slice aoc q.1.calls.length capc, .int .i64 q.1.host] 117))
  have X4 := hid (Blk.new (w1.alloc (.cells #[.string q.1.mem, .slice aot q.1.tab.length capt, .slice aog q.1.glob.length capg] 114)) #[.slice aoc q.1.calls.length capc, .int .i64 q.1.host] 117 (w1.heap.size + 1) (by simp))
  have T1 := hid (L1.below t1 hw2)
  have G1 := hid (L1.below g1 hw2)
  have C1 := hid (c1.below hw2)
  have B1 := hid (b1.trans (hw2.mono b1.size))
  clear t1 g1 c1 b1 hw2
  go_wp2_with fail
  refine (R2.out _).mono ?_
  rintro e w2 ⟨ut, ug, uc, rfl, t2, g2, c2, b2⟩
  obtain ⟨aot2, capt2, rfl, -⟩ := id t2
  obtain ⟨aog2, capg2, rfl, -⟩ := id g2
  obtain ⟨css2, -, ⟨aoc2, capc2, rfl, -⟩, -⟩ := id c2
  have hw3 : Below w2.heap.size w2 ((w2.alloc (.cells #[.string q.1.mem, .slice aot2 q.1.tab.length capt2, .slice aog2 q.1.glob.length capg2] 114)).alloc (.cells #[.slice aoc2 q.1.calls.length capc2, .int .i64 q.1.host] 117)) := ((Below.refl _ _).alloc (Nat.le_refl _) _).alloc (by simp) _
  have X5 := hid ((Blk.new w2 #[.string q.1.mem, .slice aot2 q.1.tab.length capt2, .slice aog2 q.1.glob.length capg2] 114 _ rfl).alloc (.cells #[.slice aoc2 q.1.calls.length capc2, .int .i64 q.1.host] 117))
  have X6 := hid (Blk.new (w2.alloc (.cells #[.string q.1.mem, .slice aot2 q.1.tab.length capt2, .slice aog2 q.1.glob.length capg2] 114)) #[.slice aoc2 q.1.calls.length capc2, .int .i64 q.1.host] 117 (w2.heap.size + 1) (by simp))
  have X3 := hid ((X3.out.below b2).below hw3)
  have X4 := hid ((X4.out.below b2).below hw3)
  have T1 := hid (L1.below (L1.below T1.out b2) hw3)
  have G1 := hid (L1.below (L1.below G1.out b2) hw3)
  have C1 := hid ((C1.out.below b2).below hw3)
  have T2 := hid (L1.below t2 hw3)
  have G2 := hid (L1.below g2 hw3)
  have C2 := hid (c2.below hw3)
  have B2 := hid ((B1.out.trans (b2.mono B1.out.size)).trans (hw3.mono (Nat.le_trans B1.out.size b2.size)))
  clear t2 g2 c2 b2 hw3
  have E1 := hid (sameImage_any _ q.1.mem _ _ _ _ q.1.tab q.1.glob T1.out G1.out T2.out G2.out)
  have x0 := X3.out.cell (i := 0) rfl
  have x1 := X3.out.cell (i := 1) rfl
  have x2 := X3.out.cell (i := 2) rfl
  have y0 := X5.out.cell (i := 0) rfl
  have y1 := X5.out.cell (i := 1) rfl
  have y2 := X5.out.cell (i := 2) rfl
  go_wp2_with fail
  refine E1.out.mono ?_
  rintro e w3 ⟨rfl, b3⟩
  have E2 := hid (sameState_any w3 _ _ q.1.host q.1.calls (C1.out.below b3) (C2.out.below b3))
  have x0 := (X4.out.below b3).cell (i := 0) rfl
  have x1 := (X4.out.below b3).cell (i := 1) rfl
  have y0 := (X6.out.below b3).cell (i := 0) rfl
  have y1 := (X6.out.below b3).cell (i := 1) rfl
  have B3 := hid (B2.out.trans (b3.mono B2.out.size))
  clear b3
  go_wp2_with fail
  refine E2.out.mono ?_
  rintro e w4 ⟨rfl, b4⟩
  have B4 := hid (B3.out.trans (b4.mono B3.out.size))
  clear b4
  go_wp2_with fail
  go_ret
  exact ⟨rfl, B4.out⟩
end Go.Proofs.Ytpapblahnbeccaa
