/-
  THE LAW HostReads: Read is the reference's. No condition.
-/
import Derived.Test.YtpapblahnbeccaaHrf
import Derived.Test.YtpapblahnbeccaaDecR
import Derived.Test.YtpapblahnbeccaaLawK
import Derived.Laws.StructEq
namespace Go.Proofs.Ytpapblahnbeccaa
open Go.RowKit Go.Lib

theorem flat_one' {α : Type} (f : α → Value) (l : List α) : l.flatMap (fun x => [f x]) = l.map f := by
  induction l with
  | nil => rfl
  | cons a r ih => rw [List.flatMap_cons, List.map_cons, ih]; rfl
theorem ints_of' {W : World} {v : Value} {zs : List Int} (h : sliceR W 1 8 (intR .i64) [v] zs) : Ints W .i64 v zs ∧ ∀ z ∈ zs, -9223372036854775808 ≤ z ∧ z ≤ 9223372036854775807 := by
  obtain ⟨h1, h2, _⟩ := slice_flat (fun n => [Value.int .i64 n]) (fun n => -9223372036854775808 ≤ n ∧ n ≤ 9223372036854775807) (fun cs y h => ⟨h.1, wf_i64 h.2⟩) h
  refine ⟨?_, h2⟩
  unfold Lk at h1
  rw [flat_one'] at h1
  exact h1
set_option maxRecDepth 100000 in
theorem eql_wish (a b c d e f : Int) (s : ByteArray) (w : World) : (binOp .eql 142 (.agg #[.int .i64 a, .int .i64 b, .int .i64 c, .int .i64 d, .int .i64 e, .int .i64 f, .string s]) (.agg #[.int .i64 a, .int .i64 b, .int .i64 c, .int .i64 d, .int .i64 e, .int .i64 f, .string s])).run Try.prog w = .ok (.bool true) w := by
  have h0 : Try.prog.stoodInHeld 142 = false := by kernel_rfl
  have h1 : Try.prog.stoodInHeld 98 = false := by kernel_rfl
  rw [run_eql_struct]
  simp [go_sem, Program.fieldsOf, Try.underlying142, Try.underlying98, Try.underlying3, Try.underlying2, Try.underlying9, Op.eqFields, h0, h1]
def WF (v : Value) : Prop := ∃ r0 r1 r2 r3 r4 r5 r6 er, v = .tuple #[.agg #[.int .i64 r0, .int .i64 r1, .int .i64 r2, .int .i64 r3, .int .i64 r4, .int .i64 r5, .string r6], .int .i64 er]
theorem wf_key (r0 r1 r2 r3 r4 r5 : Int) (r6 : ByteArray) (er : Int) : WF (wshR (wsh r0 r1 r2 r3 r4 r5 r6) er) := ⟨_, _, _, _, _, _, _, _, rfl⟩
theorem wf_ite {c : Prop} [Decidable c] {a b : Value} (ha : WF a) (hb : WF b) : WF (if c then a else b) := by split <;> assumption
theorem hrdV_form (k : Int) (vs : List Int) (mem : ByteArray) : WF (hrdV k vs mem) := by
  unfold hrdV bodyV sendV takeV zeroW
  repeat' (first | exact wf_key _ _ _ _ _ _ _ _ | refine wf_ite ?_ ?_)

set_option maxRecDepth 100000 in
set_option maxHeartbeats 2000000 in
theorem law_HostReads (v0 v1 v2 : Value) (x0 : ByteArray) (x1 : D_s_int64) (x2 : ByteArray) (W : World) (i0 : IsStr W v0 x0) (i1 : R_s_int64 W [v1] x1) (i2 : IsStr W v2 x2) :
    Calls Try.prog 12 #[v0, v1, v2] W fun e w' => e = .returned (.bool true) ∧ Below W.heap.size W w' := by
  obtain ⟨rfl, h1⟩ := i0
  obtain ⟨rfl, h2⟩ := i2
  obtain ⟨hi, hb⟩ := ints_of' i1
  clear i1
  obtain ⟨aov, capv, rfl, -⟩ := id hi
  obtain ⟨r0, r1, r2, r3, r4, r5, r6, er, hr⟩ := hrdV_form (kindN x0.toList) x1 x2
  have P1 := hid (hread_any x0 x2 _ x1 W hi hb h2)
  have P2 := hid (fun w' (h : Below W.heap.size W w') => rhread_any x0 x2 _ x1 w' (L1.below hi h) hb h2)
  rw [hr] at P1 P2
  have HE := hid (eql_wish r0 r1 r2 r3 r4 r5 r6)
  clear hr hi hb
  go_enter Try.func12, Try.ntmps12
  go_wp2_with fail
  refine P1.out.mono ?_
  rintro e w1 ⟨rfl, b1⟩
  have X1 := hid (Blk.new w1 #[.int .i64 r0, .int .i64 r1, .int .i64 r2, .int .i64 r3, .int .i64 r4, .int .i64 r5, .string r6] 142 _ rfl)
  have B1 := hid (b1.alloc b1.size (.cells #[.int .i64 r0, .int .i64 r1, .int .i64 r2, .int .i64 r3, .int .i64 r4, .int .i64 r5, .string r6] 142))
  clear b1
  go_wp2_with fail
  refine (P2.out _ B1.out).mono ?_
  rintro e w2 ⟨rfl, b2⟩
  have X2 := hid ((X1.out.below b2).alloc (.cells #[.int .i64 r0, .int .i64 r1, .int .i64 r2, .int .i64 r3, .int .i64 r4, .int .i64 r5, .string r6] 142))
  have B2 := hid ((B1.out.trans (b2.mono B1.out.size)).alloc (Nat.le_trans B1.out.size b2.size) (.cells #[.int .i64 r0, .int .i64 r1, .int .i64 r2, .int .i64 r3, .int .i64 r4, .int .i64 r5, .string r6] 142))
  clear b2
  have x0 := X2.out.cell (i := 0) rfl
  have x1 := X2.out.cell (i := 1) rfl
  have x2 := X2.out.cell (i := 2) rfl
  have x3 := X2.out.cell (i := 3) rfl
  have x4 := X2.out.cell (i := 4) rfl
  have x5 := X2.out.cell (i := 5) rfl
  have x6 := X2.out.cell (i := 6) rfl
  have E := HE.out
  go_wp2_with fail
  go_ret
  exact ⟨rfl, B2.out⟩
end Go.Proofs.Ytpapblahnbeccaa
