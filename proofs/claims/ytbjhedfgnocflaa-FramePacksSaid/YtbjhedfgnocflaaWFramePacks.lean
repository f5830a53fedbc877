/-
  THE LAW FramePacks: Pack and Unpack are the reference's, for all arguments. No condition.
-/
import Derived.Test.YtbjhedfgnocflaaUnr
import Derived.Test.YtbjhedfgnocflaaDecA
import Derived.Laws.StructEq
namespace Go.Proofs.Ytbjhedfgnocflaa
open Go.RowKit Go.Lib

def sigOf (x : D_api_Signal) : Sig := ⟨x.1, x.2.1.1, x.2.1.2.1, x.2.2.1.1, x.2.2.1.2.1, x.2.2.2.1, x.2.2.2.2.1, x.2.2.2.2.2.1, x.2.2.2.2.2.2.1⟩
theorem sig_open {W : World} {v : Value} {x : D_api_Signal} (h : IsAgg (R_api_Signal W) v x) : v = sigV (sigOf x) ∧ (sigOf x).body.size ≤ 140737488351232 := by
  obtain ⟨cs, rfl, h⟩ := h
  obtain ⟨_, _, rfl, ⟨rfl, _⟩, _, _, rfl, ⟨_, _, rfl, ⟨rfl, _⟩, _, _, rfl, ⟨rfl, _⟩, rfl⟩, _, _, rfl, ⟨_, _, rfl, ⟨rfl, _⟩, _, _, rfl, ⟨rfl, _⟩, rfl⟩, _, _, rfl, ⟨rfl, _⟩, _, _, rfl, ⟨rfl, _⟩, _, _, rfl, ⟨rfl, _⟩, _, _, rfl, ⟨rfl, hb⟩, rfl⟩ := h
  exact ⟨rfl, hb⟩

set_option maxRecDepth 100000 in
theorem eql_sig (k fn fm tn tm r y g : Int) (b : ByteArray) (w : World) : (binOp .eql 40 (.agg #[.int .i64 k, .int .i64 fn, .int .i64 fm, .int .i64 tn, .int .i64 tm, .int .i64 r, .int .i64 y, .int .i64 g, .string b]) (.agg #[.int .i64 k, .int .i64 fn, .int .i64 fm, .int .i64 tn, .int .i64 tm, .int .i64 r, .int .i64 y, .int .i64 g, .string b])).run Try.prog w = .ok (.bool true) w := by
  have h0 : Try.prog.stoodInHeld 40 = false := by kernel_rfl
  have h1 : Try.prog.stoodInHeld 38 = false := by kernel_rfl
  rw [run_eql_struct]
  simp [go_sem, Program.fieldsOf, Try.underlying40, Try.underlying38, Try.underlying3, Try.underlying22, Try.underlying9, Op.eqFields, h0, h1]

set_option maxRecDepth 100000 in
set_option maxHeartbeats 2000000 in
theorem law_FramePacks (v0 v1 : Value) (x0 : D_api_Signal) (x1 : ByteArray) (W : World) (i0 : IsAgg (R_api_Signal W) v0 x0) (i1 : IsStr W v1 x1) :
    Calls Try.prog 7 #[v0, v1] W fun e w' => e = .returned (.bool true) ∧ Below W.heap.size W w' := by
  obtain ⟨rfl, h1⟩ := i1
  obtain ⟨rfl, h0⟩ := sig_open i0
  clear i0
  generalize sigOf x0 = s at *
  have p1 := fun w' => pack_any s w' h0
  have p2 := fun w' => refPack_any s w' h0
  have p3 := fun w' => unpack_any x1 w'
  have p4 := fun w' => refUnpack_any x1 w' h1
  generalize packF s = r at *
  generalize unpF x1 = u at *
  obtain ⟨r1, r2⟩ := r
  obtain ⟨⟨k, fn, fm, tn, tm, rr, y, g, b⟩, u2⟩ := u
  obtain ⟨k', fn', fm', tn', tm', rr', y', g', b'⟩ := s
  simp only [sigV] at *
  have P1 := hid p1
  have P2 := hid p2
  have P3 := hid p3
  have P4 := hid p4
  have E := eql_sig k fn fm tn tm rr y g b
  have HE := hid E
  clear p1 p2 p3 p4 E h0 h1
  go_enter Try.func7, Try.ntmps7
  go_wp2_with fail
  refine (P1.out _).mono ?_
  rintro e w1 ⟨rfl, b1⟩
  have q := (Blk.new W #[.int .i64 k', .int .i64 fn', .int .i64 fm', .int .i64 tn', .int .i64 tm', .int .i64 rr', .int .i64 y', .int .i64 g', .string b'] 40 _ rfl).below b1
  have q0 := q.cell (i := 0) rfl
  have q1 := q.cell (i := 1) rfl
  have q2 := q.cell (i := 2) rfl
  have q3 := q.cell (i := 3) rfl
  have q4 := q.cell (i := 4) rfl
  have q5 := q.cell (i := 5) rfl
  have q6 := q.cell (i := 6) rfl
  have q7 := q.cell (i := 7) rfl
  have q8 := q.cell (i := 8) rfl
  have hb1 : Below W.heap.size W w1 := ((Below.refl _ _).alloc (Nat.le_refl _) _).trans (b1.mono (by simp))
  clear q b1
  go_wp2_with fail
  refine (P2.out _).mono ?_
  rintro e w2 ⟨rfl, b2⟩
  have hb2 := hb1.trans (b2.mono hb1.size)
  clear q0 q1 q2 q3 q4 q5 q6 q7 q8 b2 hb1
  go_wp2_with fail
  refine (P3.out _).mono ?_
  rintro e w3 ⟨rfl, b3⟩
  have hb3 := hb2.trans (b3.mono hb2.size)
  clear b3 hb2
  go_wp2_with fail
  refine (P4.out _).mono ?_
  rintro e w4 ⟨rfl, b4⟩
  have q := (Blk.new w3 #[.int .i64 k, .int .i64 fn, .int .i64 fm, .int .i64 tn, .int .i64 tm, .int .i64 rr, .int .i64 y, .int .i64 g, .string b] 40 _ rfl).below b4
  have q0 := fun o => (q.alloc o).cell (i := 0) rfl
  have q1 := fun o => (q.alloc o).cell (i := 1) rfl
  have q2 := fun o => (q.alloc o).cell (i := 2) rfl
  have q3 := fun o => (q.alloc o).cell (i := 3) rfl
  have q4 := fun o => (q.alloc o).cell (i := 4) rfl
  have q5 := fun o => (q.alloc o).cell (i := 5) rfl
  have q6 := fun o => (q.alloc o).cell (i := 6) rfl
  have q7 := fun o => (q.alloc o).cell (i := 7) rfl
  have q8 := fun o => (q.alloc o).cell (i := 8) rfl
  have hb4 : Below W.heap.size W w4 := (hb3.alloc hb3.size _).trans (b4.mono (by have := hb3.size; simp; omega))
  clear q b4
  have E := HE.out
  go_wp2_with fail
  go_ret
  exact ⟨rfl, hb4.alloc hb4.size _⟩
end Go.Proofs.Ytbjhedfgnocflaa
