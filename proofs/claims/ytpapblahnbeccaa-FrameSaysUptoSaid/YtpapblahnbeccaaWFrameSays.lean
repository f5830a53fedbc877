/-
  THE LAW FrameSays: Check, Write and Read are the reference's. Condition: the texts at most 2^20 bytes (the reference's sum keeps 8 cells a byte).
-/
import Derived.Test.YtpapblahnbeccaaFry
import Derived.Test.YtpapblahnbeccaaDecF
import Derived.Laws.StructEq
namespace Go.Proofs.Ytpapblahnbeccaa
open Go.RowKit Go.Lib

def frmOf (x : D_api_Frame) : Frm := ⟨x.1, x.2.1, x.2.2.1, x.2.2.2.1, x.2.2.2.2.1⟩
theorem frm_open {W : World} {v : Value} {x : D_api_Frame} (h : IsAgg (R_api_Frame W) v x) : v = frmV (frmOf x) := by
  obtain ⟨cs, rfl, h⟩ := h
  obtain ⟨_, _, rfl, ⟨rfl, _⟩, _, _, rfl, ⟨rfl, _⟩, _, _, rfl, ⟨rfl, _⟩, _, _, rfl, ⟨rfl, _⟩, _, _, rfl, ⟨rfl, hb⟩, rfl⟩ := h
  rfl
theorem wr_form (f : Frm) : ∃ s n, wrV f = .tuple #[.string s, .int .i64 n] := by
  unfold wrV
  by_cases h : chkFr f = 0
  · rw [if_pos h]; exact ⟨_, _, rfl⟩
  · rw [if_neg h]; exact ⟨_, _, rfl⟩

set_option maxRecDepth 100000 in
theorem eql_frm (a b c d : Int) (s : ByteArray) (w : World) : (binOp .eql 23 (.agg #[.int .i64 a, .int .i64 b, .int .i64 c, .int .i64 d, .string s]) (.agg #[.int .i64 a, .int .i64 b, .int .i64 c, .int .i64 d, .string s])).run Try.prog w = .ok (.bool true) w := by
  have h0 : Try.prog.stoodInHeld 23 = false := by kernel_rfl
  rw [run_eql_struct]
  simp [go_sem, Program.fieldsOf, Try.underlying23, Try.underlying3, Try.underlying9, Op.eqFields, h0]

set_option maxRecDepth 100000 in
set_option maxHeartbeats 8000000 in
theorem law_FrameSays (v0 v1 : Value) (x0 : D_api_Frame) (x1 : ByteArray) (W : World) (i0 : IsAgg (R_api_Frame W) v0 x0) (i1 : IsStr W v1 x1) (hB : b_api_Frame x0 + (x1.size + 1 + 0) ≤ 1048576) :
    Calls Try.prog 3 #[v0, v1] W fun e w' => e = .returned (.bool true) ∧ Below W.heap.size W w' := by
  obtain ⟨rfl, h1⟩ := i1
  obtain rfl := frm_open i0
  clear i0
  generalize frmOf x0 = f at *
  have hx : x1.size ≤ 1048576 := by omega
  have p1 := fun w' => fwrite_any f w'
  have p2 := fun w' => rfwrite_any f w'
  have p3 := fun w' => fread_any x1 w' (by omega)
  have p4 := fun w' => rfread_any x1 w' hx
  have p5 := fun w' => fcheck_any f w'
  have p6 := fun w' => rfcheck_any f w'
  obtain ⟨s1, n1, hs1⟩ := wr_form f
  rw [hs1] at p1 p2
  generalize rdV x1 = r at *
  obtain ⟨⟨ra, rb, rc, rd, re⟩, r2⟩ := r
  generalize chkFr f = c at *
  obtain ⟨fa, fb, fc, fd, fe⟩ := f
  simp only [frmV, rdR] at *
  have P1 := hid p1
  have P2 := hid p2
  have P3 := hid p3
  have P4 := hid p4
  have P5 := hid p5
  have P6 := hid p6
  have E := eql_frm ra rb rc rd re
  have HE := hid E
  clear p1 p2 p3 p4 p5 p6 E hs1 hB h1 hx
  go_enter Try.func3, Try.ntmps3
  go_wp2_with fail
  refine (P1.out _).mono ?_
  rintro e w1 ⟨rfl, b1⟩
  have q := (Blk.new W #[.int .i64 fa, .int .i64 fb, .int .i64 fc, .int .i64 fd, .string fe] 23 _ rfl).below b1
  have q0 := q.cell (i := 0) rfl
  have q1 := q.cell (i := 1) rfl
  have q2 := q.cell (i := 2) rfl
  have q3 := q.cell (i := 3) rfl
  have q4 := q.cell (i := 4) rfl
  have hb1 : Below W.heap.size W w1 := ((Below.refl _ _).alloc (Nat.le_refl _) _).trans (b1.mono (by simp))
  have Q := hid q
  clear q b1
  go_wp2_with fail
  refine (P2.out _).mono ?_
  rintro e w2 ⟨rfl, b2⟩
  have hb2 := hb1.trans (b2.mono hb1.size)
  have Q2 := hid (Q.out.below b2)
  clear q0 q1 q2 q3 q4 b2 hb1
  go_wp2_with fail
  refine (P3.out _).mono ?_
  rintro e w3 ⟨rfl, b3⟩
  have hb3 := hb2.trans (b3.mono hb2.size)
  have Q3 := hid (Q2.out.below b3)
  clear b3 hb2
  go_wp2_with fail
  refine (P4.out _).mono ?_
  rintro e w4 ⟨rfl, b4⟩
  have Q4 := hid ((Q3.out.alloc (.cells #[.int .i64 ra, .int .i64 rb, .int .i64 rc, .int .i64 rd, .string re] 23)).below b4)
  have R4 := hid ((Blk.new w3 #[.int .i64 ra, .int .i64 rb, .int .i64 rc, .int .i64 rd, .string re] 23 _ rfl).below b4)
  have hb4 : Below W.heap.size W w4 := (hb3.alloc hb3.size _).trans (b4.mono (by have := hb3.size; simp; omega))
  clear b4 hb3
  have E := HE.out
  go_wp2_with fail
  have R5 := hid (Blk.new w4 #[.int .i64 ra, .int .i64 rb, .int .i64 rc, .int .i64 rd, .string re] 23 _ rfl)
  generalize hw5 : w4.alloc (.cells #[.int .i64 ra, .int .i64 rb, .int .i64 rc, .int .i64 rd, .string re] 23) = w5 at *
  have Q5 : Hid (Blk w5 W.heap.size 23 [.int .i64 fa, .int .i64 fb, .int .i64 fc, .int .i64 fd, .string fe]) := hid (by rw [← hw5]; exact Q4.out.alloc _)
  have R4' : Hid (Blk w5 w3.heap.size 23 [.int .i64 ra, .int .i64 rb, .int .i64 rc, .int .i64 rd, .string re]) := hid (by rw [← hw5]; exact R4.out.alloc _)
  have HB5 : Hid (Below W.heap.size W w5) := hid (by rw [← hw5]; exact hb4.alloc hb4.size _)
  clear hw5 hb4
  have hD : ∀ w', Below w5.drew.heap.size w5.drew w' → w'.cell? ⟨W.heap.size, 0, none⟩ = some (.int .i64 fa) ∧ w'.cell? ⟨W.heap.size, 1, none⟩ = some (.int .i64 fb) ∧ w'.cell? ⟨W.heap.size, 2, none⟩ = some (.int .i64 fc) ∧ w'.cell? ⟨W.heap.size, 3, none⟩ = some (.int .i64 fd) ∧ w'.cell? ⟨W.heap.size, 4, none⟩ = some (.string fe) ∧ w'.cell? ⟨w3.heap.size, 0, none⟩ = some (.int .i64 ra) ∧ w'.cell? ⟨w3.heap.size, 1, none⟩ = some (.int .i64 rb) ∧ w'.cell? ⟨w3.heap.size, 2, none⟩ = some (.int .i64 rc) ∧ w'.cell? ⟨w3.heap.size, 3, none⟩ = some (.int .i64 rd) ∧ w'.cell? ⟨w3.heap.size, 4, none⟩ = some (.string re) ∧ w'.cell? ⟨w4.heap.size, 0, none⟩ = some (.int .i64 ra) ∧ w'.cell? ⟨w4.heap.size, 1, none⟩ = some (.int .i64 rb) ∧ w'.cell? ⟨w4.heap.size, 2, none⟩ = some (.int .i64 rc) ∧ w'.cell? ⟨w4.heap.size, 3, none⟩ = some (.int .i64 rd) ∧ w'.cell? ⟨w4.heap.size, 4, none⟩ = some (.string re) := by
    intro w' hb
    have hx : Blk w' W.heap.size 23 _ := Q5.out.below ((drew_bel' (n := 1) (Below.refl _ _)).trans hb)
    have hy : Blk w' w3.heap.size 23 _ := R4'.out.below ((drew_bel' (n := 1) (Below.refl _ _)).trans hb)
    have hz : Blk w' w4.heap.size 23 _ := R5.out.below ((drew_bel' (n := 1) (Below.refl _ _)).trans hb)
    exact ⟨hx.cell rfl, hx.cell rfl, hx.cell rfl, hx.cell rfl, hx.cell rfl, hy.cell rfl, hy.cell rfl, hy.cell rfl, hy.cell rfl, hy.cell rfl, hz.cell rfl, hz.cell rfl, hz.cell rfl, hz.cell rfl, hz.cell rfl⟩
  have HD := hid hD
  have D0 := hid (Below.refl w5.drew.heap.size w5.drew)
  clear hD
  go_region_held3 (fun w' => w'.cell? ⟨W.heap.size, 0, none⟩ = some (.int .i64 fa) ∧ w'.cell? ⟨W.heap.size, 1, none⟩ = some (.int .i64 fb) ∧ w'.cell? ⟨W.heap.size, 2, none⟩ = some (.int .i64 fc) ∧ w'.cell? ⟨W.heap.size, 3, none⟩ = some (.int .i64 fd) ∧ w'.cell? ⟨W.heap.size, 4, none⟩ = some (.string fe) ∧ w'.cell? ⟨w3.heap.size, 0, none⟩ = some (.int .i64 ra) ∧ w'.cell? ⟨w3.heap.size, 1, none⟩ = some (.int .i64 rb) ∧ w'.cell? ⟨w3.heap.size, 2, none⟩ = some (.int .i64 rc) ∧ w'.cell? ⟨w3.heap.size, 3, none⟩ = some (.int .i64 rd) ∧ w'.cell? ⟨w3.heap.size, 4, none⟩ = some (.string re) ∧ w'.cell? ⟨w4.heap.size, 0, none⟩ = some (.int .i64 ra) ∧ w'.cell? ⟨w4.heap.size, 1, none⟩ = some (.int .i64 rb) ∧ w'.cell? ⟨w4.heap.size, 2, none⟩ = some (.int .i64 rc) ∧ w'.cell? ⟨w4.heap.size, 3, none⟩ = some (.int .i64 rd) ∧ w'.cell? ⟨w4.heap.size, 4, none⟩ = some (.string re)) (exact HD.out _ D0.out) (first | (go_at_call 17; ((with_reducible refine (P5.out _).mono ?_); rintro e w2 ⟨rfl, hb⟩; have D0 := hid (D0.out.trans (hb.mono D0.out.size)); clear hb)) | (go_at_call 18; ((with_reducible refine (P6.out _).mono ?_); rintro e w2 ⟨rfl, hb⟩; have D0 := hid (D0.out.trans (hb.mono D0.out.size)); clear hb)))
  all_goals
    go_wp2_with fail
    go_ret
    exact ⟨rfl, (drew_bel' (n := 1) HB5.out).trans (D0.out.mono HB5.out.size)⟩
end Go.Proofs.Ytpapblahnbeccaa
