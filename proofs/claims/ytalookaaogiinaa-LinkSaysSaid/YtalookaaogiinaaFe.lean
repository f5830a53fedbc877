/-
  SLICES OF troupe/api.Frame: copies, deletions, comparison. Conditions: lengths in the form's reach. Printed by a program of mine.
-/
import Derived.Test.YtalookaaogiinaaRowK
import Derived.Test.YtalookaaogiinaaEqs
import Derived.StillTailTactics
namespace Go.Proofs.Ytalookaaogiinaa
open Go.RowKit Go.Lib

structure Fe where
  fr : Int
  to : Int
  seq : Int
  ack : Int
  body : ByteArray
deriving DecidableEq
def encFe (x : Fe) : List Value := [.int .i64 x.fr, .int .i64 x.to, .int .i64 x.seq, .int .i64 x.ack, .string x.body]
theorem encFe_len (x : Fe) : (encFe x).length = 5 := rfl
theorem encFe_one (xs : List Fe) : ∀ c ∈ xs.flatMap encFe, c.oneCell' = true := by
  intro c hc
  obtain ⟨x, _, hx⟩ := List.mem_flatMap.1 hc
  simp only [encFe, List.mem_cons, List.not_mem_nil, or_false] at hx
  rcases hx with rfl | rfl | rfl | rfl | rfl <;> rfl
theorem info_Fe : (Try.prog.info? 31).map (fun i => (i.zero, i.size, i.bytes)) = some (some (.agg #[.int .i64 0, .int .i64 0, .int .i64 0, .int .i64 0, .string ByteArray.empty]), 5, 48) := by kernel_rfl
theorem elem_Fe : Elem Try.prog 37 31 (.agg #[.int .i64 0, .int .i64 0, .int .i64 0, .int .i64 0, .string ByteArray.empty]) 5 48 := ⟨Try.underlying37, info_Fe, rfl, by decide⟩

set_option maxRecDepth 100000 in
theorem cmp_Fe (a b : Fe) (w : World) : (Op.equalIn 10000 31 (.agg #[.int .i64 a.fr, .int .i64 a.to, .int .i64 a.seq, .int .i64 a.ack, .string a.body]) (.agg #[.int .i64 b.fr, .int .i64 b.to, .int .i64 b.seq, .int .i64 b.ack, .string b.body])).run Try.prog w = .ok (decide (a = b)) w := by
  have h0 : Try.prog.stoodInHeld 31 = false := by kernel_rfl
  obtain ⟨a0, a1, a2, a3, a4⟩ := a
  obtain ⟨b0, b1, b2, b3, b4⟩ := b
  simp [go_sem, Program.fieldsOf, Try.underlying31, Try.underlying3, Try.underlying9, Op.eqFields, toList_inj, h0]
  repeat' split
  all_goals simp_all
theorem neq_Fe (a b : Fe) (w : World) : (binOp .neq 31 (.agg #[.int .i64 a.fr, .int .i64 a.to, .int .i64 a.seq, .int .i64 a.ack, .string a.body]) (.agg #[.int .i64 b.fr, .int .i64 b.to, .int .i64 b.seq, .int .i64 b.ack, .string b.body])).run Try.prog w = .ok (.bool (!decide (a = b))) w := by
  rw [run_neq_struct, cmp_Fe]; rfl
theorem eql_Fe (a b : Fe) (w : World) : (binOp .eql 31 (.agg #[.int .i64 a.fr, .int .i64 a.to, .int .i64 a.seq, .int .i64 a.ack, .string a.body]) (.agg #[.int .i64 b.fr, .int .i64 b.to, .int .i64 b.seq, .int .i64 b.ack, .string b.body])).run Try.prog w = .ok (.bool (decide (a = b))) w := by
  rw [run_eql_struct, cmp_Fe]; rfl

set_option maxRecDepth 100000 in
set_option maxHeartbeats 1000000 in
theorem eq_Fe (va vb : Value) (xs ys : List Fe) (w : World) (ha : Lk encFe w va xs) (hb : Lk encFe w vb ys) :
    Calls Try.prog 12 #[va, vb] w fun e w' => e = .returned (.bool (decide (xs = ys))) ∧ Below w.heap.size w w' := by
  by_cases hl : xs.length = ys.length
  · rcases ha.open encFe_len (by decide) with ⟨ao, cap, rfl, rfl, _⟩ | ⟨b, off, cap, rfl, h0, hcap, hm, hc⟩
    · obtain rfl : ys = [] := by cases ys <;> simp_all
      obtain ⟨ao', cap', rfl, _, _, _, _⟩ := hb
      clear hl ha
      go_enter Try.func12, Try.ntmps12
      go_wp2
      refine wp_loop_rounds 1 ?_; rw [rounds_succ]; go_wp2
      go_ret
      exact ⟨by simp, Below.refl _ _⟩
    · rcases hb.open encFe_len (by decide) with ⟨ao', cap', rfl, rfl, _⟩ | ⟨b', off', cap', rfl, h0', hcap', hm', hc'⟩
      · simp at hl; simp [hl] at h0
      have HA := hid ha
      have HB := hid hb
      clear ha hb hc hc'
      have H := hid hl
      have hne : ((xs.length : Int) != ys.length) = false := by simp [hl]
      clear hl
      go_enter Try.func12, Try.ntmps12
      go_wp2
      go_loopw [14] (fun i wr => ∃ k : Nat, k ≤ xs.length ∧ i = .int .i64 k ∧ Below w.heap.size w wr ∧ Hid (xs = ys ↔ xs.drop k = ys.drop k)) (fun i _ => xs.length - (intOf i).toNat)
      case atStart => exact ⟨0, Nat.zero_le _, rfl, Below.refl _ _, by simp [Hid]⟩
      case round =>
        obtain ⟨k, hk, rfl, hbel, hq⟩ := hrel
        by_cases hlt : k < xs.length
        · have hlt' : k < ys.length := by have := H.out; omega
          obtain ⟨_, _, _, hc⟩ := lk_cells (Lk.below HA.out hbel) encFe_len (by decide) h0
          obtain ⟨_, _, _, hc'⟩ := lk_cells (Lk.below HB.out hbel) encFe_len (by decide) h0'
          have hx0 := hc k hlt 0 (by decide); have hx1 := hc k hlt 1 (by decide); have hx2 := hc k hlt 2 (by decide); have hx3 := hc k hlt 3 (by decide); have hx4 := hc k hlt 4 (by decide)
          have hy0 := hc' k hlt' 0 (by decide); have hy1 := hc' k hlt' 1 (by decide); have hy2 := hc' k hlt' 2 (by decide); have hy3 := hc' k hlt' 3 (by decide); have hy4 := hc' k hlt' 4 (by decide)
          clear hc hc'
          rw [show (encFe xs[k])[0]? = some (.int .i64 xs[k].fr) from rfl] at hx0; rw [show (encFe xs[k])[1]? = some (.int .i64 xs[k].to) from rfl] at hx1; rw [show (encFe xs[k])[2]? = some (.int .i64 xs[k].seq) from rfl] at hx2; rw [show (encFe xs[k])[3]? = some (.int .i64 xs[k].ack) from rfl] at hx3; rw [show (encFe xs[k])[4]? = some (.string xs[k].body) from rfl] at hx4
          rw [show (encFe ys[k])[0]? = some (.int .i64 ys[k].fr) from rfl] at hy0; rw [show (encFe ys[k])[1]? = some (.int .i64 ys[k].to) from rfl] at hy1; rw [show (encFe ys[k])[2]? = some (.int .i64 ys[k].seq) from rfl] at hy2; rw [show (encFe ys[k])[3]? = some (.int .i64 ys[k].ack) from rfl] at hy3; rw [show (encFe ys[k])[4]? = some (.string ys[k].body) from rfl] at hy4
          rw [Nat.add_zero] at hx0 hy0
          have nn0 := fun o => cell_alloc o hy0; have nn1 := fun o => cell_alloc o hy1; have nn2 := fun o => cell_alloc o hy2; have nn3 := fun o => cell_alloc o hy3; have nn4 := fun o => cell_alloc o hy4
          go_wp2_with fail
          have hcmp := fun wx => neq_Fe xs[k] ys[k] wx
          have hbz := hbel.size
          by_cases hxy : xs[k] = ys[k]
          · have hon := eq_on (hk := hlt) (hk' := hlt') hq (by simp [hxy])
            rw [decide_eq_true hxy, show (!true) = false from rfl] at hcmp
            have HCMP := hid hcmp
            clear hcmp hxy hq
            go_wp2_with fail
            have hcmp := HCMP.out
            go_quiet (fail)
            go_wp2_with fail
            go_roundw
            case rel => exact ⟨k + 1, by omega, by go_num, drew_bel' (hbel.alloc hbz _), hon⟩
            case measure => simp [intOf]; omega
          · have hon := hid (eq_no (hk := hlt) (hk' := hlt') hq (by simpa using hxy))
            rw [decide_eq_false hxy, show (!false) = true from rfl] at hcmp
            have HCMP := hid hcmp
            clear hcmp hxy hq
            go_wp2_with fail
            have hcmp := HCMP.out
            go_quiet (fail)
            go_wp2_with fail
            go_ret
            exact ⟨retB (by simp [hon.out]), drew_bel' (hbel.alloc hbz _)⟩
        · go_wp2
          go_ret
          exact ⟨retB (by simp [eq_end hq H.out hlt]), hbel⟩
  · have hne : ((xs.length : Int) != ys.length) = true := by simp; omega
    have hxy : xs ≠ ys := fun e => hl (by rw [e])
    obtain ⟨ao, cap, rfl, _, _, _, _⟩ := ha
    obtain ⟨ao', cap', rfl, _, _, _, _⟩ := hb
    go_enter Try.func12, Try.ntmps12
    go_wp2
    go_ret
    exact ⟨retB (by simp [hxy]), Below.refl _ _⟩

end Go.Proofs.Ytalookaaogiinaa
