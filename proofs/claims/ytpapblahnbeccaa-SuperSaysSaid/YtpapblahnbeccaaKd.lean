/-
  SLICES OF troupe/api.Kid: copies, deletions, comparison. Conditions: lengths in the form's reach. Printed by a program of mine.
-/
import Derived.Test.YtpapblahnbeccaaRowK
import Derived.Test.YtpapblahnbeccaaEqs
import Derived.StillTailTactics
namespace Go.Proofs.Ytpapblahnbeccaa
open Go.RowKit Go.Lib

structure Kd where
  runs : Bool
  keep : Bool
deriving DecidableEq
def encKd (x : Kd) : List Value := [.bool x.runs, .bool x.keep]
theorem encKd_len (x : Kd) : (encKd x).length = 2 := rfl
theorem encKd_one (xs : List Kd) : ∀ c ∈ xs.flatMap encKd, c.oneCell' = true := by
  intro c hc
  obtain ⟨x, _, hx⟩ := List.mem_flatMap.1 hc
  simp only [encKd, List.mem_cons, List.not_mem_nil, or_false] at hx
  rcases hx with rfl | rfl <;> rfl
theorem info_Kd : (Try.prog.info? 74).map (fun i => (i.zero, i.size, i.bytes)) = some (some (.agg #[.bool false, .bool false]), 2, 2) := by kernel_rfl
theorem elem_Kd : Elem Try.prog 75 74 (.agg #[.bool false, .bool false]) 2 2 := ⟨Try.underlying75, info_Kd, rfl, by decide⟩

set_option maxRecDepth 100000 in
theorem cmp_Kd (a b : Kd) (w : World) : (Op.equalIn 10000 74 (.agg #[.bool a.runs, .bool a.keep]) (.agg #[.bool b.runs, .bool b.keep])).run Try.prog w = .ok (decide (a = b)) w := by
  have h0 : Try.prog.stoodInHeld 74 = false := by kernel_rfl
  obtain ⟨a0, a1⟩ := a
  obtain ⟨b0, b1⟩ := b
  simp [go_sem, Program.fieldsOf, Try.underlying74, Try.underlying4, Op.eqFields, toList_inj, h0]
  repeat' split
  all_goals simp_all
theorem neq_Kd (a b : Kd) (w : World) : (binOp .neq 74 (.agg #[.bool a.runs, .bool a.keep]) (.agg #[.bool b.runs, .bool b.keep])).run Try.prog w = .ok (.bool (!decide (a = b))) w := by
  rw [run_neq_struct, cmp_Kd]; rfl
theorem eql_Kd (a b : Kd) (w : World) : (binOp .eql 74 (.agg #[.bool a.runs, .bool a.keep]) (.agg #[.bool b.runs, .bool b.keep])).run Try.prog w = .ok (.bool (decide (a = b))) w := by
  rw [run_eql_struct, cmp_Kd]; rfl

set_option maxRecDepth 100000 in
theorem copy_Kd (v : Value) (xs : List Kd) (w : World) (hv : Lk encKd w v xs) (hb : xs.length * 2 ≤ 140737488355328) (hl : xs.length ≤ 9223372036854775807) :
    Calls Try.prog 103 #[v] w fun e w' => ∃ v', e = .returned v' ∧ Ok encKd 2 w' w.heap.size 74 v' xs ∧ Below w.heap.size w w' := by
  have HV := hid hv
  clear hv
  go_enter Try.func103, Try.ntmps103
  go_wp2_with (at_builtin; go_must (refine app_any elem_Kd (base := w.heap.size) (news := xs.flatMap encKd) rfl _ _ rfl rfl rfl (World.ownsRow_nil _ _ _ _) HV.out (flat_length encKd_len xs) (encKd_one xs) (by omega) (by omega) (Nat.le_refl _) ?_); intro v' w' ho hb2 _)
  go_ret
  rw [Nat.zero_add, List.nil_append] at ho
  exact ⟨_, rfl, ho, hb2⟩

set_option maxRecDepth 100000 in
theorem clone_Kd (v : Value) (xs : List Kd) (w : World) (hv : Lk encKd w v xs) (hb : xs.length * 2 ≤ 140737488355328) (hl : xs.length ≤ 9223372036854775807) :
    Calls Try.prog 106 #[v] w fun e w' => ∃ v', e = .returned v' ∧ Lk encKd w' v' xs ∧ Below w.heap.size w w' := by
  by_cases hn : v = .slice none 0 0
  · subst hn
    have hnil := fun wx : World => Lib.run_eql_slice_nil (P := Try.prog) wx 75 74 none 0 0 0 0 Try.underlying75
    go_enter Try.func106, Try.ntmps106
    go_wp2_with fail
    go_ret
    exact ⟨_, rfl, hv, Below.refl _ _⟩
  · obtain ⟨ao, cap, hvv, hc1, hc2, hc3, _⟩ := id hv
    obtain ⟨ad, rfl⟩ : ∃ ad, ao = some ad := by
      cases ao with
      | some ad => exact ⟨ad, rfl⟩
      | none =>
        have h1 := hc3 rfl
        have h2 : xs.length = 0 := by omega
        exact absurd (by rw [hvv, h1, h2]) hn
    have HV := hid hv
    clear hv hn hc3
    subst hvv
    have hnil := fun wx : World => Lib.run_eql_slice_nil (P := Try.prog) wx 75 74 (some ad) xs.length cap 0 0 Try.underlying75
    have h0 : Sl (w.alloc (.cells #[] 74)) (.slice (some ad) xs.length cap) xs.length (xs.flatMap encKd) := Sl.below HV.out ((Below.refl _ _).alloc (Nat.le_refl _) _)
    have hlit : (w.alloc (.cells #[] 74)).ownsRow w.heap.size 74 2 (.slice (some ⟨w.heap.size, 0, none⟩) 0 0) 0 [] := World.ownsRow_lit (e := 74) (size := 2) w #[] 0 (Nat.le_refl _) (by decide) rfl
    go_enter Try.func106, Try.ntmps106
    go_wp2_with (at_builtin; go_must (refine app_any elem_Kd (base := w.heap.size) (news := xs.flatMap encKd) rfl _ _ rfl rfl rfl hlit h0 (flat_length encKd_len xs) (encKd_one xs) (by omega) (by omega) (by simp) ?_); intro v' w' ho hb2 _)
    go_ret
    rw [Nat.zero_add, List.nil_append] at ho
    exact ⟨_, rfl, own_sl ho, ((Below.refl _ _).alloc (Nat.le_refl _) _).trans hb2⟩

set_option maxRecDepth 100000 in
set_option maxHeartbeats 1000000 in
theorem eq_Kd (va vb : Value) (xs ys : List Kd) (w : World) (ha : Lk encKd w va xs) (hb : Lk encKd w vb ys) :
    Calls Try.prog 42 #[va, vb] w fun e w' => e = .returned (.bool (decide (xs = ys))) ∧ Below w.heap.size w w' := by
  by_cases hl : xs.length = ys.length
  · rcases ha.open encKd_len (by decide) with ⟨ao, cap, rfl, rfl, _⟩ | ⟨b, off, cap, rfl, h0, hcap, hm, hc⟩
    · obtain rfl : ys = [] := by cases ys <;> simp_all
      obtain ⟨ao', cap', rfl, _, _, _, _⟩ := hb
      clear hl ha
      go_enter Try.func42, Try.ntmps42
      go_wp2
      refine wp_loop_rounds 1 ?_; rw [rounds_succ]; go_wp2
      go_ret
      exact ⟨by simp, Below.refl _ _⟩
    · rcases hb.open encKd_len (by decide) with ⟨ao', cap', rfl, rfl, _⟩ | ⟨b', off', cap', rfl, h0', hcap', hm', hc'⟩
      · simp at hl; simp [hl] at h0
      have HA := hid ha
      have HB := hid hb
      clear ha hb hc hc'
      have H := hid hl
      have hne : ((xs.length : Int) != ys.length) = false := by simp [hl]
      clear hl
      go_enter Try.func42, Try.ntmps42
      go_wp2
      go_loopw [14] (fun i wr => ∃ k : Nat, k ≤ xs.length ∧ i = .int .i64 k ∧ Below w.heap.size w wr ∧ Hid (xs = ys ↔ xs.drop k = ys.drop k)) (fun i _ => xs.length - (intOf i).toNat)
      case atStart => exact ⟨0, Nat.zero_le _, rfl, Below.refl _ _, by simp [Hid]⟩
      case round =>
        obtain ⟨k, hk, rfl, hbel, hq⟩ := hrel
        by_cases hlt : k < xs.length
        · have hlt' : k < ys.length := by have := H.out; omega
          obtain ⟨_, _, _, hc⟩ := lk_cells (Lk.below HA.out hbel) encKd_len (by decide) h0
          obtain ⟨_, _, _, hc'⟩ := lk_cells (Lk.below HB.out hbel) encKd_len (by decide) h0'
          have hx0 := hc k hlt 0 (by decide); have hx1 := hc k hlt 1 (by decide)
          have hy0 := hc' k hlt' 0 (by decide); have hy1 := hc' k hlt' 1 (by decide)
          clear hc hc'
          rw [show (encKd xs[k])[0]? = some (.bool xs[k].runs) from rfl] at hx0; rw [show (encKd xs[k])[1]? = some (.bool xs[k].keep) from rfl] at hx1
          rw [show (encKd ys[k])[0]? = some (.bool ys[k].runs) from rfl] at hy0; rw [show (encKd ys[k])[1]? = some (.bool ys[k].keep) from rfl] at hy1
          rw [Nat.add_zero] at hx0 hy0
          have nn0 := fun o => cell_alloc o hy0; have nn1 := fun o => cell_alloc o hy1
          go_wp2_with fail
          have hcmp := fun wx => neq_Kd xs[k] ys[k] wx
          have hbz := hbel.size
          by_cases hxy : xs[k] = ys[k]
          · have hon := eq_on (hk := hlt) (hk' := hlt') hq (by simp [hxy])
            rw [decide_eq_true hxy, show (!true) = false from rfl] at hcmp
            have HCMP := hid hcmp
            clear hcmp hxy hq
            go_wp2_with fail
            have hcmp := HCMP.out
            go_quiet (fail)
            go_wp2_with fail
            go_roundw
            case rel => exact ⟨k + 1, by omega, by go_num, drew_bel' (hbel.alloc hbz _), hon⟩
            case measure => simp [intOf]; omega
          · have hon := hid (eq_no (hk := hlt) (hk' := hlt') hq (by simpa using hxy))
            rw [decide_eq_false hxy, show (!false) = true from rfl] at hcmp
            have HCMP := hid hcmp
            clear hcmp hxy hq
            go_wp2_with fail
            have hcmp := HCMP.out
            go_quiet (fail)
            go_wp2_with fail
            go_ret
            exact ⟨retB (by simp [hon.out]), drew_bel' (hbel.alloc hbz _)⟩
        · go_wp2
          go_ret
          exact ⟨retB (by simp [eq_end hq H.out hlt]), hbel⟩
  · have hne : ((xs.length : Int) != ys.length) = true := by simp; omega
    have hxy : xs ≠ ys := fun e => hl (by rw [e])
    obtain ⟨ao, cap, rfl, _, _, _, _⟩ := ha
    obtain ⟨ao', cap', rfl, _, _, _, _⟩ := hb
    go_enter Try.func42, Try.ntmps42
    go_wp2
    go_ret
    exact ⟨retB (by simp [hxy]), Below.refl _ _⟩

end Go.Proofs.Ytpapblahnbeccaa
