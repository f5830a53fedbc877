/-
  SLICES OF troupe/api.Letter: copies, deletions, comparison. Conditions: lengths in the form's reach. Printed by a program of mine.
-/
import Derived.Test.YtbjhedfgnocflaaRowK
import Derived.Test.YtbjhedfgnocflaaEqs
import Derived.StillTailTactics
namespace Go.Proofs.Ytbjhedfgnocflaa
open Go.RowKit Go.Lib

structure Letter where
  node : Int
  num : Int
  tag : Int
  body : ByteArray
deriving DecidableEq
def encLetter (x : Letter) : List Value := [.int .i64 x.node, .int .i64 x.num, .int .i64 x.tag, .string x.body]
theorem encLetter_len (x : Letter) : (encLetter x).length = 4 := rfl
theorem encLetter_one (xs : List Letter) : ∀ c ∈ xs.flatMap encLetter, c.oneCell' = true := by
  intro c hc
  obtain ⟨x, _, hx⟩ := List.mem_flatMap.1 hc
  simp only [encLetter, List.mem_cons, List.not_mem_nil, or_false] at hx
  rcases hx with rfl | rfl | rfl | rfl <;> rfl
theorem info_Letter : (Try.prog.info? 66).map (fun i => (i.zero, i.size, i.bytes)) = some (some (.agg #[.int .i64 0, .int .i64 0, .int .i64 0, .string ByteArray.empty]), 4, 40) := by kernel_rfl
theorem elem_Letter : Elem Try.prog 62 66 (.agg #[.int .i64 0, .int .i64 0, .int .i64 0, .string ByteArray.empty]) 4 40 := ⟨Try.underlying62, info_Letter, rfl, by decide⟩

set_option maxRecDepth 100000 in
theorem cmp_Letter (a b : Letter) (w : World) : (Op.equalIn 10000 66 (.agg #[.int .i64 a.node, .int .i64 a.num, .int .i64 a.tag, .string a.body]) (.agg #[.int .i64 b.node, .int .i64 b.num, .int .i64 b.tag, .string b.body])).run Try.prog w = .ok (decide (a = b)) w := by
  have h0 : Try.prog.stoodInHeld 66 = false := by kernel_rfl
  have h1 : Try.prog.stoodInHeld 38 = false := by kernel_rfl
  obtain ⟨a0, a1, a2, a3⟩ := a
  obtain ⟨b0, b1, b2, b3⟩ := b
  simp [go_sem, Program.fieldsOf, Try.underlying66, Try.underlying38, Try.underlying3, Try.underlying9, Op.eqFields, toList_inj, h0, h1]
  repeat' split
  all_goals simp_all
theorem neq_Letter (a b : Letter) (w : World) : (binOp .neq 66 (.agg #[.int .i64 a.node, .int .i64 a.num, .int .i64 a.tag, .string a.body]) (.agg #[.int .i64 b.node, .int .i64 b.num, .int .i64 b.tag, .string b.body])).run Try.prog w = .ok (.bool (!decide (a = b))) w := by
  rw [run_neq_struct, cmp_Letter]; rfl
theorem eql_Letter (a b : Letter) (w : World) : (binOp .eql 66 (.agg #[.int .i64 a.node, .int .i64 a.num, .int .i64 a.tag, .string a.body]) (.agg #[.int .i64 b.node, .int .i64 b.num, .int .i64 b.tag, .string b.body])).run Try.prog w = .ok (.bool (decide (a = b))) w := by
  rw [run_eql_struct, cmp_Letter]; rfl

set_option maxRecDepth 100000 in
theorem copy_Letter (v : Value) (xs : List Letter) (w : World) (hv : Lk encLetter w v xs) (hb : xs.length * 40 ≤ 140737488355328) (hl : xs.length ≤ 9223372036854775807) :
    Calls Try.prog 84 #[v] w fun e w' => ∃ v', e = .returned v' ∧ Ok encLetter 4 w' w.heap.size 66 v' xs ∧ Below w.heap.size w w' := by
  have HV := hid hv
  clear hv
  go_enter Try.func84, Try.ntmps84
  go_wp2_with (at_builtin; go_must (refine app_any elem_Letter (base := w.heap.size) (news := xs.flatMap encLetter) rfl _ _ rfl rfl rfl (World.ownsRow_nil _ _ _ _) HV.out (flat_length encLetter_len xs) (encLetter_one xs) (by omega) (by omega) (Nat.le_refl _) ?_); intro v' w' ho hb2 _)
  go_ret
  rw [Nat.zero_add, List.nil_append] at ho
  exact ⟨_, rfl, ho, hb2⟩

set_option maxRecDepth 100000 in
theorem clone_Letter (v : Value) (xs : List Letter) (w : World) (hv : Lk encLetter w v xs) (hb : xs.length * 40 ≤ 140737488355328) (hl : xs.length ≤ 9223372036854775807) :
    Calls Try.prog 88 #[v] w fun e w' => ∃ v', e = .returned v' ∧ Lk encLetter w' v' xs ∧ Below w.heap.size w w' := by
  by_cases hn : v = .slice none 0 0
  · subst hn
    have hnil := fun wx : World => Lib.run_eql_slice_nil (P := Try.prog) wx 62 66 none 0 0 0 0 Try.underlying62
    go_enter Try.func88, Try.ntmps88
    go_wp2_with fail
    go_ret
    exact ⟨_, rfl, hv, Below.refl _ _⟩
  · obtain ⟨ao, cap, hvv, hc1, hc2, hc3, _⟩ := id hv
    obtain ⟨ad, rfl⟩ : ∃ ad, ao = some ad := by
      cases ao with
      | some ad => exact ⟨ad, rfl⟩
      | none =>
        have h1 := hc3 rfl
        have h2 : xs.length = 0 := by omega
        exact absurd (by rw [hvv, h1, h2]) hn
    have HV := hid hv
    clear hv hn hc3
    subst hvv
    have hnil := fun wx : World => Lib.run_eql_slice_nil (P := Try.prog) wx 62 66 (some ad) xs.length cap 0 0 Try.underlying62
    have h0 : Sl (w.alloc (.cells #[] 66)) (.slice (some ad) xs.length cap) xs.length (xs.flatMap encLetter) := Sl.below HV.out ((Below.refl _ _).alloc (Nat.le_refl _) _)
    have hlit : (w.alloc (.cells #[] 66)).ownsRow w.heap.size 66 4 (.slice (some ⟨w.heap.size, 0, none⟩) 0 0) 0 [] := World.ownsRow_lit (e := 66) (size := 4) w #[] 0 (Nat.le_refl _) (by decide) rfl
    go_enter Try.func88, Try.ntmps88
    go_wp2_with (at_builtin; go_must (refine app_any elem_Letter (base := w.heap.size) (news := xs.flatMap encLetter) rfl _ _ rfl rfl rfl hlit h0 (flat_length encLetter_len xs) (encLetter_one xs) (by omega) (by omega) (by simp) ?_); intro v' w' ho hb2 _)
    go_ret
    rw [Nat.zero_add, List.nil_append] at ho
    exact ⟨_, rfl, own_sl ho, ((Below.refl _ _).alloc (Nat.le_refl _) _).trans hb2⟩

set_option maxRecDepth 100000 in
set_option maxHeartbeats 1000000 in
theorem delete_Letter (g cap base i : Nat) (xs : List Letter) (w : World) (hv : Ok encLetter 4 w base 66 (.slice (some ⟨g, 0, none⟩) xs.length cap) xs) (hi : i < xs.length) :
    Calls Try.prog 86 #[.slice (some ⟨g, 0, none⟩) xs.length cap, .int .i64 i, .int .i64 (i + 1)] w fun e w' => e = .returned (.slice (some ⟨g, 0, none⟩) (xs.length - 1) cap) ∧ Ok encLetter 4 w' base 66 (.slice (some ⟨g, 0, none⟩) (xs.length - 1) cap) (xs.eraseIdx i) ∧ Touch (· = g) w w' := by
  have h0 : w.ownsRow base 66 4 (.slice (some ⟨g, 0, none⟩) xs.length cap) xs.length (xs.flatMap encLetter) := hv
  obtain ⟨ao, cap', hvv, hc1, hc2, _⟩ := own_sl h0
  simp only [Value.slice.injEq, true_and] at hvv
  obtain ⟨rfl, rfl⟩ := hvv
  have hpre := own_prefix h0 i (by omega)
  rw [← flatMap_take encLetter_len] at hpre
  obtain ⟨o, ho1, ho2⟩ := run_tail elem_Letter g xs.length cap (i + 1) .i64 ((i : Int) + 1) rfl (by omega)
  have hsuf := own_tail h0 (i + 1) (by omega) o ho1
  rw [← flatMap_drop encLetter_len] at hsuf
  have hfl : ((xs.drop (i + 1)).flatMap encLetter).length = (xs.length - (i + 1)) * 4 := by rw [flat_length encLetter_len, List.length_drop]
  have hres : (xs.take i).flatMap encLetter ++ (xs.drop (i + 1)).flatMap encLetter = (xs.eraseIdx i).flatMap encLetter := by rw [List.eraseIdx_eq_take_drop_succ, List.flatMap_append]
  have hrl : (xs.eraseIdx i).length = xs.length - 1 := by rw [List.length_eraseIdx_of_lt hi]
  have HS := hid hsuf
  have HP := hid hpre
  have HF := hid hfl
  have HR := hid hres
  have HRL := hid hrl
  clear hsuf hpre h0 hv ho1 hfl hres hrl
  have b1 : (i : Int) + 1 ≤ xs.length := by omega
  have b2 : (xs.length : Int) ≤ cap := by omega
  have b3 : (i : Int) ≤ cap := by omega
  have b4 : (i : Int) + 1 ≤ cap := by omega
  have b5 : (i : Int) ≤ xs.length := by omega
  go_enter Try.func86, Try.ntmps86
  go_wp2_with fail
  go_still_tail 6, (by kernel_rfl)
  change wpList _ _ _ _ _ w.drew
  refine app_fits elem_Letter (base := base) (news := (xs.drop (i + 1)).flatMap encLetter) rfl _ _ rfl rfl rfl HP.out HS.out ⟨_, _, rfl⟩ HF.out (encLetter_one _) (by omega) ?_
  intro w1 hown hgr
  have hown2 : w1.ownsRow base 66 4 (.slice (some ⟨g, 0, none⟩) (xs.length - 1) cap) (xs.length - 1) ((xs.eraseIdx i).flatMap encLetter) := by
    rw [← HR.out, show xs.length - 1 = i + (xs.length - (i + 1)) by omega]; exact hown
  have hlen : (i : Int) + ((xs.length - (i + 1) : Nat) : Int) = (xs.length : Int) - 1 := by omega
  clear hown
  have hz1 : ∀ c ∈ (Value.agg #[.int .i64 0, .int .i64 0, .int .i64 0, .string ByteArray.empty]).cells.toList, c.oneCell' = true := by decide
  obtain ⟨w2, hcl, hown3, hgr2⟩ := run_clear_own (off := (xs.length - 1) * 4) (k := xs.length - (xs.length - 1)) (c0 := cap - (xs.length - 1)) elem_Letter hz1 rfl (by omega) (by omega) hown2
  go_wp2_with fail
  go_ret
  have hfin : i + (xs.length - (i + 1)) = xs.length - 1 := by omega
  refine ⟨congrArg (fun n : Nat => Ending.returned (.slice (some ⟨g, 0, none⟩) n cap)) hfin, ?_, ?_⟩
  · show World.ownsRow _ _ _ _ _ (xs.eraseIdx i).length _
    rw [HRL.out]; exact hown3
  · exact ((Touch.refl _ w).drew 1).trans' ((Touch.grown (F := (· = g)) hgr (by intro k hk; exact (Option.some.inj hk).symm)).trans (Touch.grown hgr2 (by intro k hk; exact (Option.some.inj hk).symm))) (by intro i _ h; exact h)

set_option maxRecDepth 100000 in
set_option maxHeartbeats 1000000 in
theorem eq_Letter (va vb : Value) (xs ys : List Letter) (w : World) (ha : Lk encLetter w va xs) (hb : Lk encLetter w vb ys) :
    Calls Try.prog 43 #[va, vb] w fun e w' => e = .returned (.bool (decide (xs = ys))) ∧ Below w.heap.size w w' := by
  by_cases hl : xs.length = ys.length
  · rcases ha.open encLetter_len (by decide) with ⟨ao, cap, rfl, rfl, _⟩ | ⟨b, off, cap, rfl, h0, hcap, hm, hc⟩
    · obtain rfl : ys = [] := by cases ys <;> simp_all
      obtain ⟨ao', cap', rfl, _, _, _, _⟩ := hb
      clear hl ha
      go_enter Try.func43, Try.ntmps43
      go_wp2
      refine wp_loop_rounds 1 ?_; rw [rounds_succ]; go_wp2
      go_ret
      exact ⟨by simp, Below.refl _ _⟩
    · rcases hb.open encLetter_len (by decide) with ⟨ao', cap', rfl, rfl, _⟩ | ⟨b', off', cap', rfl, h0', hcap', hm', hc'⟩
      · simp at hl; simp [hl] at h0
      have HA := hid ha
      have HB := hid hb
      clear ha hb hc hc'
      have H := hid hl
      have hne : ((xs.length : Int) != ys.length) = false := by simp [hl]
      clear hl
      go_enter Try.func43, Try.ntmps43
      go_wp2
      go_loopw [14] (fun i wr => ∃ k : Nat, k ≤ xs.length ∧ i = .int .i64 k ∧ Below w.heap.size w wr ∧ Hid (xs = ys ↔ xs.drop k = ys.drop k)) (fun i _ => xs.length - (intOf i).toNat)
      case atStart => exact ⟨0, Nat.zero_le _, rfl, Below.refl _ _, by simp [Hid]⟩
      case round =>
        obtain ⟨k, hk, rfl, hbel, hq⟩ := hrel
        by_cases hlt : k < xs.length
        · have hlt' : k < ys.length := by have := H.out; omega
          obtain ⟨_, _, _, hc⟩ := lk_cells (Lk.below HA.out hbel) encLetter_len (by decide) h0
          obtain ⟨_, _, _, hc'⟩ := lk_cells (Lk.below HB.out hbel) encLetter_len (by decide) h0'
          have hx0 := hc k hlt 0 (by decide); have hx1 := hc k hlt 1 (by decide); have hx2 := hc k hlt 2 (by decide); have hx3 := hc k hlt 3 (by decide)
          have hy0 := hc' k hlt' 0 (by decide); have hy1 := hc' k hlt' 1 (by decide); have hy2 := hc' k hlt' 2 (by decide); have hy3 := hc' k hlt' 3 (by decide)
          clear hc hc'
          rw [show (encLetter xs[k])[0]? = some (.int .i64 xs[k].node) from rfl] at hx0; rw [show (encLetter xs[k])[1]? = some (.int .i64 xs[k].num) from rfl] at hx1; rw [show (encLetter xs[k])[2]? = some (.int .i64 xs[k].tag) from rfl] at hx2; rw [show (encLetter xs[k])[3]? = some (.string xs[k].body) from rfl] at hx3
          rw [show (encLetter ys[k])[0]? = some (.int .i64 ys[k].node) from rfl] at hy0; rw [show (encLetter ys[k])[1]? = some (.int .i64 ys[k].num) from rfl] at hy1; rw [show (encLetter ys[k])[2]? = some (.int .i64 ys[k].tag) from rfl] at hy2; rw [show (encLetter ys[k])[3]? = some (.string ys[k].body) from rfl] at hy3
          rw [Nat.add_zero] at hx0 hy0
          have nn0 := fun o => cell_alloc o hy0; have nn1 := fun o => cell_alloc o hy1; have nn2 := fun o => cell_alloc o hy2; have nn3 := fun o => cell_alloc o hy3
          go_wp2_with fail
          have hcmp := fun wx => neq_Letter xs[k] ys[k] wx
          have hbz := hbel.size
          by_cases hxy : xs[k] = ys[k]
          · have hon := eq_on (hk := hlt) (hk' := hlt') hq (by simp [hxy])
            rw [decide_eq_true hxy, show (!true) = false from rfl] at hcmp
            have HCMP := hid hcmp
            clear hcmp hxy hq
            go_wp2_with fail
            have hcmp := HCMP.out
            go_quiet (fail)
            go_wp2_with fail
            go_roundw
            case rel => exact ⟨k + 1, by omega, by go_num, drew_bel' (hbel.alloc hbz _), hon⟩
            case measure => simp [intOf]; omega
          · have hon := hid (eq_no (hk := hlt) (hk' := hlt') hq (by simpa using hxy))
            rw [decide_eq_false hxy, show (!false) = true from rfl] at hcmp
            have HCMP := hid hcmp
            clear hcmp hxy hq
            go_wp2_with fail
            have hcmp := HCMP.out
            go_quiet (fail)
            go_wp2_with fail
            go_ret
            exact ⟨retB (by simp [hon.out]), drew_bel' (hbel.alloc hbz _)⟩
        · go_wp2
          go_ret
          exact ⟨retB (by simp [eq_end hq H.out hlt]), hbel⟩
  · have hne : ((xs.length : Int) != ys.length) = true := by simp; omega
    have hxy : xs ≠ ys := fun e => hl (by rw [e])
    obtain ⟨ao, cap, rfl, _, _, _, _⟩ := ha
    obtain ⟨ao', cap', rfl, _, _, _, _⟩ := hb
    go_enter Try.func43, Try.ntmps43
    go_wp2
    go_ret
    exact ⟨retB (by simp [hxy]), Below.refl _ _⟩

end Go.Proofs.Ytbjhedfgnocflaa
