/-
  SLICES OF troupe/air.way: copies, deletions, comparison. Conditions: lengths in the form's reach. Printed by a program of mine.
-/
import Derived.Test.YtbjhedfgnocflaaRowK
import Derived.Test.YtbjhedfgnocflaaWay
import Derived.StillTailTactics
namespace Go.Proofs.Ytbjhedfgnocflaa
open Go.RowKit Go.Lib

theorem info_AWay : (Try.prog.info? 152).map (fun i => (i.zero, i.size, i.bytes)) = some (some (.agg #[.int .i64 0, .string ByteArray.empty]), 2, 24) := by kernel_rfl
theorem elem_AWay : Elem Try.prog 79 152 (.agg #[.int .i64 0, .string ByteArray.empty]) 2 24 := ⟨Try.underlying79, info_AWay, rfl, by decide⟩

set_option maxRecDepth 100000 in
set_option maxHeartbeats 1000000 in
theorem delete_AWay (g cap base i : Nat) (xs : List Way) (w : World) (hv : Ok encWay 2 w base 152 (.slice (some ⟨g, 0, none⟩) xs.length cap) xs) (hi : i < xs.length) :
    Calls Try.prog 91 #[.slice (some ⟨g, 0, none⟩) xs.length cap, .int .i64 i, .int .i64 (i + 1)] w fun e w' => e = .returned (.slice (some ⟨g, 0, none⟩) (xs.length - 1) cap) ∧ Ok encWay 2 w' base 152 (.slice (some ⟨g, 0, none⟩) (xs.length - 1) cap) (xs.eraseIdx i) ∧ Touch (· = g) w w' := by
  have h0 : w.ownsRow base 152 2 (.slice (some ⟨g, 0, none⟩) xs.length cap) xs.length (xs.flatMap encWay) := hv
  obtain ⟨ao, cap', hvv, hc1, hc2, _⟩ := own_sl h0
  simp only [Value.slice.injEq, true_and] at hvv
  obtain ⟨rfl, rfl⟩ := hvv
  have hpre := own_prefix h0 i (by omega)
  rw [← flatMap_take encWay_len] at hpre
  obtain ⟨o, ho1, ho2⟩ := run_tail elem_AWay g xs.length cap (i + 1) .i64 ((i : Int) + 1) rfl (by omega)
  have hsuf := own_tail h0 (i + 1) (by omega) o ho1
  rw [← flatMap_drop encWay_len] at hsuf
  have hfl : ((xs.drop (i + 1)).flatMap encWay).length = (xs.length - (i + 1)) * 2 := by rw [flat_length encWay_len, List.length_drop]
  have hres : (xs.take i).flatMap encWay ++ (xs.drop (i + 1)).flatMap encWay = (xs.eraseIdx i).flatMap encWay := by rw [List.eraseIdx_eq_take_drop_succ, List.flatMap_append]
  have hrl : (xs.eraseIdx i).length = xs.length - 1 := by rw [List.length_eraseIdx_of_lt hi]
  have HS := hid hsuf
  have HP := hid hpre
  have HF := hid hfl
  have HR := hid hres
  have HRL := hid hrl
  clear hsuf hpre h0 hv ho1 hfl hres hrl
  have b1 : (i : Int) + 1 ≤ xs.length := by omega
  have b2 : (xs.length : Int) ≤ cap := by omega
  have b3 : (i : Int) ≤ cap := by omega
  have b4 : (i : Int) + 1 ≤ cap := by omega
  have b5 : (i : Int) ≤ xs.length := by omega
  go_enter Try.func91, Try.ntmps91
  go_wp2_with fail
  go_still_tail 6, (by kernel_rfl)
  change wpList _ _ _ _ _ w.drew
  refine app_fits elem_AWay (base := base) (news := (xs.drop (i + 1)).flatMap encWay) rfl _ _ rfl rfl rfl HP.out HS.out ⟨_, _, rfl⟩ HF.out (encWay_one _) (by omega) ?_
  intro w1 hown hgr
  have hown2 : w1.ownsRow base 152 2 (.slice (some ⟨g, 0, none⟩) (xs.length - 1) cap) (xs.length - 1) ((xs.eraseIdx i).flatMap encWay) := by
    rw [← HR.out, show xs.length - 1 = i + (xs.length - (i + 1)) by omega]; exact hown
  have hlen : (i : Int) + ((xs.length - (i + 1) : Nat) : Int) = (xs.length : Int) - 1 := by omega
  clear hown
  have hz1 : ∀ c ∈ (Value.agg #[.int .i64 0, .string ByteArray.empty]).cells.toList, c.oneCell' = true := by decide
  obtain ⟨w2, hcl, hown3, hgr2⟩ := run_clear_own (off := (xs.length - 1) * 2) (k := xs.length - (xs.length - 1)) (c0 := cap - (xs.length - 1)) elem_AWay hz1 rfl (by omega) (by omega) hown2
  go_wp2_with fail
  go_ret
  have hfin : i + (xs.length - (i + 1)) = xs.length - 1 := by omega
  refine ⟨congrArg (fun n : Nat => Ending.returned (.slice (some ⟨g, 0, none⟩) n cap)) hfin, ?_, ?_⟩
  · show World.ownsRow _ _ _ _ _ (xs.eraseIdx i).length _
    rw [HRL.out]; exact hown3
  · exact ((Touch.refl _ w).drew 1).trans' ((Touch.grown (F := (· = g)) hgr (by intro k hk; exact (Option.some.inj hk).symm)).trans (Touch.grown hgr2 (by intro k hk; exact (Option.some.inj hk).symm))) (by intro i _ h; exact h)

end Go.Proofs.Ytbjhedfgnocflaa
