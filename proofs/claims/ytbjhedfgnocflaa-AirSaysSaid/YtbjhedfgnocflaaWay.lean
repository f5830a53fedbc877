/-
  SLICES OF troupe/trouperef.Way: copies, deletions, comparison. Conditions: lengths in the form's reach. Printed by a program of mine.
-/
import Derived.Test.YtbjhedfgnocflaaRowK
import Derived.Test.YtbjhedfgnocflaaEqs
import Derived.StillTailTactics
namespace Go.Proofs.Ytbjhedfgnocflaa
open Go.RowKit Go.Lib

structure Way where
  to : Int
  text : ByteArray
deriving DecidableEq
def encWay (x : Way) : List Value := [.int .i64 x.to, .string x.text]
theorem encWay_len (x : Way) : (encWay x).length = 2 := rfl
theorem encWay_one (xs : List Way) : ∀ c ∈ xs.flatMap encWay, c.oneCell' = true := by
  intro c hc
  obtain ⟨x, _, hx⟩ := List.mem_flatMap.1 hc
  simp only [encWay, List.mem_cons, List.not_mem_nil, or_false] at hx
  rcases hx with rfl | rfl <;> rfl
theorem info_Way : (Try.prog.info? 92).map (fun i => (i.zero, i.size, i.bytes)) = some (some (.agg #[.int .i64 0, .string ByteArray.empty]), 2, 24) := by kernel_rfl
theorem elem_Way : Elem Try.prog 83 92 (.agg #[.int .i64 0, .string ByteArray.empty]) 2 24 := ⟨Try.underlying83, info_Way, rfl, by decide⟩

set_option maxRecDepth 100000 in
theorem copy_Way (v : Value) (xs : List Way) (w : World) (hv : Lk encWay w v xs) (hb : xs.length * 24 ≤ 140737488355328) (hl : xs.length ≤ 9223372036854775807) :
    Calls Try.prog 89 #[v] w fun e w' => ∃ v', e = .returned v' ∧ Ok encWay 2 w' w.heap.size 92 v' xs ∧ Below w.heap.size w w' := by
  have HV := hid hv
  clear hv
  go_enter Try.func89, Try.ntmps89
  go_wp2_with (at_builtin; go_must (refine app_any elem_Way (base := w.heap.size) (news := xs.flatMap encWay) rfl _ _ rfl rfl rfl (World.ownsRow_nil _ _ _ _) HV.out (flat_length encWay_len xs) (encWay_one xs) (by omega) (by omega) (Nat.le_refl _) ?_); intro v' w' ho hb2 _)
  go_ret
  rw [Nat.zero_add, List.nil_append] at ho
  exact ⟨_, rfl, ho, hb2⟩

end Go.Proofs.Ytbjhedfgnocflaa
