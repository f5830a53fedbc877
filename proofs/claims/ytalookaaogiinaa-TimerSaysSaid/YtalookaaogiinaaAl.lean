/-
  SLICES OF troupe/trouperef.alarm: copies, deletions, comparison. Conditions: lengths in the form's reach. Printed by a program of mine.
-/
import Derived.Test.YtalookaaogiinaaRowK
import Derived.Test.YtalookaaogiinaaEqs
import Derived.StillTailTactics
namespace Go.Proofs.Ytalookaaogiinaa
open Go.RowKit Go.Lib

structure Al where
  id : Int
  due : Int
deriving DecidableEq
def encAl (x : Al) : List Value := [.int .i64 x.id, .int .i64 x.due]
theorem encAl_len (x : Al) : (encAl x).length = 2 := rfl
theorem encAl_one (xs : List Al) : ∀ c ∈ xs.flatMap encAl, c.oneCell' = true := by
  intro c hc
  obtain ⟨x, _, hx⟩ := List.mem_flatMap.1 hc
  simp only [encAl, List.mem_cons, List.not_mem_nil, or_false] at hx
  rcases hx with rfl | rfl <;> rfl
theorem info_Al : (Try.prog.info? 110).map (fun i => (i.zero, i.size, i.bytes)) = some (some (.agg #[.int .i64 0, .int .i64 0]), 2, 16) := by kernel_rfl
theorem elem_Al : Elem Try.prog 54 110 (.agg #[.int .i64 0, .int .i64 0]) 2 16 := ⟨Try.underlying54, info_Al, rfl, by decide⟩

set_option maxRecDepth 100000 in
theorem copy_Al (v : Value) (xs : List Al) (w : World) (hv : Lk encAl w v xs) (hb : xs.length * 16 ≤ 140737488355328) (hl : xs.length ≤ 9223372036854775807) :
    Calls Try.prog 49 #[v] w fun e w' => ∃ v', e = .returned v' ∧ Ok encAl 2 w' w.heap.size 110 v' xs ∧ Below w.heap.size w w' := by
  have HV := hid hv
  clear hv
  go_enter Try.func49, Try.ntmps49
  go_wp2_with (at_builtin; go_must (refine app_any elem_Al (base := w.heap.size) (news := xs.flatMap encAl) rfl _ _ rfl rfl rfl (World.ownsRow_nil _ _ _ _) HV.out (flat_length encAl_len xs) (encAl_one xs) (by omega) (by omega) (Nat.le_refl _) ?_); intro v' w' ho hb2 _)
  go_ret
  rw [Nat.zero_add, List.nil_append] at ho
  exact ⟨_, rfl, ho, hb2⟩

end Go.Proofs.Ytalookaaogiinaa
