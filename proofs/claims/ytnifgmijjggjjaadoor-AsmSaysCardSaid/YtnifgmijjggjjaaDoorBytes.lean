/-
  SLICES OF BYTES AND STRINGS THAT THE CALL MAKES: append, conversion, chr. Conditions: lengths in the form's reach.
-/
import Derived.Test.YtnifgmijjggjjaaDoorBase
import Derived.Laws.BytesArg
namespace Go.Proofs.YtnifgmijjggjjaaDoor
open Go.RowKit

theorem info_u8 : (Tryd.prog.info? 5).map (fun i => (i.zero, i.size, i.bytes)) = some (some (.int .u8 0), 1, 1) := by kernel_rfl

theorem strOfNums_S (xs : List Int) : strOfNums xs = S (xs.map fun n => UInt8.ofNat n.toNat) := by
  simp [strOfNums, S]

/-- string(b) of a slice of bytes -/
theorem conv_bytes {w : World} {v : Value} {xs : List Int} (h : Ints w .u8 v xs) : (convert 40 9 v).run Tryd.prog w = .ok (.string (S (xs.map fun n => UInt8.ofNat n.toNat))) w := by
  rcases h.open with ⟨ao, cap, rfl, rfl, _⟩ | ⟨b, off, cap, rfl, h0, hcap, hm, hc⟩
  · cases ao with
    | none => exact run_convert_bytes_nil w _ _ Tryd.underlying40 Tryd.underlying5 0 cap _ Tryd.underlying9
    | some a =>
      rw [run_convert_bytes_string w _ _ _ _ _ _ Tryd.underlying40 Tryd.underlying5 Tryd.underlying9, run_bytesToString w _ 0 cap [] (by simp [loadCells, loadCellsFrom, Sem.run_pure])]
      rfl
  · rw [run_convert_bytes_arg w _ _ Tryd.underlying40 Tryd.underlying5 b off _ cap xs rfl (fun i hi => by rw [hc i hi]; simp [List.getD, hi]) _ Tryd.underlying9, strOfNums_S]

set_option maxRecDepth 100000 in
set_option maxHeartbeats 400000 in
theorem chr_any (n : Int) (w : World) :
    Calls Tryd.prog 22 #[.int .i64 n] w fun e w' => e = .returned (.string (S [byteOf n])) ∧ Below w.heap.size w w' := by
  have hc := conv_bytes (Ints.made' w .u8 5 [n % 256] w.heap.size rfl (by simp))
  simp only [List.length_cons, List.length_nil, List.map_cons, List.map_nil, Nat.zero_add] at hc
  go_enter Tryd.func22, Tryd.ntmps22
  go_wp2_with fail
  go_ret
  exact ⟨rfl, (Below.refl _ _).alloc (Nat.le_refl _) _⟩

theorem elem_u8 : Elem Tryd.prog 40 5 (.int .u8 0) 1 1 := ⟨Tryd.underlying40, info_u8, rfl, by decide⟩
end Go.Proofs.YtnifgmijjggjjaaDoor
