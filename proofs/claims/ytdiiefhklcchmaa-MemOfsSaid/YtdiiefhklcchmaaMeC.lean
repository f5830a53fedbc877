/-
  MEMORIES: copy from a string into a row, also where the string is longer. No condition beside those that it bears.
-/
import Derived.Test.YtdiiefhklcchmaaMeV
import Derived.Lib.LazyBuf
namespace Go.Proofs.Ytdiiefhklcchmaa
open Go.RowKit Go.Lib

theorem run_copy_cut {P : Program} (w : World) (dT sT ty elem : TypeId) (b o dLen dCap : Nat) (t : ByteArray)
    (hu : P.underlying dT = some (.slice elem)) (hz : ∀ w, (Go.sizeOf elem).run P w = .ok 1 w)
    (hc : ∀ j, j < dLen → (w.cell? ⟨b, o + j, none⟩).isSome = true) (hf : ∀ j, j < dLen → w.frozen? ⟨b, o + j, none⟩ = false) :
    (Builtin.copy_ #[dT, sT] ty #[.slice (some ⟨b, o, none⟩) dLen dCap, .string t]).run P w = .ok (goInt (min t.size dLen)) (w.setCells b o ((t.data.toList.take (min t.size dLen)).map fun x => Value.int .u8 (x.toNat : Int))) := by
  have hl : ((t.data.toList.take (min t.size dLen)).map fun x => Value.int .u8 (x.toNat : Int)).length ≤ dLen := by
    rw [List.length_map, List.length_take]; omega
  have hst := run_storeCells_cells (P := P) b o ((t.data.toList.take (min t.size dLen)).map fun x => Value.int .u8 (x.toNat : Int)) 0 w (fun j hj => hc _ (by omega)) (fun j hj => hf _ (by omega)) (by
    intro v hv
    obtain ⟨x, _, rfl⟩ := List.mem_map.1 hv
    rfl)
  simp only [Nat.add_zero] at hst
  simp [Builtin.copy_, run_underlying hu, Builtin.lenOf, Builtin.firstCells, hz]
  have hm : t.size.min dLen = min t.size dLen := rfl
  rw [List.map_take] at hst
  rw [hm, hst]
  have hn : ((min t.size dLen : Nat) : Int) = min (t.size : Int) (dLen : Int) := by omega
  simp only [Result.andThen, hn]
end Go.Proofs.Ytdiiefhklcchmaa
