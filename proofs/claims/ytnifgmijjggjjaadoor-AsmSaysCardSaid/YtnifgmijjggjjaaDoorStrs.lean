/-
  APPENDING A STRING TO AN OWNED ROW OF BYTES; the cells of a box.
-/
import Derived.Test.YtnifgmijjggjjaaDoorBytes
import Derived.Lib.AppendStr
namespace Go.Proofs.YtnifgmijjggjjaaDoor
open Go.RowKit Go.Lib

/-- the bytes of a string as numbers -/
def nums (s : ByteArray) : List Int := s.data.toList.map fun b => (b.toNat : Int)
theorem nums_length (s : ByteArray) : (nums s).length = s.size := (List.length_map _).trans rfl
theorem nums_bytes (s : ByteArray) : (nums s).map (fun n => UInt8.ofNat n.toNat) = s.data.toList := by
  unfold nums
  rw [List.map_map]
  exact (List.map_congr_left fun b _ => UInt8.ofNat_toNat).trans (List.map_id _)

theorem app_str {P : Program} {T U E : TypeId} (hE : Elem P T E (.int .u8 0) 1 1) (hU : P.underlying U = some .string)
    {ops : Array Oper} {rest : List Oper} {o : Oper} {a : Act} {Q : Exit → Act → World → Prop} {w : World} {base : Nat} {v : Value} {xs : List Int} {s : ByteArray} (hgd : o.guard = none) (sl x : Operand)
    (ho : o.op = .call { callee := .builtin .append, args := #[sl, x], argTypes := #[T, U] })
    (hs : a.eval sl = v) (hx : a.eval x = .string s) (hown : OwnI w base .u8 E v xs)
    (hlen : xs.length + s.size ≤ 140737488355328) (hbase : base ≤ w.heap.size)
    (h : ∀ v' w', OwnI w' base .u8 E v' (xs ++ nums s) → Below base w w' → wpList P ops Q rest (a.put o.dst v') w') : wpList P ops Q (o :: rest) a w := by
  obtain ⟨ht, hinfo, hz2, hpos⟩ := hE
  obtain ⟨i0, hi, hz0, hz1, hzb⟩ := info_parts hinfo
  have e : xs.map (Value.int .u8) ++ strCells s = (xs ++ nums s).map (Value.int .u8) := by
    simp [strCells, nums, List.map_map, Function.comp_def]
  refine wpList_append_own_string w hgd sl x T U ho base E i0 ht hU hi hz0 hz1 hzb v xs.length (xs.map (Value.int .u8)) hs hown s hx (by unfold maxLen; omega) hlen hbase ?_
  intro v' w' g1 g2 g3
  have g1' : OwnI w' base .u8 E v' (xs ++ nums s) := by
    show w'.ownsRow base E 1 v' _ _
    rw [← e, List.length_append, nums_length]
    exact g1
  exact h v' w' g1' ((Below.refl base w).grown g2 hbase (own_block hown))

theorem box_cell {w w1 : World} {cs : Array Value} {t : TypeId} (hb : Below (w.alloc (.cells cs t)).heap.size (w.alloc (.cells cs t)) w1) (i : Nat) {v : Value} (h : cs[i]? = some v) : w1.cell? ⟨w.heap.size, i, none⟩ = some v := by
  have h0 : (w.alloc (.cells cs t)).cell? ⟨w.heap.size, i, none⟩ = some v := by
    rw [World.cell?_alloc_new]; exact h
  rw [← h0]
  exact hb.cell (p := ⟨w.heap.size, i, none⟩) (World.block_lt_of_cell? _ ⟨w.heap.size, i, none⟩ h0)
end Go.Proofs.YtnifgmijjggjjaaDoor
