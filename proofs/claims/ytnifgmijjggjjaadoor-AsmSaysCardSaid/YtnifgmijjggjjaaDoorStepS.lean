/-
  APPENDS OF A STRING INSIDE A REGION THAT DRAWS ITS ORDER; bytes as numbers; a block and a row of another type lie apart. No condition beside lengths.
-/
import Derived.Test.YtnifgmijjggjjaaDoorStep
import Derived.Test.YtnifgmijjggjjaaDoorStrs
namespace Go.Proofs.YtnifgmijjggjjaaDoor
open Go.RowKit Go.Lib

def bytesI (l : List UInt8) : List Int := l.map fun b => (b.toNat : Int)
theorem bytesI_length (l : List UInt8) : (bytesI l).length = l.length := List.length_map _
theorem bytesI_append (a b : List UInt8) : bytesI (a ++ b) = bytesI a ++ bytesI b := List.map_append
theorem nums_S (l : List UInt8) : nums (S l) = bytesI l := by unfold nums bytesI; rw [S_data]
theorem bytesI_back (l : List UInt8) : (bytesI l).map (fun n => UInt8.ofNat n.toNat) = l := by
  unfold bytesI
  rw [List.map_map]
  exact (List.map_congr_left fun b _ => UInt8.ofNat_toNat).trans (List.map_id _)

theorem blk_ne {w : World} {B : Nat} {ty E : TypeId} {cs : List Value} {base size : Nat} {v : Value} {n : Nat} {xs : List Value} (h : Blk w B ty cs) (ho : w.ownsRow base E size v n xs) (hne : (ty == E) = false) : v.ownBlock ≠ some B := by
  intro e
  rcases ho.2 with ⟨e2, _⟩ | ⟨g, cap, cur, e2, _, hh, _⟩
  · rw [e2] at e; simp [Value.ownBlock] at e
  · rw [e2] at e
    simp only [Value.ownBlock, Option.some.injEq] at e
    subst e
    unfold Blk at h
    rw [h] at hh
    simp only [Option.some.injEq, Obj.cells.injEq] at hh
    rw [hh.2.1] at hne
    simp at hne

theorem step_str {P : Program} {T U E : TypeId} (hE : Elem P T E (.int .u8 0) 1 1) (hU : P.underlying U = some .string)
    {ops : Array Oper} {o : Oper} {a : Act} {K : Act → World → Prop} {Q : Exit → Act → World → Prop} {EE : Prop} {w : World} {base : Nat} {v : Value} {xs : List Int} {s : ByteArray} (hgd : o.guard = none) (sl x : Operand)
    (ho : o.op = .call { callee := .builtin .append, args := #[sl, x], argTypes := #[T, U] })
    (hs : a.eval sl = v) (hx : a.eval x = .string s) (hown : OwnI w base .u8 E v xs)
    (hlen : xs.length + s.size ≤ 140737488355328) (hbase : base ≤ w.heap.size)
    (h : ∀ v' w', OwnI w' base .u8 E v' (xs ++ nums s) → Below base w w' → w.grownBy w' v.ownBlock → K (a.put o.dst v') w') : if Region.wanted o (yielded ops a.tmps) = true then Oper.wp P o a w K Q else EE := by
  have hw : Region.wanted o (yielded ops a.tmps) = true := by simp [Region.wanted, hgd]
  rw [if_pos hw]
  obtain ⟨ht, hinfo, hz2, hpos⟩ := hE
  obtain ⟨i0, hi, hz0, hz1, hzb⟩ := info_parts hinfo
  have e : xs.map (Value.int .u8) ++ strCells s = (xs ++ nums s).map (Value.int .u8) := by
    simp [strCells, nums, List.map_map, Function.comp_def]
  obtain ⟨v', w', hr, g1, g2, _⟩ := run_append_own_string (P := P) w base T U o.type E i0 ht hU hi hz0 hz1 hzb v xs.length (xs.map (Value.int .u8)) hown s (by unfold maxLen; omega) hlen hbase
  unfold Oper.wp execOp
  simp only [ho, resolve, invoke, builtin, Sem.run_bind, Sem.run_pure, Result.andThen_ok, List.map_toArray, List.map_cons, List.map_nil, hs, hx, hr]
  have g1' : OwnI w' base .u8 E v' (xs ++ nums s) := by
    show w'.ownsRow base E 1 v' _ _
    rw [← e, List.length_append, nums_length]
    exact g1
  exact h v' w' g1' ((Below.refl base w).grown g2 hbase (own_block hown)) g2

theorem blk_grown {w w' : World} {B : Nat} {ty : TypeId} {cs : List Value} {row : Option Nat} (h : Blk w B ty cs) (hg : w.grownBy w' row) (hne : row ≠ some B) : Blk w' B ty cs := by
  unfold Blk
  rw [hg.block B h.lt (Ne.symm hne)]; exact h
end Go.Proofs.YtnifgmijjggjjaaDoor
