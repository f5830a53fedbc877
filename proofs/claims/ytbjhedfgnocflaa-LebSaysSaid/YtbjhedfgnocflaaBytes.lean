/-
  SLICES OF BYTES AND STRINGS THAT THE CALL MAKES: append, conversion, chr. Conditions: lengths in the form's reach.
-/
import Derived.Test.YtbjhedfgnocflaaBase
import Derived.Laws.BytesArg
namespace Go.Proofs.Ytbjhedfgnocflaa
open Go.RowKit

theorem info_u8 : (Try.prog.info? 5).map (fun i => (i.zero, i.size, i.bytes)) = some (some (.int .u8 0), 1, 1) := by kernel_rfl

theorem strOfNums_S (xs : List Int) : strOfNums xs = S (xs.map fun n => UInt8.ofNat n.toNat) := by
  simp [strOfNums, S]

/-- string(b) of a slice of bytes -/
theorem conv_bytes {w : World} {v : Value} {xs : List Int} (h : Ints w .u8 v xs) : (convert 132 9 v).run Try.prog w = .ok (.string (S (xs.map fun n => UInt8.ofNat n.toNat))) w := by
  rcases h.open with ⟨ao, cap, rfl, rfl⟩ | ⟨b, off, cap, rfl, h0, hcap, hm, hc⟩
  · cases ao with
    | none => exact run_convert_bytes_nil w _ _ Try.underlying132 Try.underlying5 0 cap _ Try.underlying9
    | some a =>
      rw [run_convert_bytes_string w _ _ _ _ _ _ Try.underlying132 Try.underlying5 Try.underlying9, run_bytesToString w _ 0 cap [] (by simp [loadCells, loadCellsFrom, Sem.run_pure])]
      rfl
  · rw [run_convert_bytes_arg w _ _ Try.underlying132 Try.underlying5 b off _ cap xs rfl (fun i hi => by rw [hc i hi]; simp [List.getD, hi]) _ Try.underlying9, strOfNums_S]

set_option maxRecDepth 100000 in
set_option maxHeartbeats 400000 in
theorem chr_any (n : Int) (w : World) :
    Calls Try.prog 70 #[.int .i64 n] w fun e w' => e = .returned (.string (S [byteOf n])) ∧ Below w.heap.size w w' := by
  have hc := conv_bytes (Ints.made' w .u8 5 [n % 256] w.heap.size rfl (by simp))
  simp only [List.length_cons, List.length_nil, List.map_cons, List.map_nil, Nat.zero_add] at hc
  go_enter Try.func70, Try.ntmps70
  go_wp2_with fail
  go_ret
  exact ⟨rfl, (Below.refl _ _).alloc (Nat.le_refl _) _⟩

/-- append of one byte to what the call has gathered -/
theorem app_u8 {ops : Array Oper} {rest : List Oper} {o : Oper} {a : Act} {Q : Exit → Act → World → Prop} {w : World} {base : Nat} {v : Value} {xs : List Int} {y : Int} (hgd : o.guard = none) (s x : Operand)
    (ho : o.op = .call { callee := .builtin .append, args := #[s, x], argTypes := #[132, 132] })
    (hs : a.eval s = v) (hown : OwnI w base .u8 5 v xs) (hx : a.eval x = .slice (some ⟨w.heap.size, 0, none⟩) 1 1)
    (hbytes : xs.length + 1 ≤ 140737488355328) (hbase : base ≤ w.heap.size)
    (h : ∀ v' w', OwnI w' base .u8 5 v' (xs ++ [y]) → Below base w w' → wpList Try.prog ops Q rest (a.put o.dst v') w') : wpList Try.prog ops Q (o :: rest) a (w.alloc (.cells #[.int .u8 y] 5)) := by
  obtain ⟨i0, hi, hz0, hz1, hz2⟩ := info_parts info_u8
  refine wpList_append_own _ hgd s x 132 ho base 5 i0 (.int .u8 0) 1 1 Try.underlying132 hi hz0 hz1 hz2 rfl (by decide) v xs.length (xs.map (Value.int .u8)) hs (World.ownsRow.alloc hown _) ⟨w.heap.size, 0, none⟩ 1 1 [.int .u8 y] hx rfl ?_ ?_ (by unfold maxLen; omega) (by omega) (by simp; omega) ?_
  · intro j u hj
    match j, hj with
    | 0, hj => simp at hj; subst hj; simp [Addr.add]
  · intro u hu; simp at hu; subst hu; rfl
  · intro v' w' h1 h2 _
    refine h v' w' ?_ ?_
    · have e : (xs ++ [y]).length = xs.length + 1 := by simp
      show w'.ownsRow base _ 1 v' (xs ++ [y]).length _
      rw [e, List.map_append]; exact h1
    · refine ((Below.refl base w).alloc hbase _).grown h2 (by simp; omega) ?_
      intro k hk
      obtain ⟨_, h4⟩ := hown
      rcases h4 with ⟨rfl, _⟩ | ⟨g, cap, cur, rfl, hg, _⟩
      · simp [Value.ownBlock] at hk
      · simp [Value.ownBlock] at hk; omega
end Go.Proofs.Ytbjhedfgnocflaa
