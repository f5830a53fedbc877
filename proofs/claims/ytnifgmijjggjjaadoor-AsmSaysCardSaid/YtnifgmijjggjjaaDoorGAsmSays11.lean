/-
  A BUILDER OF TEXT that the call itself has made: WriteString, WriteByte. Condition: its length takes at most 2^47 bytes.
-/
import Derived.Test.YtnifgmijjggjjaaDoorStepS
import Derived.Test.YtnifgmijjggjjaaDoorGAsmSays6
import Derived.Test.YtnifgmijjggjjaaDoorGAsmSays8
namespace Go.Proofs.YtnifgmijjggjjaaDoor
open Go.RowKit Go.Lib
attribute [local go_sem ↓] Go.wp_at_zero Go.wp_at_succ

abbrev BuAt (B b : Nat) (p : Value) (l : List UInt8) (w : World) : Prop := Lib.BuilderAt 42 5 B b p (Lib.byteCells l) w
def IsBu (B b : Nat) (l : List UInt8) (w : World) : Prop := Lib.IsBuilder 42 5 B b (Lib.byteCells l) w
set_option maxRecDepth 100000 in
set_option maxHeartbeats 2000000 in
theorem copyCheck_any (B b : Nat) (l : List UInt8) (w : World) (h : IsBu B b l w) :
    Calls Tryd.prog 28 #[.pointer (some ⟨b, 0, none⟩)] w fun e w' => e = .returned (.tuple #[]) ∧ BuAt B b (.pointer (some ⟨b, 0, none⟩)) l w' ∧ Below B w w' := by
  obtain ⟨j, hj, hjs⟩ := Option.map_eq_some_iff.1 (show (Tryd.prog.info? 42).map (·.size) = some 2 from by kernel_rfl)
  rcases h with h | h
  · have c0 := h.cell0
    have f0 := h.frozen0
    have hs := h.shape
    have H := hid h
    have HU := hid (h.used (.pointer (some ⟨b, 0, none⟩)))
    have HB := hid h.1
    have HL := hid h.lt
    clear h
    go_enter Tryd.func28, Tryd.ntmps28
    go_wp2_with fail
    rw [Lib.run_to_unsafe w ⟨b, 0, none⟩ Tryd.underlying39 Tryd.underlying81 hj (by rw [hjs]; decide) hs (Nat.zero_lt_succ 1)]
    simp only [Result.andThen]
    rw [Oper.upon_value]
    go_wp2_with fail
    rw [run_callFunc_extern Tryd.func42 (by kernel_rfl) (by kernel_rfl) (by kernel_rfl) (e := Extern.AbiNoEscape.same) (by kernel_rfl)]
    rw [Lib.run_noEscape]
    simp only [Result.andThen]
    rw [Oper.upon_value]
    go_wp2_with fail
    rw [Lib.run_from_unsafe w ⟨b, 0, none⟩ Tryd.underlying81 Tryd.underlying39 hj hs (by kernel_rfl)]
    simp only [Result.andThen]
    rw [Oper.upon_value]
    go_wp2_with fail
    go_end0
    exact ⟨rfl, HU.out, (Below.refl B w).setCell (p := ⟨b, 0, none⟩) HB.out _⟩
  · have c0 := h.cell0
    have H := hid h
    clear h
    go_enter Tryd.func28, Tryd.ntmps28
    go_wp2_with fail
    rw [Lib.run_neq_ptr_same w _ Tryd.underlying39 hj]
    go_wp2_with fail
    go_end0
    exact ⟨rfl, H.out, Below.refl _ _⟩
theorem app_strg {P : Program} {T U E : TypeId} (hE : Elem P T E (.int .u8 0) 1 1) (hU : P.underlying U = some .string)
    {ops : Array Oper} {rest : List Oper} {o : Oper} {a : Act} {Q : Exit → Act → World → Prop} {w : World} {base : Nat} {v : Value} {xs : List Int} {s : ByteArray} (hgd : o.guard = none) (sl x : Operand)
    (ho : o.op = .call { callee := .builtin .append, args := #[sl, x], argTypes := #[T, U] })
    (hs : a.eval sl = v) (hx : a.eval x = .string s) (hown : OwnI w base .u8 E v xs)
    (hlen : xs.length + s.size ≤ 140737488355328) (hbase : base ≤ w.heap.size)
    (h : ∀ v' w', OwnI w' base .u8 E v' (xs ++ nums s) → Below base w w' → w.grownBy w' v.ownBlock → wpList P ops Q rest (a.put o.dst v') w') : wpList P ops Q (o :: rest) a w := by
  refine wpList_plain hgd fun K hK => ?_
  have := step_str (ops := ops) (K := K) (Q := Q) (EE := True) hE hU hgd sl x ho hs hx hown hlen hbase (fun v' w' h1 h2 h3 => hK _ _ (h v' w' h1 h2 h3))
  rwa [if_pos (by simp [Region.wanted, hgd])] at this
theorem cells_bytes (l : List UInt8) : (bytesI l).map (Value.int .u8) = Lib.byteCells l := by
  unfold bytesI Lib.byteCells
  rw [List.map_map]
  rfl
theorem Bu.row {B b : Nat} {p : Value} {l : List UInt8} {w : World} (h : BuAt B b p l w) : ∃ v, w.heap[b]? = some (.cells #[p, v] 42 (0, 0)) ∧ OwnI w B .u8 5 v (bytesI l) ∧ v.ownBlock ≠ some b := by
  obtain ⟨_, v, h1, h2, h3⟩ := h
  refine ⟨v, h1, ?_, h3⟩
  show w.ownsRow B _ 1 v (bytesI l).length ((bytesI l).map (Value.int .u8))
  rw [cells_bytes, bytesI_length]
  simpa [Lib.byteCells] using h2
theorem Bu.put {B b : Nat} {p v v' : Value} {l : List UInt8} {w w1 : World} (hB : B ≤ b) (hb : w.heap[b]? = some (.cells #[p, v] 42 (0, 0))) (hne : v.ownBlock ≠ some b) (hg : w.grownBy w1 v.ownBlock) (ho : OwnI w1 B .u8 5 v' (bytesI l)) :
    BuAt B b p l (w1.setCell ⟨b, 1, none⟩ v') ∧ w1.cell? ⟨b, 1, none⟩ = some v ∧ w1.frozen? ⟨b, 1, none⟩ = false := by
  have hlt : b < w.heap.size := by
    rcases Nat.lt_or_ge b w.heap.size with h | h
    · exact h
    · simp [Array.getElem?_eq_none h] at hb
  have hb1 : w1.heap[b]? = some (.cells #[p, v] 42 (0, 0)) := (hg.block b hlt (Ne.symm hne)).trans hb
  refine ⟨Lib.BuilderAt.put hB hb1 ?_ (by decide), by simp [World.cell?, hb1], by simp [World.frozen?, hb1]⟩
  have h2 : w1.ownsRow B _ 1 v' (bytesI l).length ((bytesI l).map (Value.int .u8)) := ho
  rw [cells_bytes, bytesI_length] at h2
  simpa [Lib.byteCells] using h2
set_option maxRecDepth 100000 in
set_option maxHeartbeats 2000000 in
theorem writeString_any (B b : Nat) (l t : List UInt8) (w : World) (h : IsBu B b l w) (hl : l.length + t.length ≤ 140737488355328) (hBw : B ≤ w.heap.size) :
    Calls Tryd.prog 13 #[.pointer (some ⟨b, 0, none⟩), .string (S t)] w fun e w' => (∃ n, e = .returned (.tuple #[.int .i64 n, .nilIface])) ∧ BuAt B b (.pointer (some ⟨b, 0, none⟩)) (l ++ t) w' ∧ Below B w w' := by
  have HC := hid (copyCheck_any B b l w h)
  have hB : B ≤ b := by rcases h with h | h <;> exact h.1
  clear h
  go_enter Tryd.func13, Tryd.ntmps13
  go_wp2_with fail
  refine HC.out.mono ?_
  rintro r w1 ⟨rfl, h1, hb1⟩
  obtain ⟨v, e1, e2, e3⟩ := Bu.row h1
  obtain ⟨ao, cap, hv, _⟩ := own_sl e2
  subst hv
  have c1 : w1.cell? ⟨b, 1, none⟩ = some (.slice ao (bytesI l).length cap) := by simp [World.cell?, e1]
  have E1 := hid e1
  have E2 := hid e2
  have E3 := hid e3
  have W1 := hid hb1
  have hsz : (S t).size = t.length := S_size t
  have hbs := Nat.le_trans hBw hb1.size
  clear h1 e1 e2 e3 hb1 HC
  go_wp2_with (at_builtin; go_must (refine app_strg (xs := bytesI l) elem_u8 Tryd.underlying9 rfl _ _ rfl rfl rfl E2.out (by rw [bytesI_length]; omega) hbs ?_); intro v' w5 ho hb5 hg; obtain ⟨a5, c5, rfl, _⟩ := own_sl ho; rw [nums_S, ← bytesI_append] at ho; have HP := Bu.put (l := l ++ t) hB E1.out E3.out hg ho; have z1 := HP.2.1; have zf := HP.2.2; have HQ := hid HP.1; have W5 := hid (W1.out.trans hb5); clear ho hb5 hg HP)
  have hle : (bytesI (l ++ t)).length = (bytesI l).length + (nums (S t)).length := by rw [nums_S, bytesI_append, List.length_append]
  go_ret2
  refine ⟨⟨_, rfl⟩, ?_, W5.out.setCell (p := ⟨b, 1, none⟩) hB _⟩
  rw [← hle]
  exact HQ.out
set_option maxRecDepth 100000 in
set_option maxHeartbeats 2000000 in
theorem writeByte_any (B b : Nat) (l : List UInt8) (c : Nat) (hc : c < 256) (w : World) (h : IsBu B b l w) (hl : l.length + 1 ≤ 140737488355328) (hBw : B ≤ w.heap.size) :
    Calls Tryd.prog 16 #[.pointer (some ⟨b, 0, none⟩), .int .u8 c] w fun e w' => e = .returned .nilIface ∧ BuAt B b (.pointer (some ⟨b, 0, none⟩)) (l ++ [byteOf c]) w' ∧ Below B w w' := by
  have HC := hid (copyCheck_any B b l w h)
  have hB : B ≤ b := by rcases h with h | h <;> exact h.1
  have HBC := hid (show bytesI [byteOf (c : Int)] = [(c : Int)] from by unfold bytesI byteOf; simp; omega)
  clear h
  go_enter Tryd.func16, Tryd.ntmps16
  go_wp2_with fail
  refine HC.out.mono ?_
  rintro r w1 ⟨rfl, h1, hb1⟩
  obtain ⟨v, e1, e2, e3⟩ := Bu.row h1
  obtain ⟨ao, cap, hv, _⟩ := own_sl e2
  subst hv
  have c1 : w1.cell? ⟨b, 1, none⟩ = some (.slice ao (bytesI l).length cap) := by simp [World.cell?, e1]
  have c1a := fun o => cell_alloc o c1
  have E1 := hid e1
  have E2 := hid e2
  have E3 := hid e3
  have W1 := hid hb1
  have hbs := Nat.le_trans hBw hb1.size
  clear h1 e1 e2 e3 hb1 HC
  go_wp2_with (at_builtin; go_must (refine app_int (xs := bytesI l) (y := (c : Int)) elem_u8 rfl _ _ rfl rfl rfl rfl E2.out (by rw [bytesI_length]; omega) (by rw [bytesI_length]; omega) hbs ?_); intro v' w5 ho hb5 hg; obtain ⟨a5, c5, rfl, _⟩ := own_sl ho; rw [← HBC.out, ← bytesI_append] at ho; have HP := Bu.put (l := l ++ [byteOf (c : Int)]) hB E1.out E3.out hg.1 ho; have z1 := HP.2.1; have zf := HP.2.2; have HQ := hid HP.1; have W5 := hid (W1.out.trans hb5); clear ho hb5 hg HP)
  have hle : (bytesI (l ++ [byteOf (c : Int)])).length = (bytesI l).length + 1 := by rw [bytesI_append, List.length_append, HBC.out]; rfl
  go_ret
  refine ⟨rfl, ?_, W5.out.setCell (p := ⟨b, 1, none⟩) hB _⟩
  rw [← hle]
  exact HQ.out
end Go.Proofs.YtnifgmijjggjjaaDoor
