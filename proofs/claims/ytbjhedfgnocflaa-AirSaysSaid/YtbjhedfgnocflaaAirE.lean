/-
  THE AIR: the program's All. Conditions: the object's own invariant.
-/
import Derived.Test.YtbjhedfgnocflaaAirD
import Derived.Test.YtbjhedfgnocflaaStrR
namespace Go.Proofs.Ytbjhedfgnocflaa
open Go.RowKit Go.Lib

/-- strings that the call owns -/
abbrev OwnS (w : World) (base : Nat) (v : Value) (xs : List ByteArray) : Prop := O1 Value.string w base 9 v xs

set_option maxRecDepth 100000 in
set_option maxHeartbeats 2000000 in
theorem aall_any (w : World) (base B : Nat) (v : Value) (xs : List Way) (h : ABox 81 152 w base B v xs) (hl : xs.length ≤ 40) :
    Calls Try.prog 56 #[.pointer (some ⟨B, 0, none⟩)] w fun e w' => ∃ v', e = .returned v' ∧ OwnS w' w.heap.size v' (xs.map Way.text) ∧ Below w.heap.size w w' := by
  have q0 := h.blk.cell (i := 0) rfl
  have hlk : Lk encWay w v xs := h.own.lk
  have HL := hid hlk
  obtain ⟨ao, cap, hvv, _⟩ := id hlk
  clear h hlk
  subst hvv
  go_enter Try.func56, Try.ntmps56
  go_wp2_with fail
  go_loopw [3, 11] (fun o i wr => ∃ k : Nat, k ≤ xs.length ∧ i = .int .i64 k ∧ OwnS wr w.heap.size o ((xs.take k).map Way.text) ∧ Below w.heap.size w wr) (fun _ i _ => xs.length - (intOf i).toNat)
  case atStart => exact ⟨0, Nat.zero_le _, rfl, by simp; exact O1.nil _ _ _ _, Below.refl _ _⟩
  case round =>
    obtain ⟨k, hk, rfl, hown, hbel⟩ := hrel
    by_cases hlt : k < xs.length
    · rcases (Lk.below HL.out hbel).open encWay_len (by decide) with ⟨_, _, _, e, _⟩ | ⟨g, go, cap', hv, _, hcap, hcap2, hc⟩
      · rw [e] at hlt; simp at hlt
      simp only [Value.slice.injEq, true_and] at hv
      obtain ⟨rfl, rfl⟩ := hv
      have x0 := hc k hlt 0 (by decide); have x1 := hc k hlt 1 (by decide)
      rw [show (encWay xs[k])[0]? = some (.int .i64 xs[k].to) from rfl, Nat.add_zero] at x0; rw [show (encWay xs[k])[1]? = some (.string xs[k].text) from rfl] at x1
      have htk : (xs.take (k + 1)).map Way.text = (xs.take k).map Way.text ++ [xs[k].text] := by rw [List.take_succ_eq_append_getElem hlt, List.map_append]; rfl
      have hln : ((xs.take k).map Way.text).length = k := by rw [List.length_map, List.length_take]; omega
      have HTK := hid htk
      have HLN := hid hln
      have hsz := hbel.size
      have ho2 := World.ownsRow.alloc (o := .cells #[.int .i64 xs[k].to, .string xs[k].text] 152) hown
      clear hc htk hln
      go_wp2_with (at_builtin; go_must (refine app_o1 (enc := Value.string) (fun _ => rfl) elem_str (base := w.heap.size) rfl _ _ rfl rfl rfl (by simp) ho2 (by rw [HLN.out]; omega) (by rw [HLN.out]; omega) (by simp; omega) ?_); intro v' w' ho hbel2 _)
      go_roundw
      case rel => exact ⟨k + 1, by omega, by go_num, by rw [HTK.out]; exact ho, (hbel.alloc hsz _).trans hbel2⟩
      case measure => simp [intOf]; omega
    · obtain rfl : k = xs.length := by omega
      go_wp2_with fail
      go_ret
      rw [List.take_length] at hown
      exact ⟨_, rfl, hown, hbel⟩
end Go.Proofs.Ytbjhedfgnocflaa
