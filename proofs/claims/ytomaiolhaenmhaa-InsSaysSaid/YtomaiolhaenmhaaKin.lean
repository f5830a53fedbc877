/-
  kinds: A STRING OF LETTERS AS KINDS. Condition: letters below 128, the length in the form's reach.
-/
import Derived.Test.YtomaiolhaenmhaaPart
import Derived.Lib.OthersKept
namespace Go.Proofs.Ytomaiolhaenmhaa
open Go.RowKit Go.Lib

def kindOfB (b : UInt8) : Int := if b = 105 then 127 else 126
def kindsL (l : List UInt8) : List Int := l.map kindOfB
theorem elem_Kind : Elem Try.prog 97 101 (.int .u8 0) 1 1 := ⟨Try.underlying97, by kernel_rfl, rfl, by decide⟩

theorem kinds_step {l : List UInt8} {k : Nat} (h : k < l.length) : kindsL (l.take (k + 1)) = kindsL (l.take k) ++ [kindOfB l[k]] := by
  unfold kindsL
  rw [List.take_succ_eq_append_getElem h, List.map_append]
  rfl
theorem kinds_len {l : List UInt8} {k : Nat} (h : k ≤ l.length) : (kindsL (l.take k)).length = k := by
  unfold kindsL
  rw [List.length_map, List.length_take]
  omega
set_option maxRecDepth 100000 in
set_option maxHeartbeats 1000000 in
theorem kinds_any (w : World) (s : ByteArray) (hs : s.size ≤ 140737488351232) (ha : ∀ i (h : i < s.size), (s[i]'h).toNat < 128) :
    Calls Try.prog 127 #[.string s] w fun e w' => ∃ v, e = .returned v ∧ OwnI w' w.heap.size .u8 101 v (kindsL s.data.toList) ∧ Below w.heap.size w w' := by
  have hl : s.data.toList.length = s.size := rfl
  have H0 := hid (World.iter_heap w s 0)
  have HB0 := hid ((Below.refl w.heap.size w).alloc (Nat.le_refl _) (.stringIter s 0))
  have HL := hid hl
  have HA := hid ha
  clear hl ha
  go_enter Try.func127, Try.ntmps127
  go_wp2_with fail
  go_loopw [3] (fun v wr => ∃ (k : Nat) (vv : Value), k ≤ s.size ∧ v = vv ∧ OwnI wr (w.heap.size + 1) .u8 101 vv (kindsL (s.data.toList.take k)) ∧ Hid (wr.heap[w.heap.size]? = some (.stringIter s k)) ∧ Hid (Below w.heap.size w wr)) (fun _ wr => s.size - wr.iterPos w.heap.size)
  case atStart => exact ⟨0, _, Nat.zero_le _, rfl, OwnI.nil _ _ _ _, H0, HB0⟩
  case round =>
    obtain ⟨k, vv, hk, hvv, hown, HI, HB⟩ := hrel
    have hvv2 := hvv.symm
    subst hvv2
    clear hvv
    by_cases hp : k < s.size
    · have hnext : ∀ ty, (Instr.next (.pointer (some ⟨w.heap.size, 0, none⟩)) true ty).run Try.prog wr = _ := fun ty => run_next_ascii_at wr w.heap.size s k ty HI.out hp (HA.out k hp)
      have hmu : wr.iterPos w.heap.size = k := by simp [World.iterPos, HI.out]
      have hI1 := hid (iterAt_heap wr w.heap.size s k (k + 1) HI.out)
      have hb1 := hid (below_iterAt HB.out (Nat.le_refl _) s (k + 1))
      have ho1 : OwnI (wr.iterAt w.heap.size s (k + 1)) (w.heap.size + 1) .u8 101 vv (kindsL (s.data.toList.take k)) := own_same hown (fun j hj => iterAt_other wr w.heap.size j s (k + 1) (by have := (World.ownsRow.lt hown j hj).1; omega))
      have hlt : k < s.data.toList.length := by rw [HL.out]; exact hp
      have hst := kinds_step hlt
      have hln := kinds_len (l := s.data.toList) (k := k) (by rw [HL.out]; exact hk)
      have hsz : w.heap.size + 1 ≤ (wr.iterAt w.heap.size s (k + 1)).heap.size := lt_of_block hI1.out
      have hbk : (s[k]'hp) = s.data.toList[k] := rfl
      have HST := hid hst
      rw [hbk] at hnext
      generalize s.data.toList[k] = c at *
      generalize kindsL (s.data.toList.take k) = L at *
      have hlen : L.length + 1 ≤ 140737488351233 := by omega
      have HMU := hid hmu
      clear hst hmu hbk hln hlt hown
      generalize wr.iterAt w.heap.size s (k + 1) = W1 at *
      by_cases hc : c = 105
      · subst hc
        rw [show kindOfB 105 = 127 from rfl] at HST
        go_wp2_with (at_builtin; go_loud (refine app_int elem_Kind (y := 127) rfl _ _ rfl rfl rfl rfl ho1 (by omega) (by omega) hsz ?_); intro v' w' ho' hb' hg'; have HO := hid ho'; have HB2 := hid (hb1.out.trans (hb'.mono (Nat.le_succ _))); have HI2 := hid ((hb'.block w.heap.size (Nat.lt_succ_self _)).trans hI1.out); clear ho' hb' hg')
        go_roundw
        case rel => exact ⟨k + 1, v', by omega, rfl, by rw [HST.out]; exact HO.out, HI2, HB2⟩
        case measure =>
          have h2 : w'.iterPos w.heap.size = k + 1 := by simp [World.iterPos, HI2.out]
          rw [HMU.out, h2]; omega
      · have hc1 : ((c.toNat : Int) == 105) = false := by
          rw [beq_eq_false_iff_ne]
          intro e
          apply hc
          have : c.toNat = 105 := by omega
          exact UInt8.toNat_inj.1 this
        rw [show kindOfB c = 126 from if_neg hc] at HST
        have hc2 : ¬ c.toNat = 105 := fun e => hc (UInt8.toNat_inj.1 e)
        go_wp2_with (at_builtin; go_loud (refine app_int elem_Kind (y := 126) rfl _ _ rfl rfl rfl rfl ho1 (by omega) (by omega) hsz ?_); intro v' w' ho' hb' hg'; have HO := hid ho'; have HB2 := hid (hb1.out.trans (hb'.mono (Nat.le_succ _))); have HI2 := hid ((hb'.block w.heap.size (Nat.lt_succ_self _)).trans hI1.out); clear ho' hb' hg')
        go_roundw
        case rel => exact ⟨k + 1, v', by omega, rfl, by rw [HST.out]; exact HO.out, HI2, HB2⟩
        case measure =>
          have h2 : w'.iterPos w.heap.size = k + 1 := by simp [World.iterPos, HI2.out]
          rw [HMU.out, h2]; omega
    · have hnext : ∀ ty, (Instr.next (.pointer (some ⟨w.heap.size, 0, none⟩)) true ty).run Try.prog wr = _ := fun ty => run_next_end_at wr w.heap.size s k ty HI.out hp
      have hall : s.data.toList.take k = s.data.toList := List.take_of_length_le (by rw [HL.out]; omega)
      rw [hall] at hown
      clear hall
      go_wp2_with fail
      go_ret
      exact ⟨vv, rfl, own_mono hown (Nat.le_succ _), HB.out⟩
end Go.Proofs.Ytomaiolhaenmhaa
