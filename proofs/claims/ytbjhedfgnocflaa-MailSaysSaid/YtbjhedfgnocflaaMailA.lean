/-
  MAILBOXES, THE PARTS: who is asked for (both sides), the first one that is asked for. Conditions: tags from 0 to 63.
-/
import Derived.Test.YtbjhedfgnocflaaLetter
import Derived.Laws.BitsAllLaws
import Derived.Laws.BitsLemmas
import Derived.Laws.Bits64
import Derived.Laws.ShiftsVarLaws
namespace Go.Proofs.Ytbjhedfgnocflaa
open Go.RowKit Go.Lib

def askB (m : Nat) (t : Int) : Bool := m.testBit t.toNat

theorem shr_bit (m t : Nat) (hm : m < 18446744073709551616) : (bits .and .u64 ((m : Int) / 2 ^ t) 1 == 1) = m.testBit t := by
  have e4 : ((m : Int) / 2 ^ t) = ((m / 2 ^ t : Nat) : Int) := by push_cast; rfl
  have hlt : m / 2 ^ t < 18446744073709551616 := Nat.lt_of_le_of_lt (Nat.div_le_self _ _) hm
  have h := bits_mask .u64 64 (by decide) (fun n h0 h1 => by rw [IntKind.wrap_u64]; omega) 1 (by decide) ((m / 2 ^ t : Nat) : Int) (Int.natCast_nonneg _) (by exact_mod_cast hlt)
  have e5 : ((2 : Int) ^ 1 - 1) = 1 := by decide
  rw [e5] at h
  rw [e4, h, Nat.testBit_eq_decide_div_mod_eq]
  by_cases h1 : m / 2 ^ t % 2 = 1
  · rw [decide_eq_true h1]
    have : ((m / 2 ^ t : Nat) : Int) % 2 ^ 1 = 1 := by exact_mod_cast h1
    rw [this]; rfl
  · rw [decide_eq_false h1]
    have h2 : m / 2 ^ t % 2 = 0 := by omega
    have : ((m / 2 ^ t : Nat) : Int) % 2 ^ 1 = 0 := by exact_mod_cast h2
    rw [this]; rfl

set_option maxRecDepth 100000 in
theorem ask1_any (m : Nat) (hm : m < 18446744073709551616) (x : Letter) (b : Nat) (w : World) (h0 : 0 ≤ x.tag) (h1 : x.tag ≤ 63) (hc : w.cell? ⟨b, 0, none⟩ = some (.int .u64 m)) :
    Calls Try.prog 109 #[.agg #[.int .i64 x.node, .int .i64 x.num, .int .i64 x.tag, .string x.body], .pointer (some ⟨b, 0, none⟩)] w fun e w' => e = .returned (.bool (askB m x.tag)) ∧ Below w.heap.size w w' := by
  obtain ⟨t, ht⟩ := Int.eq_ofNat_of_zero_le h0
  obtain ⟨n1, n2, tag, body⟩ := x
  simp only at ht h0 h1 ⊢
  subst ht
  have hb := hid (shr_bit m t hm)
  have hcc := fun o => cell_alloc o hc
  go_enter Try.func109, Try.ntmps109
  go_wp2_with fail
  go_ret
  exact ⟨retB (hb.out), (Below.refl _ _).alloc (Nat.le_refl _) _⟩

set_option maxRecDepth 100000 in
theorem asks_any (m : Nat) (hm : m < 18446744073709551616) (x : Int) (w : World) (h0 : 0 ≤ x) (h1 : x ≤ 63) :
    Calls Try.prog 87 #[.int .u64 m, .int .i64 x] w fun e w' => e = .returned (.bool (askB m x)) ∧ w = w' := by
  obtain ⟨t, rfl⟩ := Int.eq_ofNat_of_zero_le h0
  go_enter Try.func87, Try.ntmps87
  go_wp2_with fail
  go_loop [0, 6] (fun q i => ∃ (k n : Nat), k ≤ t ∧ i = .int .i64 k ∧ q = .int .u64 n ∧ (n : Int) < 18446744073709551616 ∧ Hid (n = m / 2 ^ k)) (fun _ i => t - (intOf i).toNat)
  case atStart => exact ⟨0, m, Nat.zero_le _, rfl, rfl, by omega, by show _ = _; simp⟩
  case round =>
    obtain ⟨k, n, hk, rfl, rfl, hn, hq⟩ := hrel
    by_cases hlt : k < t
    · go_wp2_with fail
      go_round
      case rel => exact ⟨k + 1, n / 2, by omega, by go_num, by go_num, by omega, by show _ = _; rw [hq.out, Nat.div_div_eq_div_mul, ← Nat.pow_succ]⟩
      case measure => simp [intOf]; omega
    · obtain rfl : k = t := by omega
      go_wp2_with fail
      go_ret
      refine ⟨retB ?_, rfl⟩
      unfold askB
      rw [Int.toNat_natCast, Nat.testBit_eq_decide_div_mod_eq, ← hq.out]
      rw [Bool.eq_iff_iff]
      simp
      omega

/-- the place of the first one that fits, or -1 -/
def firstI {α : Type} (p : α → Bool) (xs : List α) : Int := match xs.findIdx? p with
  | some i => (i : Int)
  | none => -1
theorem firstI_at {α : Type} {p : α → Bool} {xs : List α} {k : Nat} (hk : k < xs.length) (hall : ∀ y ∈ xs.take k, p y = false) (hp : p xs[k] = true) : firstI p xs = (k : Int) := by
  have : xs.findIdx? p = some k := by
    rw [List.findIdx?_eq_some_iff_getElem]
    refine ⟨hk, hp, fun j hj => ?_⟩
    have := hall (xs[j]'(by omega)) (List.mem_take_iff_getElem.2 ⟨j, by omega, rfl⟩)
    simp [this]
  unfold firstI; rw [this]
theorem firstI_none {α : Type} {p : α → Bool} {xs : List α} (hall : ∀ y ∈ xs, p y = false) : firstI p xs = -1 := by
  have : xs.findIdx? p = none := by
    rw [List.findIdx?_eq_none_iff]; exact hall
  unfold firstI; rw [this]
theorem take_false {α : Type} {p : α → Bool} {xs : List α} {k : Nat} (hk : k < xs.length) (hall : ∀ y ∈ xs.take k, p y = false) (hp : p xs[k] = false) : ∀ y ∈ xs.take (k + 1), p y = false := by
  rw [List.take_succ_eq_append_getElem hk]
  intro y hy
  rcases List.mem_append.1 hy with h | h
  · exact hall y h
  · simp at h; rw [h]; exact hp

def okTags (xs : List Letter) : Prop := ∀ x ∈ xs, 0 ≤ x.tag ∧ x.tag ≤ 63

set_option maxRecDepth 100000 in
set_option maxHeartbeats 1000000 in
theorem indexL_any (v : Value) (xs : List Letter) (m : Nat) (hm : m < 18446744073709551616) (b : Nat) (w : World) (hv : Lk encLetter w v xs) (ht : okTags xs) (hc : w.cell? ⟨b, 0, none⟩ = some (.int .u64 m)) :
    Calls Try.prog 108 #[v, .func (.func 109) #[] #[.pointer (some ⟨b, 0, none⟩)]] w fun e w' => e = .returned (.int .i64 (firstI (fun x => askB m x.tag) xs)) ∧ Below w.heap.size w w' := by
  rcases hv.open encLetter_len (by decide) with ⟨ao, cap, rfl, rfl, _⟩ | ⟨b', off, cap, rfl, h0, hcap, hm', hcc⟩
  · clear hv
    go_enter Try.func108, Try.ntmps108
    go_wp2_with fail
    refine wp_loop_rounds 1 ?_; rw [rounds_succ]; go_wp2_with fail
    go_ret
    exact ⟨rfl, Below.refl _ _⟩
  · have HV := hid hv
    have HT := hid ht
    have HC := hid hc
    clear hv hcc ht hc
    go_enter Try.func108, Try.ntmps108
    go_wp2_with fail
    go_loopw [8] (fun i wr => ∃ k : Nat, k ≤ xs.length ∧ i = .int .i64 k ∧ Below w.heap.size w wr ∧ Hid (∀ y ∈ xs.take k, (fun x : Letter => askB m x.tag) y = false)) (fun i _ => xs.length - (intOf i).toNat)
    case atStart => exact ⟨0, Nat.zero_le _, rfl, Below.refl _ _, by simp [Hid]⟩
    case round =>
      obtain ⟨k, hk, rfl, hbel, hall⟩ := hrel
      by_cases hlt : k < xs.length
      · obtain ⟨_, _, _, hc⟩ := lk_cells (Lk.below HV.out hbel) encLetter_len (by decide) h0
        have hx0 := hc k hlt 0 (by decide); have hx1 := hc k hlt 1 (by decide); have hx2 := hc k hlt 2 (by decide); have hx3 := hc k hlt 3 (by decide)
        clear hc
        rw [show (encLetter xs[k])[0]? = some (.int .i64 xs[k].node) from rfl, Nat.add_zero] at hx0; rw [show (encLetter xs[k])[1]? = some (.int .i64 xs[k].num) from rfl] at hx1; rw [show (encLetter xs[k])[2]? = some (.int .i64 xs[k].tag) from rfl] at hx2; rw [show (encLetter xs[k])[3]? = some (.string xs[k].body) from rfl] at hx3
        have htg := HT.out xs[k] (List.getElem_mem hlt)
        have hbc := (hbel.cell (p := ⟨b, 0, none⟩) (World.block_lt_of_cell? _ _ HC.out)).trans HC.out
        have hask := ask1_any m hm xs[k] b wr htg.1 htg.2 hbc
        have hat : askB m xs[k].tag = true → firstI (fun x : Letter => askB m x.tag) xs = (k : Int) := fun h => firstI_at hlt hall.out h
        have htf : askB m xs[k].tag = false → Hid (∀ y ∈ xs.take (k + 1), (fun x : Letter => askB m x.tag) y = false) := fun h => take_false hlt hall.out h
        have hsz := hbel.size
        generalize askB m xs[k].tag = r at *
        have HASK := hid hask
        have HAT := hid hat
        have HTF := hid htf
        clear hask hat htf
        cases r
        · have hnext := HTF.out rfl
          clear HTF HAT
          go_wp2_with (go_at_call 109; refine HASK.out.mono ?_; rintro e w' ⟨rfl, hb2⟩)
          go_roundw
          case rel => exact ⟨k + 1, by omega, by go_num, hbel.trans (hb2.mono hsz), hnext⟩
          case measure => simp [intOf]; omega
        · have hfin := hid (HAT.out rfl)
          clear HTF HAT
          go_wp2_with (go_at_call 109; refine HASK.out.mono ?_; rintro e w' ⟨rfl, hb2⟩)
          go_ret
          exact ⟨ret1 hfin.out.symm, hbel.trans (hb2.mono hsz)⟩
      · obtain rfl : k = xs.length := by omega
        go_wp2_with fail
        go_ret
        refine ⟨ret1 (firstI_none ?_).symm, hbel⟩
        have := hall.out
        rwa [List.take_length] at this
end Go.Proofs.Ytbjhedfgnocflaa
