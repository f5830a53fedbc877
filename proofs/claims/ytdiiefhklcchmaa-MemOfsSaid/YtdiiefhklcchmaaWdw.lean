/-
  THE REFERENCE's WORDS: wordOf and value. No condition beside the readings.
-/
import Derived.Test.YtdiiefhklcchmaaWdm
import Derived.Test.YtdiiefhklcchmaaRowK
import Derived.Laws.ShiftsVarLaws
namespace Go.Proofs.Ytdiiefhklcchmaa
open Go.RowKit Go.Lib

theorem one_bool : ∀ x : Bool, (Value.bool x).oneCell' = true := fun _ => rfl
theorem elem_word : Elem Try.prog 66 4 (.bool false) 1 1 := ⟨Try.underlying66, by kernel_rfl, rfl, by decide⟩
abbrev OwnB (w : World) (base : Nat) (v : Value) (xs : List Bool) : Prop := O1 Value.bool w base 4 v xs
abbrev Bools (w : World) (v : Value) (xs : List Bool) : Prop := L1 Value.bool w v xs

set_option maxRecDepth 100000 in
set_option maxHeartbeats 1000000 in
theorem wordOf_any (a : Int) (n : Nat) (hn : n ≤ 64) (w : World) :
    Calls Try.prog 31 #[.int .i64 a, .int .i64 n] w fun e w' => ∃ v, e = .returned v ∧ OwnB w' w.heap.size v (bl (BitVec.ofInt n a)) ∧ Below w.heap.size w w' := by
  go_enter Try.func31, Try.ntmps31
  go_wp2_with fail
  go_loopw [8, 5] (fun i v wr => ∃ (k : Nat) (vv : Value), k ≤ n ∧ i = .int .i64 k ∧ v = vv ∧ OwnB wr w.heap.size vv ((bl (BitVec.ofInt n a)).take k) ∧ Hid (Below w.heap.size w wr) ∧ w.heap.size ≤ wr.heap.size) (fun i _ _ => n - (RowKit.intOf i).toNat)
  case atStart => exact ⟨0, _, Nat.zero_le _, rfl, rfl, O1.nil _ _ _ _, hid (Below.refl _ _), Nat.le_refl _⟩
  case round =>
    obtain ⟨k, vv, hk, rfl, hvv, hown, HB, hsz⟩ := hrel
    have hvv2 := hvv.symm
    subst hvv2
    clear hvv
    by_cases hlt : k < n
    · have hln := bl_take_len (BitVec.ofInt n a) k hk
      have hst := hid (bl_take (BitVec.ofInt n a) k hlt)
      have hbit := word_bit a n k hlt
      generalize (bl (BitVec.ofInt n a)).take k = L at *
      have hlen : L.length + 1 ≤ 100 := by omega
      have hk63 : k < 64 := by omega
      clear hln
      go_wp2_with (at_builtin; go_loud (refine app_o1 one_bool elem_word (y := (BitVec.ofInt n a).getLsbD k) rfl _ _ rfl rfl rfl rfl hown (by omega) (by omega) hsz ?_); intro v' w' ho' hb' hg'; have HO := hid ho'; have HB2 := hid (HB.out.trans hb'); have hsz2 := HB2.out.size; clear ho' hb' hg')
      go_roundw
      case rel => exact ⟨k + 1, v', by omega, by go_num, rfl, by rw [hst.out]; exact HO.out, HB2, hsz2⟩
      case measure => simp [RowKit.intOf]; omega
    · obtain rfl : k = n := by omega
      rw [bl_full] at hown
      go_wp2_with fail
      go_ret
      exact ⟨vv, rfl, hown, HB.out⟩
theorem bools_open {n : Nat} (b : BitVec n) (h0 : 0 < n) {w : World} {v : Value} (hv : Bools w v (bl b)) : ∃ g off cap, v = .slice (some ⟨g, off, none⟩) n cap ∧ n ≤ cap ∧ cap ≤ 9223372036854775807 ∧ Hid (∀ j (_ : j < n), w.cell? ⟨g, off + j, none⟩ = some (.bool (b.getLsbD j))) := by
  have hlen := bl_length b
  rcases hv.open with ⟨ao, cap, _, hx, _⟩ | ⟨g, off, cap, rfl, hl0, hcap, hm, hc⟩
  · rw [hx] at hlen; simp at hlen; omega
  · refine ⟨g, off, cap, by rw [hlen], by omega, hm, hid (fun j h => ?_)⟩
    rw [hc j (by omega), bl_get]
theorem or_step {w : Nat} (b : BitVec w) (k : Nat) (hw : w ≤ 64) (hk : k < w) (h : b.getLsbD k = true) : bits .or .i64 (lowK b k).toInt (wrap64 (2 ^ k)) = (lowK b (k + 1)).toInt := by
  rw [show wrap64 (2 ^ k) = IntKind.i64.wrap (2 ^ k) from by unfold wrap64; rw [IntKind.wrap_i64], shl_toInt k (by omega), or_toInt, lowK_yes b k hw hk h]
theorem value_end {w : Nat} (b : BitVec w) (hw : w < 64) : b.toInt = if b.getLsbD (w - 1) = true then (lowK b w).toInt - 2 ^ w else (lowK b w).toInt := by
  rw [lowK_full b hw, BitVec.toInt_eq_msb_cond, BitVec.msb_eq_getLsbD_last]
  rw [show (((2 ^ w : Nat) : Int)) = (2 : Int) ^ w by push_cast; rfl]
theorem low_bd {w : Nat} (b : BitVec w) (hw : w ≤ 62) : 0 ≤ (lowK b w).toInt ∧ (lowK b w).toInt < 2 ^ w ∧ (2 : Int) ^ w ≤ 4611686018427387904 := by
  rw [lowK_full b (by omega)]
  have h1 := b.isLt
  refine ⟨by omega, by exact_mod_cast h1, ?_⟩
  have h2 : 2 ^ w ≤ 2 ^ 62 := Nat.pow_le_pow_right (by decide) (by omega)
  rw [show (2 : Nat) ^ 62 = 4611686018427387904 from by decide] at h2
  rw [← show ((2 ^ w : Nat) : Int) = (2 : Int) ^ w by push_cast; rfl]
  omega

set_option maxRecDepth 100000 in
set_option maxHeartbeats 2000000 in
theorem value_any {n : Nat} (b : BitVec n) (h0 : 0 < n) (hnn : n ≤ 62 ∨ n = 64) (w : World) (v : Value) (hv : Bools w v (bl b)) :
    Calls Try.prog 30 #[v] w fun e w' => e = .returned (.int .i64 b.toInt) ∧ w = w' := by
  have hn : n ≤ 64 := by omega
  obtain ⟨g, off, cap, rfl, hcap, hm, HC⟩ := bools_open b h0 hv
  clear hv
  go_enter Try.func30, Try.ntmps30
  go_wp2_with fail
  go_loop [8, 3] (fun i r => ∃ k : Nat, k ≤ n ∧ i = .int .i64 k ∧ r = .int .i64 (lowK b k).toInt) (fun i _ => n - (RowKit.intOf i).toNat)
  case atStart => exact ⟨0, Nat.zero_le _, rfl, by rw [lowK_zero]⟩
  case round =>
    obtain ⟨k, hk, rfl, rfl⟩ := hrel
    by_cases hlt : k < n
    · have hck := HC.out k hlt
      have hk63 : k < 64 := by omega
      cases hb : b.getLsbD k with
      | true =>
        have hs := or_step b k hn hlt hb
        have HS := hid hs
        rw [hb] at hck
        clear hs hb
        go_wp2_with fail
        go_round
        case rel => exact ⟨k + 1, by omega, by go_num, by rw [← HS.out]⟩
        case measure => simp [RowKit.intOf]; omega
      | false =>
        have hs := hid (lowK_no b k hb)
        rw [hb] at hck
        clear hb
        go_wp2_with fail
        go_round
        case rel => exact ⟨k + 1, by omega, by go_num, by rw [hs.out]⟩
        case measure => simp [RowKit.intOf]; omega
    · obtain rfl : k = n := by omega
      have hcl := HC.out (k - 1) (by omega)
      have hk1 : off + (k - 1) = off + (k - 1) := rfl
      by_cases h64 : k = 64
      · subst h64
        have he := hid (lowK_full64 b)
        clear hcl
        go_wp2_with fail
        go_ret
        exact ⟨ret1 (by rw [he.out]), rfl⟩
      · have hk62 : k ≤ 62 := by omega
        have hk64 : k < 64 := by omega
        have he := value_end b hk64
        have hbd := low_bd b hk62
        have hp0 : (0 : Int) < 2 ^ k := Int.pow_pos (by decide)
        have hsub : ((k : Int) - 1) = ((k - 1 : Nat) : Int) := by omega
        have hwp : wrap64 (2 ^ k) = 2 ^ k := by unfold wrap64; omega
        have HE := hid he
        clear he
        cases hb : b.getLsbD (k - 1) with
        | true =>
          rw [hb] at hcl
          rw [hb, if_pos rfl] at HE
          go_wp2_with fail
          go_ret
          exact ⟨ret1 (by rw [HE.out]), rfl⟩
        | false =>
          rw [hb] at hcl
          rw [hb, if_neg (by decide)] at HE
          go_wp2_with fail
          go_ret
          exact ⟨ret1 (by rw [HE.out]), rfl⟩
end Go.Proofs.Ytdiiefhklcchmaa
