/-
  MEMORIES, the program's: Put. Conditions: the object's own invariant. (Under way.)
-/
import Derived.Test.YtdiiefhklcchmaaMeP
import Derived.Deep.RegionLaw
namespace Go.Proofs.Ytdiiefhklcchmaa
open Go.RowKit Go.Lib
attribute [local go_sem ↓] Go.wp_at_zero Go.wp_at_succ

def strLen : Value → Nat
  | .string s => s.size
  | _ => 0
theorem ext_SM (t : ByteArray) (a b : Nat) : t.extract a b = S ((t.data.toList.drop a).take (b - a)) := by
  rw [← S_of (t.extract a b), extract_data]
theorem size_u8 (w : World) : (Go.sizeOf 5).run Try.prog w = .ok 1 w := by kernel_rfl
set_option maxRecDepth 100000 in
set_option maxHeartbeats 2000000 in
theorem mput_bad (w : World) (base B p : Nat) (v : Value) (most : Int) (m : List Int) (a : Int) (s : ByteArray) (hp : p ≤ 8) (hbad : a < 0 ∨ (p : Int) * 256 < s.size ∨ (p : Int) * 256 - s.size < a) (h : MP w base B v p most m) :
    Calls Try.prog 21 #[.pointer (some ⟨B, 0, none⟩), .int .i64 a, .string s] w fun e w' => e = .returned (.int .i64 23) ∧ w = w' := by
  obtain ⟨ao, cap, rfl, -⟩ := own_sl h.own
  have c0 := h.blk.cell (i := 0) rfl
  have hp2 : (p : Int) ≤ 8 := by omega
  clear h
  rcases (show a < 0 ∨ (¬ a < 0 ∧ (p : Int) * 256 < s.size) ∨ (¬ a < 0 ∧ ¬ (p : Int) * 256 < s.size ∧ (p : Int) * 256 - s.size < a) from by omega) with g1 | ⟨g1, g2⟩ | ⟨g1, g2, g3⟩
  all_goals
    clear hbad
    go_enter Try.func21, Try.ntmps21
    go_wp2_with fail
    go_ret
    exact ⟨rfl, rfl⟩
set_option maxRecDepth 100000 in
set_option maxHeartbeats 4000000 in
theorem mput_good (w : World) (base B p : Nat) (v : Value) (most : Int) (m : List Int) (a : Nat) (l : List UInt8) (hp : p ≤ 8) (hin : a + l.length ≤ p * 256) (h : MP w base B v p most m) :
    Calls Try.prog 21 #[.pointer (some ⟨B, 0, none⟩), .int .i64 a, .string (S l)] w fun e w' => e = .returned (.int .i64 0) ∧ MP w' base B v p most (putL m a l) ∧ Touch (footM1 B v) w w' := by
  have H := hid h
  obtain ⟨ao, cap, rfl, -⟩ := own_sl h.own
  have c0 := h.blk.cell (i := 0) rfl
  have hp2 : (p : Int) ≤ 8 := by omega
  have hsz : (S l).size = l.length := S_size l
  have hin2 : (a : Int) + (l.length : Int) ≤ (p : Int) * 256 := by omega
  have HP := hid hin
  clear h hin
  go_enter Try.func21, Try.ntmps21
  go_wp2_with fail
  go_loopw [1, 2, 8] (fun av sv _ wr => ∃ d : Nat, d ≤ l.length ∧ av = .int .i64 ((a : Int) + d) ∧ sv = .string (S (l.drop d)) ∧ Hid (MP wr base B (.slice ao p cap) p most (putL m a (l.take d))) ∧ Hid (Touch (footM1 B (.slice ao p cap)) w wr)) (fun _ sv _ _ => strLen sv)
  case atStart => exact ⟨0, Nat.zero_le _, by simp, rfl, H, hid (Touch.refl _ _)⟩
  case round =>
    obtain ⟨d, hd, rfl, rfl, MM, TT⟩ := hrel
    have hszd : (S (l.drop d)).size = l.length - d := by rw [S_size, List.length_drop]
    by_cases hlt : d < l.length
    · obtain ⟨g, cap2, hv, hc1, hc2, hc, hf, _⟩ := MM.out.at (by have := HP.out; omega)
      simp only [Value.slice.injEq] at hv
      obtain ⟨rfl, -, rfl⟩ := hv
      have HLEN := hid MM.out.len
      have c1 := MM.out.blk.cell (i := 0) rfl
      obtain ⟨k0, hk0⟩ : ∃ k0, a + d = k0 := ⟨_, rfl⟩
      have hki : (a : Int) + (d : Int) = (k0 : Int) := by omega
      have hq : (k0 : Int).tdiv 256 = ((k0 / 256 : Nat) : Int) := by rw [Int.tdiv_eq_ediv_of_nonneg (by omega)]; omega
      have hr : (k0 : Int).tmod 256 = ((k0 % 256 : Nat) : Int) := by rw [Int.tmod_eq_emod_of_nonneg (by omega)]; omega
      have hqr : k0 / 256 * 256 + k0 % 256 = k0 := by omega
      have hq9 : (k0 / 256 : Nat) < p := by have := HP.out; omega
      have hr9 : k0 % 256 < 256 := by omega
      have hpg := run_page wr g (k0 / 256 * 256) (k0 % 256) hr9
      rw [hqr] at hpg
      obtain ⟨e, he⟩ : ∃ e, 256 - k0 % 256 = e := ⟨_, rfl⟩
      rw [he, show ((k0 % 256 : Nat) : Int) = (k0 : Int) % 256 from by omega] at hpg
      have he1 : 0 < e ∧ e ≤ 256 := by omega
      have hke : k0 + e ≤ p * 256 := by omega
      have hcp := fun ty => run_copy_cut (P := Try.prog) wr 34 9 ty 5 g k0 e e (S (l.drop d)) Try.underlying34 size_u8 (fun j hj => by rw [hc (k0 + j) (by rw [HLEN.out]; omega)]; rfl) (fun j _ => hf (k0 + j))
      rw [S_data, hszd] at hcp
      clear hc hf
      go_wp2_with fail
      go_roundw
      case rel =>
        obtain ⟨c, hcn⟩ : ∃ c, min (l.length - d) e = c := ⟨_, rfl⟩
        have hci : (min ((l.length - d : Nat) : Int) (e : Int)).toNat = c := by omega
        have hmm := MM.out.puts ((l.drop d).take c) k0
        refine ⟨d + c, by omega, by congr 1; omega, ?_, ?_, ?_⟩
        · rw [hci, ext_SM, S_data, List.drop_drop, List.take_of_length_le (by rw [List.length_drop]; omega)]
        · rw [hcn, ← List.map_drop, ← List.map_take]
          have hq2 := putL_app (l.take d) ((l.drop d).take c) m a
          rw [List.length_take, Nat.min_eq_left hd, hk0, ← List.take_add] at hq2
          rw [hq2]
          exact hid hmm
        · exact hid (TT.out.trans ((touch_puts _ _ _).mono (fun k _ e => .inr (by rw [e]; rfl))))
      case measure =>
        have hci : 0 < (min ((l.length - d : Nat) : Int) (e : Int)).toNat := by omega
        show ((S (l.drop d)).extract _ _).size < (S (l.drop d)).size
        rw [ext_SM, S_size, S_data, List.length_take, List.length_drop, List.length_drop, S_size, List.length_drop]
        omega
    · obtain rfl : d = l.length := by omega
      rw [List.take_length] at MM
      have h0 : (S (l.drop l.length)).size = 0 := by rw [hszd]; omega
      go_wp2_with fail
      go_ret
      exact ⟨rfl, MM.out, TT.out⟩
end Go.Proofs.Ytdiiefhklcchmaa
