/-
  HOST: Pid, Number and Tell, both sides. No condition.
-/
import Derived.Test.YtpapblahnbeccaaHot
import Derived.Test.YtpapblahnbeccaaBytes
import Derived.Test.YtpapblahnbeccaaLawK
import Derived.Laws.BitsAllLaws
namespace Go.Proofs.Ytpapblahnbeccaa
open Go.RowKit Go.Lib

theorem wraps_i64 (n : Int) (h₀ : 0 ≤ n) (h₁ : n < 2 ^ 63) : IntKind.i64.wrap n = n := by rw [IntKind.wrap_i64]; omega
theorem i64_and255 (n : Int) : bits .and .i64 n 255 = n % 256 := by
  simp only [bits, BitVec.toNat_and]
  have e2 : (BitVec.ofInt (IntKind.i64.bits) (255 : Int)).toNat = 255 := by decide
  rw [e2, show (255 : Nat) = 2 ^ 8 - 1 by decide, Nat.and_two_pow_sub_one_eq_mod, BitVec.toNat_ofInt]
  have h : (((n % ((2 ^ IntKind.i64.bits : Nat) : Int)).toNat % 2 ^ 8 : Nat) : Int) = n % 256 := by
    show (((n % 18446744073709551616).toNat % 256 : Nat) : Int) = n % 256
    omega
  rw [h, wraps_i64 _ (by omega) (by omega)]
theorem u32_and255 (n : Int) : bits .and .u32 (n % 4294967296) 255 = n % 256 := by
  rw [u32_and _ _ (by omega) (by omega) (by decide) (by decide)]
  show (((n % 4294967296).toNat &&& (2 ^ 8 - 1) : Nat) : Int) = _
  rw [Nat.and_two_pow_sub_one_eq_mod]
  omega
theorem i64_or8 (x y : Int) (h0 : 0 ≤ x) (h1 : x < 256) (h2 : 0 ≤ y) (h3 : y < 256) : bits .or .i64 (x * 256) y = x * 256 + y :=
  bits_join .i64 63 (by decide) wraps_i64 8 (x * 256) y (by omega) (by omega) (by omega) h2 (by omega) (by omega)

def pidB (n : Int) : Bool := decide (n % 4294967296 / 256 < 3) && decide (1 ≤ n % 256) && decide (n % 256 ≤ 16)
def pidV (n : Int) : Value := if pidB n = true then .tuple #[.agg #[.int .i64 (n % 4294967296 / 256), .int .i64 (n % 256)], .bool true] else .tuple #[.agg #[.int .i64 0, .int .i64 0], .bool false]
theorem pidV_yes {n : Int} (h1 : n % 4294967296 / 256 < 3) (h2 : 1 ≤ n % 256) (h3 : n % 256 ≤ 16) : pidV n = .tuple #[.agg #[.int .i64 (n % 4294967296 / 256), .int .i64 (n % 256)], .bool true] := if_pos (by simp [pidB, h1, h2, h3])
theorem pidV_no {n : Int} (h : ¬ (n % 4294967296 / 256 < 3 ∧ 1 ≤ n % 256 ∧ n % 256 ≤ 16)) : pidV n = .tuple #[.agg #[.int .i64 0, .int .i64 0], .bool false] := if_neg (by simp [pidB]; omega)
theorem below2 (w : World) (a b : Obj) : Below w.heap.size w ((w.alloc a).alloc b) := ((Below.refl _ _).alloc (Nat.le_refl _) _).alloc (by simp) _

set_option maxRecDepth 100000 in
set_option maxHeartbeats 2000000 in
theorem pid_any (n : Int) (w : World) :
    Calls Try.prog 57 #[.int .i64 n] w fun e w' => e = .returned (pidV n) ∧ Below w.heap.size w w' := by
  have e1 := u32_and255 n
  have e2 : wrap64 (n % 256) = n % 256 := by unfold wrap64; omega
  by_cases h1 : n % 4294967296 / 256 < 3
  · by_cases h2 : 1 ≤ n % 256
    · by_cases h3 : n % 256 ≤ 16
      · have hv := hid (pidV_yes h1 h2 h3)
        have u1 : decide (3 ≤ n % 4294967296 / 256) = false := by simp; omega
        have u2 : decide (n % 256 < 1) = false := by simp; omega
        have u3 : decide (16 < n % 256) = false := by simp; omega
        go_enter Try.func57, Try.ntmps57
        go_wp2_with fail
        refine bodyPost_ret (v := .tuple #[.agg #[.int .i64 (n % 4294967296 / 256), .int .i64 (n % 256)], .bool true]) (by simp [results, Try.results57, go_sem]) rfl ?_
        exact ⟨by rw [hv.out], below2 _ _ _⟩
      · have hv := hid (pidV_no (n := n) (fun h => h3 h.2.2))
        have u1 : decide (3 ≤ n % 4294967296 / 256) = false := by simp; omega
        have u2 : decide (n % 256 < 1) = false := by simp; omega
        have u3 : decide (16 < n % 256) = true := by simp; omega
        go_enter Try.func57, Try.ntmps57
        go_wp2_with fail
        refine bodyPost_ret (v := .tuple #[.agg #[.int .i64 0, .int .i64 0], .bool false]) (by simp [results, Try.results57, go_sem]) rfl ?_
        exact ⟨by rw [hv.out], below2 _ _ _⟩
    · have hv := hid (pidV_no (n := n) (fun h => h2 h.2.1))
      have u1 : decide (3 ≤ n % 4294967296 / 256) = false := by simp; omega
      have u2 : decide (n % 256 < 1) = true := by simp; omega
      go_enter Try.func57, Try.ntmps57
      go_wp2_with fail
      refine bodyPost_ret (v := .tuple #[.agg #[.int .i64 0, .int .i64 0], .bool false]) (by simp [results, Try.results57, go_sem]) rfl ?_
      exact ⟨by rw [hv.out], below2 _ _ _⟩
  · have hv := hid (pidV_no (n := n) (fun h => h1 h.1))
    have u1 : decide (3 ≤ n % 4294967296 / 256) = true := by simp; omega
    go_enter Try.func57, Try.ntmps57
    go_wp2_with fail
    refine bodyPost_ret (v := .tuple #[.agg #[.int .i64 0, .int .i64 0], .bool false]) (by simp [results, Try.results57, go_sem]) rfl ?_
    exact ⟨by rw [hv.out], below2 _ _ _⟩

set_option maxRecDepth 100000 in
set_option maxHeartbeats 2000000 in
theorem hostPid_any (n : Int) (w : World) (h0 : -9223372036854775808 ≤ n) (h9 : n ≤ 9223372036854775807) :
    Calls Try.prog 58 #[.int .i64 n] w fun e w' => e = .returned (pidV n) ∧ Below w.heap.size w w' := by
  have HR := hid (fun w' => rest_any n 4294967296 w' h0 h9 (by decide) (by decide))
  have e1 : n % 4294967296 % 256 = n % 256 := by omega
  have hn0 : 0 ≤ n % 4294967296 := by omega
  have hn1 : n % 4294967296 < 4294967296 := by omega
  have a1 : (n % 4294967296).tdiv 256 = n % 4294967296 / 256 := by rw [Int.tdiv_eq_ediv_of_nonneg hn0]
  have a2 : (n % 4294967296).tmod 256 = n % 256 := by rw [Int.tmod_eq_emod_of_nonneg hn0, e1]
  by_cases h1 : n % 4294967296 / 256 < 3
  · by_cases h2 : 1 ≤ n % 256
    · have u2 : (n % 256 == 0) = false := by rw [beq_eq_false_iff_ne]; omega
      have u1 : decide (2 < n % 4294967296 / 256) = false := by simp; omega
      by_cases h3 : n % 256 ≤ 16
      · have hv := hid (pidV_yes h1 h2 h3)
        have u3 : decide (16 < n % 256) = false := by simp; omega
        go_enter Try.func58, Try.ntmps58
        go_wp2_with (go_at_call 88; refine (HR.out _).mono ?_; rintro e w1 ⟨rfl, rfl⟩)
        refine bodyPost_ret (v := .tuple #[.agg #[.int .i64 (n % 4294967296 / 256), .int .i64 (n % 256)], .bool true]) (by simp [results, Try.results58, go_sem]) rfl ?_
        exact ⟨by rw [hv.out], below2 _ _ _⟩
      · have hv := hid (pidV_no (n := n) (fun h => h3 h.2.2))
        have u3 : decide (16 < n % 256) = true := by simp; omega
        go_enter Try.func58, Try.ntmps58
        go_wp2_with (go_at_call 88; refine (HR.out _).mono ?_; rintro e w1 ⟨rfl, rfl⟩)
        refine bodyPost_ret (v := .tuple #[.agg #[.int .i64 0, .int .i64 0], .bool false]) (by simp [results, Try.results58, go_sem]) rfl ?_
        exact ⟨by rw [hv.out], below2 _ _ _⟩
    · have hv := hid (pidV_no (n := n) (fun h => h2 h.2.1))
      have u1 : decide (2 < n % 4294967296 / 256) = false := by simp; omega
      have u2 : (n % 256 == 0) = true := by rw [beq_iff_eq]; omega
      go_enter Try.func58, Try.ntmps58
      go_wp2_with (go_at_call 88; refine (HR.out _).mono ?_; rintro e w1 ⟨rfl, rfl⟩)
      refine bodyPost_ret (v := .tuple #[.agg #[.int .i64 0, .int .i64 0], .bool false]) (by simp [results, Try.results58, go_sem]) rfl ?_
      exact ⟨by rw [hv.out], below2 _ _ _⟩
  · have hv := hid (pidV_no (n := n) (fun h => h1 h.1))
    have u1 : decide (2 < n % 4294967296 / 256) = true := by simp; omega
    go_enter Try.func58, Try.ntmps58
    go_wp2_with (go_at_call 88; refine (HR.out _).mono ?_; rintro e w1 ⟨rfl, rfl⟩)
    refine bodyPost_ret (v := .tuple #[.agg #[.int .i64 0, .int .i64 0], .bool false]) (by simp [results, Try.results58, go_sem]) rfl ?_
    exact ⟨by rw [hv.out], below2 _ _ _⟩
def numV (a b : Int) : Int := a % 256 * 256 + b % 256
set_option maxRecDepth 100000 in
set_option maxHeartbeats 2000000 in
theorem number_any (a b : Int) (w : World) :
    Calls Try.prog 60 #[.agg #[.int .i64 a, .int .i64 b]] w fun e w' => e = .returned (.int .i64 (numV a b)) ∧ Below w.heap.size w w' := by
  have e1 := i64_and255 a
  have e2 := i64_and255 b
  have e3 := i64_or8 (a % 256) (b % 256) (by omega) (by omega) (by omega) (by omega)
  have hv := hid (show numV a b = a % 256 * 256 + b % 256 from rfl)
  go_enter Try.func60, Try.ntmps60
  go_wp2_with fail
  go_ret
  exact ⟨ret1 (by rw [hv.out]), (Below.refl _ _).alloc (Nat.le_refl _) _⟩
end Go.Proofs.Ytpapblahnbeccaa
