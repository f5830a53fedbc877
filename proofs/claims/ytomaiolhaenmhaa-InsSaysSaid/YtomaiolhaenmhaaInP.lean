/-
  INSTRUCTIONS: Plain, both sides. Condition: the number is a byte.
-/
import Derived.Test.YtomaiolhaenmhaaInN
import Derived.Test.YtomaiolhaenmhaaInD
import Derived.Test.YtomaiolhaenmhaaKin
import Derived.Test.YtomaiolhaenmhaaCut
namespace Go.Proofs.Ytomaiolhaenmhaa
open Go.RowKit Go.Lib

/-- the kinds that are taken, and given, by the number of the letters -/
def kI (t : Nat) : List Int := [[], [127], [126], [127, 127], [126, 126], [126], [126, 126], [127], [127, 127], [127, 126], [], []].getD t []
def kO (t : Nat) : List Int := [[], [127], [127], [127], [127], [126], [126], [126], [], [], [127], [126]].getD t []
theorem kinds_nil (w : World) : Kinds w (.slice none 0 0) [] := ⟨none, 0, rfl, by simp, by simp, by simp, .inl rfl⟩

set_option maxRecDepth 100000 in
set_option maxHeartbeats 16000000 in
theorem plain_any (op : Nat) (hop : op < 256) (w : World) :
    Calls Try.prog 54 #[.int .u8 op] w fun e w' => ∃ v u, e = .returned (.tuple #[v, u, .bool (decide (tT op ≠ 0))]) ∧ Kinds w' v (kI (tT op)) ∧ Kinds w' u (kO (tT op)) ∧ Below w.heap.size w w' := by
  rcases (by omega : (0 ≤ op ∧ op ≤ 39) ∨ (40 ≤ op ∧ op ≤ 40) ∨ (41 ≤ op ∧ op ≤ 41) ∨ (42 ≤ op ∧ op ≤ 43) ∨ (44 ≤ op ∧ op ≤ 47) ∨ (48 ≤ op ∧ op ≤ 53) ∨ (54 ≤ op ∧ op ≤ 54) ∨ (55 ≤ op ∧ op ≤ 55) ∨ (56 ≤ op ∧ op ≤ 57) ∨ (58 ≤ op ∧ op ≤ 59) ∨ (60 ≤ op ∧ op ≤ 62) ∨ (63 ≤ op ∧ op ≤ 63) ∨ (64 ≤ op ∧ op ≤ 64) ∨ (65 ≤ op ∧ op ≤ 65) ∨ (66 ≤ op ∧ op ≤ 66) ∨ (67 ≤ op ∧ op ≤ 68) ∨ (69 ≤ op ∧ op ≤ 69) ∨ (70 ≤ op ∧ op ≤ 79) ∨ (80 ≤ op ∧ op ≤ 80) ∨ (81 ≤ op ∧ op ≤ 90) ∨ (91 ≤ op ∧ op ≤ 102) ∨ (103 ≤ op ∧ op ≤ 105) ∨ (106 ≤ op ∧ op ≤ 120) ∨ (121 ≤ op ∧ op ≤ 123) ∨ (124 ≤ op ∧ op ≤ 138) ∨ (139 ≤ op ∧ op ≤ 166) ∨ (167 ≤ op ∧ op ≤ 167) ∨ (168 ≤ op ∧ op ≤ 171) ∨ (172 ≤ op ∧ op ≤ 173) ∨ (174 ≤ op ∧ op ≤ 191) ∨ (192 ≤ op ∧ op ≤ 193) ∨ (194 ≤ op ∧ op ≤ 196) ∨ (197 ≤ op ∧ op ≤ 255)) with hr | hr | hr | hr | hr | hr | hr | hr | hr | hr | hr | hr | hr | hr | hr | hr | hr | hr | hr | hr | hr | hr | hr | hr | hr | hr | hr | hr | hr | hr | hr | hr | hr
  · have t_tT : tT op = 0 := (by decide +kernel : ∀ x, x < 256 → 0 ≤ x ∧ x ≤ 39 → tT x = 0) op hop hr
    rw [t_tT]
    have e63 : ((op : Int) == 63) = false := by simp; omega
    have e64 : ((op : Int) == 64) = false := by simp; omega
    have e65 : ((op : Int) == 65) = false := by simp; omega
    have e66 : ((op : Int) == 66) = false := by simp; omega
    have k54 : (op : Int) < 54 := by omega
    have HN := hid (fun w2 => numeric_any op hop w2)
    rw [(by decide +kernel : ∀ x, x < 256 → 0 ≤ x ∧ x ≤ 39 → tN x = 0) op hop hr, (by decide +kernel : ∀ x, x < 256 → 0 ≤ x ∧ x ≤ 39 → tI x = 0) op hop hr, (by decide +kernel : ∀ x, x < 256 → 0 ≤ x ∧ x ≤ 39 → tO x = 0) op hop hr, show decide (tQ op = 1) = false from by rw [(by decide +kernel : ∀ x, x < 256 → 0 ≤ x ∧ x ≤ 39 → tQ x = 0) op hop hr]; rfl] at HN
    have HW := hid (fun w2 => width_any op hop w2)
    rw [(by decide +kernel : ∀ x, x < 256 → 0 ≤ x ∧ x ≤ 39 → tW x = 0) op hop hr] at HW
    go_enter Try.func54, Try.ntmps54
    go_wp2_with (first | (go_at_call 123; refine (HN.out _).mono ?_; rintro r w2 ⟨v, rfl, hk, hb⟩; have B2 := hid hb; have K2 := hid hk; clear hk hb) | (go_at_call 57; refine (HW.out _).mono ?_; rintro r w1 ⟨rfl, rfl⟩) | (go_at_call 124; refine (HK.out _).mono ?_; rintro r w1 ⟨rfl, rfl⟩))
    go_ret3
    exact ⟨_, _, rfl, kinds_nil _, kinds_nil _, B2.out⟩
  · have t_tT : tT op = 1 := (by decide +kernel : ∀ x, x < 256 → 40 ≤ x ∧ x ≤ 40 → tT x = 1) op hop hr
    rw [t_tT]
    obtain rfl : op = 40 := by omega
    have HN := hid (fun w2 => numeric_any 40 (by decide) w2)
    rw [show tN 40 = 0 from rfl, show tI 40 = 0 from rfl, show tO 40 = 0 from rfl, show decide (tQ 40 = 1) = false from by rw [show tQ 40 = 0 from rfl]; rfl] at HN
    have HW := hid (fun w2 => width_any 40 (by decide) w2)
    rw [show tW 40 = 4 from rfl] at HW
    have HK := hid (fun w2 => kindAt_any 40 (by decide) w2)
    rw [show tK 40 = 127 from rfl] at HK
    go_enter Try.func54, Try.ntmps54
    go_wp2_with (first | (go_at_call 123; refine (HN.out _).mono ?_; rintro r w2 ⟨v, rfl, hk, hb⟩; have B2 := hid hb; have K2 := hid hk; clear hk hb) | (go_at_call 57; refine (HW.out _).mono ?_; rintro r w1 ⟨rfl, rfl⟩) | (go_at_call 124; refine (HK.out _).mono ?_; rintro r w1 ⟨rfl, rfl⟩))
    go_ret3
    exact ⟨_, _, rfl, L1.below (Ints.made' _ .u8 101 [127] _ (by first | rfl | simp) (by decide)) ((Below.refl _ _).alloc (Nat.le_refl _) _), Ints.made' _ .u8 101 [127] _ (by first | rfl | simp) (by decide), (B2.out.alloc B2.out.size _).alloc (Nat.le_trans B2.out.size (by simp)) _⟩
  · have t_tT : tT op = 7 := (by decide +kernel : ∀ x, x < 256 → 41 ≤ x ∧ x ≤ 41 → tT x = 7) op hop hr
    rw [t_tT]
    obtain rfl : op = 41 := by omega
    have HN := hid (fun w2 => numeric_any 41 (by decide) w2)
    rw [show tN 41 = 0 from rfl, show tI 41 = 0 from rfl, show tO 41 = 0 from rfl, show decide (tQ 41 = 1) = false from by rw [show tQ 41 = 0 from rfl]; rfl] at HN
    have HW := hid (fun w2 => width_any 41 (by decide) w2)
    rw [show tW 41 = 8 from rfl] at HW
    have HK := hid (fun w2 => kindAt_any 41 (by decide) w2)
    rw [show tK 41 = 126 from rfl] at HK
    go_enter Try.func54, Try.ntmps54
    go_wp2_with (first | (go_at_call 123; refine (HN.out _).mono ?_; rintro r w2 ⟨v, rfl, hk, hb⟩; have B2 := hid hb; have K2 := hid hk; clear hk hb) | (go_at_call 57; refine (HW.out _).mono ?_; rintro r w1 ⟨rfl, rfl⟩) | (go_at_call 124; refine (HK.out _).mono ?_; rintro r w1 ⟨rfl, rfl⟩))
    go_ret3
    exact ⟨_, _, rfl, L1.below (Ints.made' _ .u8 101 [127] _ (by first | rfl | simp) (by decide)) ((Below.refl _ _).alloc (Nat.le_refl _) _), Ints.made' _ .u8 101 [126] _ (by first | rfl | simp) (by decide), (B2.out.alloc B2.out.size _).alloc (Nat.le_trans B2.out.size (by simp)) _⟩
  · have t_tT : tT op = 0 := (by decide +kernel : ∀ x, x < 256 → 42 ≤ x ∧ x ≤ 43 → tT x = 0) op hop hr
    rw [t_tT]
    have e63 : ((op : Int) == 63) = false := by simp; omega
    have e64 : ((op : Int) == 64) = false := by simp; omega
    have e65 : ((op : Int) == 65) = false := by simp; omega
    have e66 : ((op : Int) == 66) = false := by simp; omega
    have k54 : (op : Int) < 54 := by omega
    have HN := hid (fun w2 => numeric_any op hop w2)
    rw [(by decide +kernel : ∀ x, x < 256 → 42 ≤ x ∧ x ≤ 43 → tN x = 0) op hop hr, (by decide +kernel : ∀ x, x < 256 → 42 ≤ x ∧ x ≤ 43 → tI x = 0) op hop hr, (by decide +kernel : ∀ x, x < 256 → 42 ≤ x ∧ x ≤ 43 → tO x = 0) op hop hr, show decide (tQ op = 1) = false from by rw [(by decide +kernel : ∀ x, x < 256 → 42 ≤ x ∧ x ≤ 43 → tQ x = 0) op hop hr]; rfl] at HN
    have HW := hid (fun w2 => width_any op hop w2)
    rw [(by decide +kernel : ∀ x, x < 256 → 42 ≤ x ∧ x ≤ 43 → tW x = 0) op hop hr] at HW
    go_enter Try.func54, Try.ntmps54
    go_wp2_with (first | (go_at_call 123; refine (HN.out _).mono ?_; rintro r w2 ⟨v, rfl, hk, hb⟩; have B2 := hid hb; have K2 := hid hk; clear hk hb) | (go_at_call 57; refine (HW.out _).mono ?_; rintro r w1 ⟨rfl, rfl⟩) | (go_at_call 124; refine (HK.out _).mono ?_; rintro r w1 ⟨rfl, rfl⟩))
    go_ret3
    exact ⟨_, _, rfl, kinds_nil _, kinds_nil _, B2.out⟩
  · have t_tT : tT op = 1 := (by decide +kernel : ∀ x, x < 256 → 44 ≤ x ∧ x ≤ 47 → tT x = 1) op hop hr
    rw [t_tT]
    have e63 : ((op : Int) == 63) = false := by simp; omega
    have e64 : ((op : Int) == 64) = false := by simp; omega
    have e65 : ((op : Int) == 65) = false := by simp; omega
    have e66 : ((op : Int) == 66) = false := by simp; omega
    have k54 : (op : Int) < 54 := by omega
    have HN := hid (fun w2 => numeric_any op hop w2)
    rw [(by decide +kernel : ∀ x, x < 256 → 44 ≤ x ∧ x ≤ 47 → tN x = 0) op hop hr, (by decide +kernel : ∀ x, x < 256 → 44 ≤ x ∧ x ≤ 47 → tI x = 0) op hop hr, (by decide +kernel : ∀ x, x < 256 → 44 ≤ x ∧ x ≤ 47 → tO x = 0) op hop hr, show decide (tQ op = 1) = false from by rw [(by decide +kernel : ∀ x, x < 256 → 44 ≤ x ∧ x ≤ 47 → tQ x = 0) op hop hr]; rfl] at HN
    have HW := hid (fun w2 => width_any op hop w2)
    have hp : 0 < tW op := (by decide +kernel : ∀ x, x < 256 → 44 ≤ x ∧ x ≤ 47 → 0 < tW x) op hop hr
    have hp2 : (0 : Int) < (tW op : Nat) := by omega
    generalize tW op = W at *
    have HK := hid (fun w2 => kindAt_any op hop w2)
    rw [(by decide +kernel : ∀ x, x < 256 → 44 ≤ x ∧ x ≤ 47 → tK x = 127) op hop hr] at HK
    go_enter Try.func54, Try.ntmps54
    go_wp2_with (first | (go_at_call 123; refine (HN.out _).mono ?_; rintro r w2 ⟨v, rfl, hk, hb⟩; have B2 := hid hb; have K2 := hid hk; clear hk hb) | (go_at_call 57; refine (HW.out _).mono ?_; rintro r w1 ⟨rfl, rfl⟩) | (go_at_call 124; refine (HK.out _).mono ?_; rintro r w1 ⟨rfl, rfl⟩))
    go_ret3
    exact ⟨_, _, rfl, L1.below (Ints.made' _ .u8 101 [127] _ (by first | rfl | simp) (by decide)) ((Below.refl _ _).alloc (Nat.le_refl _) _), Ints.made' _ .u8 101 [127] _ (by first | rfl | simp) (by decide), (B2.out.alloc B2.out.size _).alloc (Nat.le_trans B2.out.size (by simp)) _⟩
  · have t_tT : tT op = 7 := (by decide +kernel : ∀ x, x < 256 → 48 ≤ x ∧ x ≤ 53 → tT x = 7) op hop hr
    rw [t_tT]
    have e63 : ((op : Int) == 63) = false := by simp; omega
    have e64 : ((op : Int) == 64) = false := by simp; omega
    have e65 : ((op : Int) == 65) = false := by simp; omega
    have e66 : ((op : Int) == 66) = false := by simp; omega
    have k54 : (op : Int) < 54 := by omega
    have HN := hid (fun w2 => numeric_any op hop w2)
    rw [(by decide +kernel : ∀ x, x < 256 → 48 ≤ x ∧ x ≤ 53 → tN x = 0) op hop hr, (by decide +kernel : ∀ x, x < 256 → 48 ≤ x ∧ x ≤ 53 → tI x = 0) op hop hr, (by decide +kernel : ∀ x, x < 256 → 48 ≤ x ∧ x ≤ 53 → tO x = 0) op hop hr, show decide (tQ op = 1) = false from by rw [(by decide +kernel : ∀ x, x < 256 → 48 ≤ x ∧ x ≤ 53 → tQ x = 0) op hop hr]; rfl] at HN
    have HW := hid (fun w2 => width_any op hop w2)
    have hp : 0 < tW op := (by decide +kernel : ∀ x, x < 256 → 48 ≤ x ∧ x ≤ 53 → 0 < tW x) op hop hr
    have hp2 : (0 : Int) < (tW op : Nat) := by omega
    generalize tW op = W at *
    have HK := hid (fun w2 => kindAt_any op hop w2)
    rw [(by decide +kernel : ∀ x, x < 256 → 48 ≤ x ∧ x ≤ 53 → tK x = 126) op hop hr] at HK
    go_enter Try.func54, Try.ntmps54
    go_wp2_with (first | (go_at_call 123; refine (HN.out _).mono ?_; rintro r w2 ⟨v, rfl, hk, hb⟩; have B2 := hid hb; have K2 := hid hk; clear hk hb) | (go_at_call 57; refine (HW.out _).mono ?_; rintro r w1 ⟨rfl, rfl⟩) | (go_at_call 124; refine (HK.out _).mono ?_; rintro r w1 ⟨rfl, rfl⟩))
    go_ret3
    exact ⟨_, _, rfl, L1.below (Ints.made' _ .u8 101 [127] _ (by first | rfl | simp) (by decide)) ((Below.refl _ _).alloc (Nat.le_refl _) _), Ints.made' _ .u8 101 [126] _ (by first | rfl | simp) (by decide), (B2.out.alloc B2.out.size _).alloc (Nat.le_trans B2.out.size (by simp)) _⟩
  · have t_tT : tT op = 8 := (by decide +kernel : ∀ x, x < 256 → 54 ≤ x ∧ x ≤ 54 → tT x = 8) op hop hr
    rw [t_tT]
    obtain rfl : op = 54 := by omega
    have HN := hid (fun w2 => numeric_any 54 (by decide) w2)
    rw [show tN 54 = 0 from rfl, show tI 54 = 0 from rfl, show tO 54 = 0 from rfl, show decide (tQ 54 = 1) = false from by rw [show tQ 54 = 0 from rfl]; rfl] at HN
    have HW := hid (fun w2 => width_any 54 (by decide) w2)
    rw [show tW 54 = 4 from rfl] at HW
    have HK := hid (fun w2 => kindAt_any 54 (by decide) w2)
    rw [show tK 54 = 127 from rfl] at HK
    go_enter Try.func54, Try.ntmps54
    go_wp2_with (first | (go_at_call 123; refine (HN.out _).mono ?_; rintro r w2 ⟨v, rfl, hk, hb⟩; have B2 := hid hb; have K2 := hid hk; clear hk hb) | (go_at_call 57; refine (HW.out _).mono ?_; rintro r w1 ⟨rfl, rfl⟩) | (go_at_call 124; refine (HK.out _).mono ?_; rintro r w1 ⟨rfl, rfl⟩))
    go_ret3
    exact ⟨_, _, rfl, Ints.made' _ .u8 101 [127, 127] _ (by first | rfl | simp) (by decide), kinds_nil _, B2.out.alloc B2.out.size _⟩
  · have t_tT : tT op = 9 := (by decide +kernel : ∀ x, x < 256 → 55 ≤ x ∧ x ≤ 55 → tT x = 9) op hop hr
    rw [t_tT]
    obtain rfl : op = 55 := by omega
    have HN := hid (fun w2 => numeric_any 55 (by decide) w2)
    rw [show tN 55 = 0 from rfl, show tI 55 = 0 from rfl, show tO 55 = 0 from rfl, show decide (tQ 55 = 1) = false from by rw [show tQ 55 = 0 from rfl]; rfl] at HN
    have HW := hid (fun w2 => width_any 55 (by decide) w2)
    rw [show tW 55 = 8 from rfl] at HW
    have HK := hid (fun w2 => kindAt_any 55 (by decide) w2)
    rw [show tK 55 = 126 from rfl] at HK
    go_enter Try.func54, Try.ntmps54
    go_wp2_with (first | (go_at_call 123; refine (HN.out _).mono ?_; rintro r w2 ⟨v, rfl, hk, hb⟩; have B2 := hid hb; have K2 := hid hk; clear hk hb) | (go_at_call 57; refine (HW.out _).mono ?_; rintro r w1 ⟨rfl, rfl⟩) | (go_at_call 124; refine (HK.out _).mono ?_; rintro r w1 ⟨rfl, rfl⟩))
    go_ret3
    exact ⟨_, _, rfl, Ints.made' _ .u8 101 [127, 126] _ (by first | rfl | simp) (by decide), kinds_nil _, B2.out.alloc B2.out.size _⟩
  · have t_tT : tT op = 0 := (by decide +kernel : ∀ x, x < 256 → 56 ≤ x ∧ x ≤ 57 → tT x = 0) op hop hr
    rw [t_tT]
    have e63 : ((op : Int) == 63) = false := by simp; omega
    have e64 : ((op : Int) == 64) = false := by simp; omega
    have e65 : ((op : Int) == 65) = false := by simp; omega
    have e66 : ((op : Int) == 66) = false := by simp; omega
    have k54 : ¬ (op : Int) < 54 := by omega
    have HN := hid (fun w2 => numeric_any op hop w2)
    rw [(by decide +kernel : ∀ x, x < 256 → 56 ≤ x ∧ x ≤ 57 → tN x = 0) op hop hr, (by decide +kernel : ∀ x, x < 256 → 56 ≤ x ∧ x ≤ 57 → tI x = 0) op hop hr, (by decide +kernel : ∀ x, x < 256 → 56 ≤ x ∧ x ≤ 57 → tO x = 0) op hop hr, show decide (tQ op = 1) = false from by rw [(by decide +kernel : ∀ x, x < 256 → 56 ≤ x ∧ x ≤ 57 → tQ x = 0) op hop hr]; rfl] at HN
    have HW := hid (fun w2 => width_any op hop w2)
    rw [(by decide +kernel : ∀ x, x < 256 → 56 ≤ x ∧ x ≤ 57 → tW x = 0) op hop hr] at HW
    go_enter Try.func54, Try.ntmps54
    go_wp2_with (first | (go_at_call 123; refine (HN.out _).mono ?_; rintro r w2 ⟨v, rfl, hk, hb⟩; have B2 := hid hb; have K2 := hid hk; clear hk hb) | (go_at_call 57; refine (HW.out _).mono ?_; rintro r w1 ⟨rfl, rfl⟩) | (go_at_call 124; refine (HK.out _).mono ?_; rintro r w1 ⟨rfl, rfl⟩))
    go_ret3
    exact ⟨_, _, rfl, kinds_nil _, kinds_nil _, B2.out⟩
  · have t_tT : tT op = 8 := (by decide +kernel : ∀ x, x < 256 → 58 ≤ x ∧ x ≤ 59 → tT x = 8) op hop hr
    rw [t_tT]
    have e63 : ((op : Int) == 63) = false := by simp; omega
    have e64 : ((op : Int) == 64) = false := by simp; omega
    have e65 : ((op : Int) == 65) = false := by simp; omega
    have e66 : ((op : Int) == 66) = false := by simp; omega
    have k54 : ¬ (op : Int) < 54 := by omega
    have HN := hid (fun w2 => numeric_any op hop w2)
    rw [(by decide +kernel : ∀ x, x < 256 → 58 ≤ x ∧ x ≤ 59 → tN x = 0) op hop hr, (by decide +kernel : ∀ x, x < 256 → 58 ≤ x ∧ x ≤ 59 → tI x = 0) op hop hr, (by decide +kernel : ∀ x, x < 256 → 58 ≤ x ∧ x ≤ 59 → tO x = 0) op hop hr, show decide (tQ op = 1) = false from by rw [(by decide +kernel : ∀ x, x < 256 → 58 ≤ x ∧ x ≤ 59 → tQ x = 0) op hop hr]; rfl] at HN
    have HW := hid (fun w2 => width_any op hop w2)
    have hp : 0 < tW op := (by decide +kernel : ∀ x, x < 256 → 58 ≤ x ∧ x ≤ 59 → 0 < tW x) op hop hr
    have hp2 : (0 : Int) < (tW op : Nat) := by omega
    generalize tW op = W at *
    have HK := hid (fun w2 => kindAt_any op hop w2)
    rw [(by decide +kernel : ∀ x, x < 256 → 58 ≤ x ∧ x ≤ 59 → tK x = 127) op hop hr] at HK
    go_enter Try.func54, Try.ntmps54
    go_wp2_with (first | (go_at_call 123; refine (HN.out _).mono ?_; rintro r w2 ⟨v, rfl, hk, hb⟩; have B2 := hid hb; have K2 := hid hk; clear hk hb) | (go_at_call 57; refine (HW.out _).mono ?_; rintro r w1 ⟨rfl, rfl⟩) | (go_at_call 124; refine (HK.out _).mono ?_; rintro r w1 ⟨rfl, rfl⟩))
    go_ret3
    exact ⟨_, _, rfl, Ints.made' _ .u8 101 [127, 127] _ (by first | rfl | simp) (by decide), kinds_nil _, B2.out.alloc B2.out.size _⟩
  · have t_tT : tT op = 9 := (by decide +kernel : ∀ x, x < 256 → 60 ≤ x ∧ x ≤ 62 → tT x = 9) op hop hr
    rw [t_tT]
    have e63 : ((op : Int) == 63) = false := by simp; omega
    have e64 : ((op : Int) == 64) = false := by simp; omega
    have e65 : ((op : Int) == 65) = false := by simp; omega
    have e66 : ((op : Int) == 66) = false := by simp; omega
    have k54 : ¬ (op : Int) < 54 := by omega
    have HN := hid (fun w2 => numeric_any op hop w2)
    rw [(by decide +kernel : ∀ x, x < 256 → 60 ≤ x ∧ x ≤ 62 → tN x = 0) op hop hr, (by decide +kernel : ∀ x, x < 256 → 60 ≤ x ∧ x ≤ 62 → tI x = 0) op hop hr, (by decide +kernel : ∀ x, x < 256 → 60 ≤ x ∧ x ≤ 62 → tO x = 0) op hop hr, show decide (tQ op = 1) = false from by rw [(by decide +kernel : ∀ x, x < 256 → 60 ≤ x ∧ x ≤ 62 → tQ x = 0) op hop hr]; rfl] at HN
    have HW := hid (fun w2 => width_any op hop w2)
    have hp : 0 < tW op := (by decide +kernel : ∀ x, x < 256 → 60 ≤ x ∧ x ≤ 62 → 0 < tW x) op hop hr
    have hp2 : (0 : Int) < (tW op : Nat) := by omega
    generalize tW op = W at *
    have HK := hid (fun w2 => kindAt_any op hop w2)
    rw [(by decide +kernel : ∀ x, x < 256 → 60 ≤ x ∧ x ≤ 62 → tK x = 126) op hop hr] at HK
    go_enter Try.func54, Try.ntmps54
    go_wp2_with (first | (go_at_call 123; refine (HN.out _).mono ?_; rintro r w2 ⟨v, rfl, hk, hb⟩; have B2 := hid hb; have K2 := hid hk; clear hk hb) | (go_at_call 57; refine (HW.out _).mono ?_; rintro r w1 ⟨rfl, rfl⟩) | (go_at_call 124; refine (HK.out _).mono ?_; rintro r w1 ⟨rfl, rfl⟩))
    go_ret3
    exact ⟨_, _, rfl, Ints.made' _ .u8 101 [127, 126] _ (by first | rfl | simp) (by decide), kinds_nil _, B2.out.alloc B2.out.size _⟩
  · have t_tT : tT op = 10 := (by decide +kernel : ∀ x, x < 256 → 63 ≤ x ∧ x ≤ 63 → tT x = 10) op hop hr
    rw [t_tT]
    obtain rfl : op = 63 := by omega
    have HN := hid (fun w2 => numeric_any 63 (by decide) w2)
    rw [show tN 63 = 0 from rfl, show tI 63 = 0 from rfl, show tO 63 = 0 from rfl, show decide (tQ 63 = 1) = false from by rw [show tQ 63 = 0 from rfl]; rfl] at HN
    have HW := hid (fun w2 => width_any 63 (by decide) w2)
    rw [show tW 63 = 0 from rfl] at HW
    go_enter Try.func54, Try.ntmps54
    go_wp2_with (first | (go_at_call 123; refine (HN.out _).mono ?_; rintro r w2 ⟨v, rfl, hk, hb⟩; have B2 := hid hb; have K2 := hid hk; clear hk hb) | (go_at_call 57; refine (HW.out _).mono ?_; rintro r w1 ⟨rfl, rfl⟩) | (go_at_call 124; refine (HK.out _).mono ?_; rintro r w1 ⟨rfl, rfl⟩))
    go_ret3
    exact ⟨_, _, rfl, kinds_nil _, Ints.made' _ .u8 101 [127] _ (by first | rfl | simp) (by decide), B2.out.alloc B2.out.size _⟩
  · have t_tT : tT op = 1 := (by decide +kernel : ∀ x, x < 256 → 64 ≤ x ∧ x ≤ 64 → tT x = 1) op hop hr
    rw [t_tT]
    obtain rfl : op = 64 := by omega
    have HN := hid (fun w2 => numeric_any 64 (by decide) w2)
    rw [show tN 64 = 0 from rfl, show tI 64 = 0 from rfl, show tO 64 = 0 from rfl, show decide (tQ 64 = 1) = false from by rw [show tQ 64 = 0 from rfl]; rfl] at HN
    have HW := hid (fun w2 => width_any 64 (by decide) w2)
    rw [show tW 64 = 0 from rfl] at HW
    go_enter Try.func54, Try.ntmps54
    go_wp2_with (first | (go_at_call 123; refine (HN.out _).mono ?_; rintro r w2 ⟨v, rfl, hk, hb⟩; have B2 := hid hb; have K2 := hid hk; clear hk hb) | (go_at_call 57; refine (HW.out _).mono ?_; rintro r w1 ⟨rfl, rfl⟩) | (go_at_call 124; refine (HK.out _).mono ?_; rintro r w1 ⟨rfl, rfl⟩))
    go_ret3
    exact ⟨_, _, rfl, L1.below (Ints.made' _ .u8 101 [127] _ (by first | rfl | simp) (by decide)) ((Below.refl _ _).alloc (Nat.le_refl _) _), Ints.made' _ .u8 101 [127] _ (by first | rfl | simp) (by decide), (B2.out.alloc B2.out.size _).alloc (Nat.le_trans B2.out.size (by simp)) _⟩
  · have t_tT : tT op = 10 := (by decide +kernel : ∀ x, x < 256 → 65 ≤ x ∧ x ≤ 65 → tT x = 10) op hop hr
    rw [t_tT]
    obtain rfl : op = 65 := by omega
    have HN := hid (fun w2 => numeric_any 65 (by decide) w2)
    rw [show tN 65 = 0 from rfl, show tI 65 = 0 from rfl, show tO 65 = 0 from rfl, show decide (tQ 65 = 1) = false from by rw [show tQ 65 = 0 from rfl]; rfl] at HN
    have HW := hid (fun w2 => width_any 65 (by decide) w2)
    rw [show tW 65 = 0 from rfl] at HW
    go_enter Try.func54, Try.ntmps54
    go_wp2_with (first | (go_at_call 123; refine (HN.out _).mono ?_; rintro r w2 ⟨v, rfl, hk, hb⟩; have B2 := hid hb; have K2 := hid hk; clear hk hb) | (go_at_call 57; refine (HW.out _).mono ?_; rintro r w1 ⟨rfl, rfl⟩) | (go_at_call 124; refine (HK.out _).mono ?_; rintro r w1 ⟨rfl, rfl⟩))
    go_ret3
    exact ⟨_, _, rfl, kinds_nil _, Ints.made' _ .u8 101 [127] _ (by first | rfl | simp) (by decide), B2.out.alloc B2.out.size _⟩
  · have t_tT : tT op = 11 := (by decide +kernel : ∀ x, x < 256 → 66 ≤ x ∧ x ≤ 66 → tT x = 11) op hop hr
    rw [t_tT]
    obtain rfl : op = 66 := by omega
    have HN := hid (fun w2 => numeric_any 66 (by decide) w2)
    rw [show tN 66 = 0 from rfl, show tI 66 = 0 from rfl, show tO 66 = 0 from rfl, show decide (tQ 66 = 1) = false from by rw [show tQ 66 = 0 from rfl]; rfl] at HN
    have HW := hid (fun w2 => width_any 66 (by decide) w2)
    rw [show tW 66 = 0 from rfl] at HW
    go_enter Try.func54, Try.ntmps54
    go_wp2_with (first | (go_at_call 123; refine (HN.out _).mono ?_; rintro r w2 ⟨v, rfl, hk, hb⟩; have B2 := hid hb; have K2 := hid hk; clear hk hb) | (go_at_call 57; refine (HW.out _).mono ?_; rintro r w1 ⟨rfl, rfl⟩) | (go_at_call 124; refine (HK.out _).mono ?_; rintro r w1 ⟨rfl, rfl⟩))
    go_ret3
    exact ⟨_, _, rfl, kinds_nil _, Ints.made' _ .u8 101 [126] _ (by first | rfl | simp) (by decide), B2.out.alloc B2.out.size _⟩
  · have t_tT : tT op = 0 := (by decide +kernel : ∀ x, x < 256 → 67 ≤ x ∧ x ≤ 68 → tT x = 0) op hop hr
    rw [t_tT]
    have e63 : ((op : Int) == 63) = false := by simp; omega
    have e64 : ((op : Int) == 64) = false := by simp; omega
    have e65 : ((op : Int) == 65) = false := by simp; omega
    have e66 : ((op : Int) == 66) = false := by simp; omega
    have k54 : ¬ (op : Int) < 54 := by omega
    have HN := hid (fun w2 => numeric_any op hop w2)
    rw [(by decide +kernel : ∀ x, x < 256 → 67 ≤ x ∧ x ≤ 68 → tN x = 0) op hop hr, (by decide +kernel : ∀ x, x < 256 → 67 ≤ x ∧ x ≤ 68 → tI x = 0) op hop hr, (by decide +kernel : ∀ x, x < 256 → 67 ≤ x ∧ x ≤ 68 → tO x = 0) op hop hr, show decide (tQ op = 1) = false from by rw [(by decide +kernel : ∀ x, x < 256 → 67 ≤ x ∧ x ≤ 68 → tQ x = 0) op hop hr]; rfl] at HN
    have HW := hid (fun w2 => width_any op hop w2)
    rw [(by decide +kernel : ∀ x, x < 256 → 67 ≤ x ∧ x ≤ 68 → tW x = 0) op hop hr] at HW
    go_enter Try.func54, Try.ntmps54
    go_wp2_with (first | (go_at_call 123; refine (HN.out _).mono ?_; rintro r w2 ⟨v, rfl, hk, hb⟩; have B2 := hid hb; have K2 := hid hk; clear hk hb) | (go_at_call 57; refine (HW.out _).mono ?_; rintro r w1 ⟨rfl, rfl⟩) | (go_at_call 124; refine (HK.out _).mono ?_; rintro r w1 ⟨rfl, rfl⟩))
    go_ret3
    exact ⟨_, _, rfl, kinds_nil _, kinds_nil _, B2.out⟩
  · have t_tT : tT op = 1 := (by decide +kernel : ∀ x, x < 256 → 69 ≤ x ∧ x ≤ 69 → tT x = 1) op hop hr
    rw [t_tT]
    obtain rfl : op = 69 := by omega
    have HN := hid (fun w2 => numeric_any 69 (by decide) w2)
    rw [show tN 69 = 1 from rfl, show tI 69 = 127 from rfl, show tO 69 = 127 from rfl, show decide (tQ 69 = 1) = true from by rw [show tQ 69 = 1 from rfl]; rfl] at HN
    go_enter Try.func54, Try.ntmps54
    go_wp2_with (first | (go_at_call 123; refine (HN.out _).mono ?_; rintro r w2 ⟨v, rfl, hk, hb⟩; have B2 := hid hb; have K2 := hid hk; clear hk hb) | (go_at_call 57; refine (HW.out _).mono ?_; rintro r w1 ⟨rfl, rfl⟩) | (go_at_call 124; refine (HK.out _).mono ?_; rintro r w1 ⟨rfl, rfl⟩))
    go_ret3
    exact ⟨_, _, rfl, L1.below K2.out ((Below.refl _ _).alloc (Nat.le_refl _) _), Ints.made' _ .u8 101 [127] _ (by first | rfl | simp) (by decide), (B2.out).alloc B2.out.size _⟩
  · have t_tT : tT op = 3 := (by decide +kernel : ∀ x, x < 256 → 70 ≤ x ∧ x ≤ 79 → tT x = 3) op hop hr
    rw [t_tT]
    have e63 : ((op : Int) == 63) = false := by simp; omega
    have e64 : ((op : Int) == 64) = false := by simp; omega
    have e65 : ((op : Int) == 65) = false := by simp; omega
    have e66 : ((op : Int) == 66) = false := by simp; omega
    have k54 : ¬ (op : Int) < 54 := by omega
    have HN := hid (fun w2 => numeric_any op hop w2)
    rw [(by decide +kernel : ∀ x, x < 256 → 70 ≤ x ∧ x ≤ 79 → tN x = 2) op hop hr, (by decide +kernel : ∀ x, x < 256 → 70 ≤ x ∧ x ≤ 79 → tI x = 127) op hop hr, (by decide +kernel : ∀ x, x < 256 → 70 ≤ x ∧ x ≤ 79 → tO x = 127) op hop hr, show decide (tQ op = 1) = true from by rw [(by decide +kernel : ∀ x, x < 256 → 70 ≤ x ∧ x ≤ 79 → tQ x = 1) op hop hr]; rfl] at HN
    go_enter Try.func54, Try.ntmps54
    go_wp2_with (first | (go_at_call 123; refine (HN.out _).mono ?_; rintro r w2 ⟨v, rfl, hk, hb⟩; have B2 := hid hb; have K2 := hid hk; clear hk hb) | (go_at_call 57; refine (HW.out _).mono ?_; rintro r w1 ⟨rfl, rfl⟩) | (go_at_call 124; refine (HK.out _).mono ?_; rintro r w1 ⟨rfl, rfl⟩))
    go_ret3
    exact ⟨_, _, rfl, L1.below K2.out ((Below.refl _ _).alloc (Nat.le_refl _) _), Ints.made' _ .u8 101 [127] _ (by first | rfl | simp) (by decide), (B2.out).alloc B2.out.size _⟩
  · have t_tT : tT op = 2 := (by decide +kernel : ∀ x, x < 256 → 80 ≤ x ∧ x ≤ 80 → tT x = 2) op hop hr
    rw [t_tT]
    obtain rfl : op = 80 := by omega
    have HN := hid (fun w2 => numeric_any 80 (by decide) w2)
    rw [show tN 80 = 1 from rfl, show tI 80 = 126 from rfl, show tO 80 = 127 from rfl, show decide (tQ 80 = 1) = true from by rw [show tQ 80 = 1 from rfl]; rfl] at HN
    go_enter Try.func54, Try.ntmps54
    go_wp2_with (first | (go_at_call 123; refine (HN.out _).mono ?_; rintro r w2 ⟨v, rfl, hk, hb⟩; have B2 := hid hb; have K2 := hid hk; clear hk hb) | (go_at_call 57; refine (HW.out _).mono ?_; rintro r w1 ⟨rfl, rfl⟩) | (go_at_call 124; refine (HK.out _).mono ?_; rintro r w1 ⟨rfl, rfl⟩))
    go_ret3
    exact ⟨_, _, rfl, L1.below K2.out ((Below.refl _ _).alloc (Nat.le_refl _) _), Ints.made' _ .u8 101 [127] _ (by first | rfl | simp) (by decide), (B2.out).alloc B2.out.size _⟩
  · have t_tT : tT op = 4 := (by decide +kernel : ∀ x, x < 256 → 81 ≤ x ∧ x ≤ 90 → tT x = 4) op hop hr
    rw [t_tT]
    have e63 : ((op : Int) == 63) = false := by simp; omega
    have e64 : ((op : Int) == 64) = false := by simp; omega
    have e65 : ((op : Int) == 65) = false := by simp; omega
    have e66 : ((op : Int) == 66) = false := by simp; omega
    have k54 : ¬ (op : Int) < 54 := by omega
    have HN := hid (fun w2 => numeric_any op hop w2)
    rw [(by decide +kernel : ∀ x, x < 256 → 81 ≤ x ∧ x ≤ 90 → tN x = 2) op hop hr, (by decide +kernel : ∀ x, x < 256 → 81 ≤ x ∧ x ≤ 90 → tI x = 126) op hop hr, (by decide +kernel : ∀ x, x < 256 → 81 ≤ x ∧ x ≤ 90 → tO x = 127) op hop hr, show decide (tQ op = 1) = true from by rw [(by decide +kernel : ∀ x, x < 256 → 81 ≤ x ∧ x ≤ 90 → tQ x = 1) op hop hr]; rfl] at HN
    go_enter Try.func54, Try.ntmps54
    go_wp2_with (first | (go_at_call 123; refine (HN.out _).mono ?_; rintro r w2 ⟨v, rfl, hk, hb⟩; have B2 := hid hb; have K2 := hid hk; clear hk hb) | (go_at_call 57; refine (HW.out _).mono ?_; rintro r w1 ⟨rfl, rfl⟩) | (go_at_call 124; refine (HK.out _).mono ?_; rintro r w1 ⟨rfl, rfl⟩))
    go_ret3
    exact ⟨_, _, rfl, L1.below K2.out ((Below.refl _ _).alloc (Nat.le_refl _) _), Ints.made' _ .u8 101 [127] _ (by first | rfl | simp) (by decide), (B2.out).alloc B2.out.size _⟩
  · have t_tT : tT op = 0 := (by decide +kernel : ∀ x, x < 256 → 91 ≤ x ∧ x ≤ 102 → tT x = 0) op hop hr
    rw [t_tT]
    have e63 : ((op : Int) == 63) = false := by simp; omega
    have e64 : ((op : Int) == 64) = false := by simp; omega
    have e65 : ((op : Int) == 65) = false := by simp; omega
    have e66 : ((op : Int) == 66) = false := by simp; omega
    have k54 : ¬ (op : Int) < 54 := by omega
    have HN := hid (fun w2 => numeric_any op hop w2)
    rw [(by decide +kernel : ∀ x, x < 256 → 91 ≤ x ∧ x ≤ 102 → tN x = 0) op hop hr, (by decide +kernel : ∀ x, x < 256 → 91 ≤ x ∧ x ≤ 102 → tI x = 0) op hop hr, (by decide +kernel : ∀ x, x < 256 → 91 ≤ x ∧ x ≤ 102 → tO x = 0) op hop hr, show decide (tQ op = 1) = false from by rw [(by decide +kernel : ∀ x, x < 256 → 91 ≤ x ∧ x ≤ 102 → tQ x = 0) op hop hr]; rfl] at HN
    have HW := hid (fun w2 => width_any op hop w2)
    rw [(by decide +kernel : ∀ x, x < 256 → 91 ≤ x ∧ x ≤ 102 → tW x = 0) op hop hr] at HW
    go_enter Try.func54, Try.ntmps54
    go_wp2_with (first | (go_at_call 123; refine (HN.out _).mono ?_; rintro r w2 ⟨v, rfl, hk, hb⟩; have B2 := hid hb; have K2 := hid hk; clear hk hb) | (go_at_call 57; refine (HW.out _).mono ?_; rintro r w1 ⟨rfl, rfl⟩) | (go_at_call 124; refine (HK.out _).mono ?_; rintro r w1 ⟨rfl, rfl⟩))
    go_ret3
    exact ⟨_, _, rfl, kinds_nil _, kinds_nil _, B2.out⟩
  · have t_tT : tT op = 1 := (by decide +kernel : ∀ x, x < 256 → 103 ≤ x ∧ x ≤ 105 → tT x = 1) op hop hr
    rw [t_tT]
    have e63 : ((op : Int) == 63) = false := by simp; omega
    have e64 : ((op : Int) == 64) = false := by simp; omega
    have e65 : ((op : Int) == 65) = false := by simp; omega
    have e66 : ((op : Int) == 66) = false := by simp; omega
    have k54 : ¬ (op : Int) < 54 := by omega
    have HN := hid (fun w2 => numeric_any op hop w2)
    rw [(by decide +kernel : ∀ x, x < 256 → 103 ≤ x ∧ x ≤ 105 → tN x = 1) op hop hr, (by decide +kernel : ∀ x, x < 256 → 103 ≤ x ∧ x ≤ 105 → tI x = 127) op hop hr, (by decide +kernel : ∀ x, x < 256 → 103 ≤ x ∧ x ≤ 105 → tO x = 127) op hop hr, show decide (tQ op = 1) = true from by rw [(by decide +kernel : ∀ x, x < 256 → 103 ≤ x ∧ x ≤ 105 → tQ x = 1) op hop hr]; rfl] at HN
    go_enter Try.func54, Try.ntmps54
    go_wp2_with (first | (go_at_call 123; refine (HN.out _).mono ?_; rintro r w2 ⟨v, rfl, hk, hb⟩; have B2 := hid hb; have K2 := hid hk; clear hk hb) | (go_at_call 57; refine (HW.out _).mono ?_; rintro r w1 ⟨rfl, rfl⟩) | (go_at_call 124; refine (HK.out _).mono ?_; rintro r w1 ⟨rfl, rfl⟩))
    go_ret3
    exact ⟨_, _, rfl, L1.below K2.out ((Below.refl _ _).alloc (Nat.le_refl _) _), Ints.made' _ .u8 101 [127] _ (by first | rfl | simp) (by decide), (B2.out).alloc B2.out.size _⟩
  · have t_tT : tT op = 3 := (by decide +kernel : ∀ x, x < 256 → 106 ≤ x ∧ x ≤ 120 → tT x = 3) op hop hr
    rw [t_tT]
    have e63 : ((op : Int) == 63) = false := by simp; omega
    have e64 : ((op : Int) == 64) = false := by simp; omega
    have e65 : ((op : Int) == 65) = false := by simp; omega
    have e66 : ((op : Int) == 66) = false := by simp; omega
    have k54 : ¬ (op : Int) < 54 := by omega
    have HN := hid (fun w2 => numeric_any op hop w2)
    rw [(by decide +kernel : ∀ x, x < 256 → 106 ≤ x ∧ x ≤ 120 → tN x = 2) op hop hr, (by decide +kernel : ∀ x, x < 256 → 106 ≤ x ∧ x ≤ 120 → tI x = 127) op hop hr, (by decide +kernel : ∀ x, x < 256 → 106 ≤ x ∧ x ≤ 120 → tO x = 127) op hop hr, show decide (tQ op = 1) = true from by rw [(by decide +kernel : ∀ x, x < 256 → 106 ≤ x ∧ x ≤ 120 → tQ x = 1) op hop hr]; rfl] at HN
    go_enter Try.func54, Try.ntmps54
    go_wp2_with (first | (go_at_call 123; refine (HN.out _).mono ?_; rintro r w2 ⟨v, rfl, hk, hb⟩; have B2 := hid hb; have K2 := hid hk; clear hk hb) | (go_at_call 57; refine (HW.out _).mono ?_; rintro r w1 ⟨rfl, rfl⟩) | (go_at_call 124; refine (HK.out _).mono ?_; rintro r w1 ⟨rfl, rfl⟩))
    go_ret3
    exact ⟨_, _, rfl, L1.below K2.out ((Below.refl _ _).alloc (Nat.le_refl _) _), Ints.made' _ .u8 101 [127] _ (by first | rfl | simp) (by decide), (B2.out).alloc B2.out.size _⟩
  · have t_tT : tT op = 5 := (by decide +kernel : ∀ x, x < 256 → 121 ≤ x ∧ x ≤ 123 → tT x = 5) op hop hr
    rw [t_tT]
    have e63 : ((op : Int) == 63) = false := by simp; omega
    have e64 : ((op : Int) == 64) = false := by simp; omega
    have e65 : ((op : Int) == 65) = false := by simp; omega
    have e66 : ((op : Int) == 66) = false := by simp; omega
    have k54 : ¬ (op : Int) < 54 := by omega
    have HN := hid (fun w2 => numeric_any op hop w2)
    rw [(by decide +kernel : ∀ x, x < 256 → 121 ≤ x ∧ x ≤ 123 → tN x = 1) op hop hr, (by decide +kernel : ∀ x, x < 256 → 121 ≤ x ∧ x ≤ 123 → tI x = 126) op hop hr, (by decide +kernel : ∀ x, x < 256 → 121 ≤ x ∧ x ≤ 123 → tO x = 126) op hop hr, show decide (tQ op = 1) = true from by rw [(by decide +kernel : ∀ x, x < 256 → 121 ≤ x ∧ x ≤ 123 → tQ x = 1) op hop hr]; rfl] at HN
    go_enter Try.func54, Try.ntmps54
    go_wp2_with (first | (go_at_call 123; refine (HN.out _).mono ?_; rintro r w2 ⟨v, rfl, hk, hb⟩; have B2 := hid hb; have K2 := hid hk; clear hk hb) | (go_at_call 57; refine (HW.out _).mono ?_; rintro r w1 ⟨rfl, rfl⟩) | (go_at_call 124; refine (HK.out _).mono ?_; rintro r w1 ⟨rfl, rfl⟩))
    go_ret3
    exact ⟨_, _, rfl, L1.below K2.out ((Below.refl _ _).alloc (Nat.le_refl _) _), Ints.made' _ .u8 101 [126] _ (by first | rfl | simp) (by decide), (B2.out).alloc B2.out.size _⟩
  · have t_tT : tT op = 6 := (by decide +kernel : ∀ x, x < 256 → 124 ≤ x ∧ x ≤ 138 → tT x = 6) op hop hr
    rw [t_tT]
    have e63 : ((op : Int) == 63) = false := by simp; omega
    have e64 : ((op : Int) == 64) = false := by simp; omega
    have e65 : ((op : Int) == 65) = false := by simp; omega
    have e66 : ((op : Int) == 66) = false := by simp; omega
    have k54 : ¬ (op : Int) < 54 := by omega
    have HN := hid (fun w2 => numeric_any op hop w2)
    rw [(by decide +kernel : ∀ x, x < 256 → 124 ≤ x ∧ x ≤ 138 → tN x = 2) op hop hr, (by decide +kernel : ∀ x, x < 256 → 124 ≤ x ∧ x ≤ 138 → tI x = 126) op hop hr, (by decide +kernel : ∀ x, x < 256 → 124 ≤ x ∧ x ≤ 138 → tO x = 126) op hop hr, show decide (tQ op = 1) = true from by rw [(by decide +kernel : ∀ x, x < 256 → 124 ≤ x ∧ x ≤ 138 → tQ x = 1) op hop hr]; rfl] at HN
    go_enter Try.func54, Try.ntmps54
    go_wp2_with (first | (go_at_call 123; refine (HN.out _).mono ?_; rintro r w2 ⟨v, rfl, hk, hb⟩; have B2 := hid hb; have K2 := hid hk; clear hk hb) | (go_at_call 57; refine (HW.out _).mono ?_; rintro r w1 ⟨rfl, rfl⟩) | (go_at_call 124; refine (HK.out _).mono ?_; rintro r w1 ⟨rfl, rfl⟩))
    go_ret3
    exact ⟨_, _, rfl, L1.below K2.out ((Below.refl _ _).alloc (Nat.le_refl _) _), Ints.made' _ .u8 101 [126] _ (by first | rfl | simp) (by decide), (B2.out).alloc B2.out.size _⟩
  · have t_tT : tT op = 0 := (by decide +kernel : ∀ x, x < 256 → 139 ≤ x ∧ x ≤ 166 → tT x = 0) op hop hr
    rw [t_tT]
    have e63 : ((op : Int) == 63) = false := by simp; omega
    have e64 : ((op : Int) == 64) = false := by simp; omega
    have e65 : ((op : Int) == 65) = false := by simp; omega
    have e66 : ((op : Int) == 66) = false := by simp; omega
    have k54 : ¬ (op : Int) < 54 := by omega
    have HN := hid (fun w2 => numeric_any op hop w2)
    rw [(by decide +kernel : ∀ x, x < 256 → 139 ≤ x ∧ x ≤ 166 → tN x = 0) op hop hr, (by decide +kernel : ∀ x, x < 256 → 139 ≤ x ∧ x ≤ 166 → tI x = 0) op hop hr, (by decide +kernel : ∀ x, x < 256 → 139 ≤ x ∧ x ≤ 166 → tO x = 0) op hop hr, show decide (tQ op = 1) = false from by rw [(by decide +kernel : ∀ x, x < 256 → 139 ≤ x ∧ x ≤ 166 → tQ x = 0) op hop hr]; rfl] at HN
    have HW := hid (fun w2 => width_any op hop w2)
    rw [(by decide +kernel : ∀ x, x < 256 → 139 ≤ x ∧ x ≤ 166 → tW x = 0) op hop hr] at HW
    go_enter Try.func54, Try.ntmps54
    go_wp2_with (first | (go_at_call 123; refine (HN.out _).mono ?_; rintro r w2 ⟨v, rfl, hk, hb⟩; have B2 := hid hb; have K2 := hid hk; clear hk hb) | (go_at_call 57; refine (HW.out _).mono ?_; rintro r w1 ⟨rfl, rfl⟩) | (go_at_call 124; refine (HK.out _).mono ?_; rintro r w1 ⟨rfl, rfl⟩))
    go_ret3
    exact ⟨_, _, rfl, kinds_nil _, kinds_nil _, B2.out⟩
  · have t_tT : tT op = 2 := (by decide +kernel : ∀ x, x < 256 → 167 ≤ x ∧ x ≤ 167 → tT x = 2) op hop hr
    rw [t_tT]
    obtain rfl : op = 167 := by omega
    have HN := hid (fun w2 => numeric_any 167 (by decide) w2)
    rw [show tN 167 = 1 from rfl, show tI 167 = 126 from rfl, show tO 167 = 127 from rfl, show decide (tQ 167 = 1) = true from by rw [show tQ 167 = 1 from rfl]; rfl] at HN
    go_enter Try.func54, Try.ntmps54
    go_wp2_with (first | (go_at_call 123; refine (HN.out _).mono ?_; rintro r w2 ⟨v, rfl, hk, hb⟩; have B2 := hid hb; have K2 := hid hk; clear hk hb) | (go_at_call 57; refine (HW.out _).mono ?_; rintro r w1 ⟨rfl, rfl⟩) | (go_at_call 124; refine (HK.out _).mono ?_; rintro r w1 ⟨rfl, rfl⟩))
    go_ret3
    exact ⟨_, _, rfl, L1.below K2.out ((Below.refl _ _).alloc (Nat.le_refl _) _), Ints.made' _ .u8 101 [127] _ (by first | rfl | simp) (by decide), (B2.out).alloc B2.out.size _⟩
  · have t_tT : tT op = 0 := (by decide +kernel : ∀ x, x < 256 → 168 ≤ x ∧ x ≤ 171 → tT x = 0) op hop hr
    rw [t_tT]
    have e63 : ((op : Int) == 63) = false := by simp; omega
    have e64 : ((op : Int) == 64) = false := by simp; omega
    have e65 : ((op : Int) == 65) = false := by simp; omega
    have e66 : ((op : Int) == 66) = false := by simp; omega
    have k54 : ¬ (op : Int) < 54 := by omega
    have HN := hid (fun w2 => numeric_any op hop w2)
    rw [(by decide +kernel : ∀ x, x < 256 → 168 ≤ x ∧ x ≤ 171 → tN x = 0) op hop hr, (by decide +kernel : ∀ x, x < 256 → 168 ≤ x ∧ x ≤ 171 → tI x = 0) op hop hr, (by decide +kernel : ∀ x, x < 256 → 168 ≤ x ∧ x ≤ 171 → tO x = 0) op hop hr, show decide (tQ op = 1) = false from by rw [(by decide +kernel : ∀ x, x < 256 → 168 ≤ x ∧ x ≤ 171 → tQ x = 0) op hop hr]; rfl] at HN
    have HW := hid (fun w2 => width_any op hop w2)
    rw [(by decide +kernel : ∀ x, x < 256 → 168 ≤ x ∧ x ≤ 171 → tW x = 0) op hop hr] at HW
    go_enter Try.func54, Try.ntmps54
    go_wp2_with (first | (go_at_call 123; refine (HN.out _).mono ?_; rintro r w2 ⟨v, rfl, hk, hb⟩; have B2 := hid hb; have K2 := hid hk; clear hk hb) | (go_at_call 57; refine (HW.out _).mono ?_; rintro r w1 ⟨rfl, rfl⟩) | (go_at_call 124; refine (HK.out _).mono ?_; rintro r w1 ⟨rfl, rfl⟩))
    go_ret3
    exact ⟨_, _, rfl, kinds_nil _, kinds_nil _, B2.out⟩
  · have t_tT : tT op = 7 := (by decide +kernel : ∀ x, x < 256 → 172 ≤ x ∧ x ≤ 173 → tT x = 7) op hop hr
    rw [t_tT]
    have e63 : ((op : Int) == 63) = false := by simp; omega
    have e64 : ((op : Int) == 64) = false := by simp; omega
    have e65 : ((op : Int) == 65) = false := by simp; omega
    have e66 : ((op : Int) == 66) = false := by simp; omega
    have k54 : ¬ (op : Int) < 54 := by omega
    have HN := hid (fun w2 => numeric_any op hop w2)
    rw [(by decide +kernel : ∀ x, x < 256 → 172 ≤ x ∧ x ≤ 173 → tN x = 1) op hop hr, (by decide +kernel : ∀ x, x < 256 → 172 ≤ x ∧ x ≤ 173 → tI x = 127) op hop hr, (by decide +kernel : ∀ x, x < 256 → 172 ≤ x ∧ x ≤ 173 → tO x = 126) op hop hr, show decide (tQ op = 1) = true from by rw [(by decide +kernel : ∀ x, x < 256 → 172 ≤ x ∧ x ≤ 173 → tQ x = 1) op hop hr]; rfl] at HN
    go_enter Try.func54, Try.ntmps54
    go_wp2_with (first | (go_at_call 123; refine (HN.out _).mono ?_; rintro r w2 ⟨v, rfl, hk, hb⟩; have B2 := hid hb; have K2 := hid hk; clear hk hb) | (go_at_call 57; refine (HW.out _).mono ?_; rintro r w1 ⟨rfl, rfl⟩) | (go_at_call 124; refine (HK.out _).mono ?_; rintro r w1 ⟨rfl, rfl⟩))
    go_ret3
    exact ⟨_, _, rfl, L1.below K2.out ((Below.refl _ _).alloc (Nat.le_refl _) _), Ints.made' _ .u8 101 [126] _ (by first | rfl | simp) (by decide), (B2.out).alloc B2.out.size _⟩
  · have t_tT : tT op = 0 := (by decide +kernel : ∀ x, x < 256 → 174 ≤ x ∧ x ≤ 191 → tT x = 0) op hop hr
    rw [t_tT]
    have e63 : ((op : Int) == 63) = false := by simp; omega
    have e64 : ((op : Int) == 64) = false := by simp; omega
    have e65 : ((op : Int) == 65) = false := by simp; omega
    have e66 : ((op : Int) == 66) = false := by simp; omega
    have k54 : ¬ (op : Int) < 54 := by omega
    have HN := hid (fun w2 => numeric_any op hop w2)
    rw [(by decide +kernel : ∀ x, x < 256 → 174 ≤ x ∧ x ≤ 191 → tN x = 0) op hop hr, (by decide +kernel : ∀ x, x < 256 → 174 ≤ x ∧ x ≤ 191 → tI x = 0) op hop hr, (by decide +kernel : ∀ x, x < 256 → 174 ≤ x ∧ x ≤ 191 → tO x = 0) op hop hr, show decide (tQ op = 1) = false from by rw [(by decide +kernel : ∀ x, x < 256 → 174 ≤ x ∧ x ≤ 191 → tQ x = 0) op hop hr]; rfl] at HN
    have HW := hid (fun w2 => width_any op hop w2)
    rw [(by decide +kernel : ∀ x, x < 256 → 174 ≤ x ∧ x ≤ 191 → tW x = 0) op hop hr] at HW
    go_enter Try.func54, Try.ntmps54
    go_wp2_with (first | (go_at_call 123; refine (HN.out _).mono ?_; rintro r w2 ⟨v, rfl, hk, hb⟩; have B2 := hid hb; have K2 := hid hk; clear hk hb) | (go_at_call 57; refine (HW.out _).mono ?_; rintro r w1 ⟨rfl, rfl⟩) | (go_at_call 124; refine (HK.out _).mono ?_; rintro r w1 ⟨rfl, rfl⟩))
    go_ret3
    exact ⟨_, _, rfl, kinds_nil _, kinds_nil _, B2.out⟩
  · have t_tT : tT op = 1 := (by decide +kernel : ∀ x, x < 256 → 192 ≤ x ∧ x ≤ 193 → tT x = 1) op hop hr
    rw [t_tT]
    have e63 : ((op : Int) == 63) = false := by simp; omega
    have e64 : ((op : Int) == 64) = false := by simp; omega
    have e65 : ((op : Int) == 65) = false := by simp; omega
    have e66 : ((op : Int) == 66) = false := by simp; omega
    have k54 : ¬ (op : Int) < 54 := by omega
    have HN := hid (fun w2 => numeric_any op hop w2)
    rw [(by decide +kernel : ∀ x, x < 256 → 192 ≤ x ∧ x ≤ 193 → tN x = 1) op hop hr, (by decide +kernel : ∀ x, x < 256 → 192 ≤ x ∧ x ≤ 193 → tI x = 127) op hop hr, (by decide +kernel : ∀ x, x < 256 → 192 ≤ x ∧ x ≤ 193 → tO x = 127) op hop hr, show decide (tQ op = 1) = true from by rw [(by decide +kernel : ∀ x, x < 256 → 192 ≤ x ∧ x ≤ 193 → tQ x = 1) op hop hr]; rfl] at HN
    go_enter Try.func54, Try.ntmps54
    go_wp2_with (first | (go_at_call 123; refine (HN.out _).mono ?_; rintro r w2 ⟨v, rfl, hk, hb⟩; have B2 := hid hb; have K2 := hid hk; clear hk hb) | (go_at_call 57; refine (HW.out _).mono ?_; rintro r w1 ⟨rfl, rfl⟩) | (go_at_call 124; refine (HK.out _).mono ?_; rintro r w1 ⟨rfl, rfl⟩))
    go_ret3
    exact ⟨_, _, rfl, L1.below K2.out ((Below.refl _ _).alloc (Nat.le_refl _) _), Ints.made' _ .u8 101 [127] _ (by first | rfl | simp) (by decide), (B2.out).alloc B2.out.size _⟩
  · have t_tT : tT op = 5 := (by decide +kernel : ∀ x, x < 256 → 194 ≤ x ∧ x ≤ 196 → tT x = 5) op hop hr
    rw [t_tT]
    have e63 : ((op : Int) == 63) = false := by simp; omega
    have e64 : ((op : Int) == 64) = false := by simp; omega
    have e65 : ((op : Int) == 65) = false := by simp; omega
    have e66 : ((op : Int) == 66) = false := by simp; omega
    have k54 : ¬ (op : Int) < 54 := by omega
    have HN := hid (fun w2 => numeric_any op hop w2)
    rw [(by decide +kernel : ∀ x, x < 256 → 194 ≤ x ∧ x ≤ 196 → tN x = 1) op hop hr, (by decide +kernel : ∀ x, x < 256 → 194 ≤ x ∧ x ≤ 196 → tI x = 126) op hop hr, (by decide +kernel : ∀ x, x < 256 → 194 ≤ x ∧ x ≤ 196 → tO x = 126) op hop hr, show decide (tQ op = 1) = true from by rw [(by decide +kernel : ∀ x, x < 256 → 194 ≤ x ∧ x ≤ 196 → tQ x = 1) op hop hr]; rfl] at HN
    go_enter Try.func54, Try.ntmps54
    go_wp2_with (first | (go_at_call 123; refine (HN.out _).mono ?_; rintro r w2 ⟨v, rfl, hk, hb⟩; have B2 := hid hb; have K2 := hid hk; clear hk hb) | (go_at_call 57; refine (HW.out _).mono ?_; rintro r w1 ⟨rfl, rfl⟩) | (go_at_call 124; refine (HK.out _).mono ?_; rintro r w1 ⟨rfl, rfl⟩))
    go_ret3
    exact ⟨_, _, rfl, L1.below K2.out ((Below.refl _ _).alloc (Nat.le_refl _) _), Ints.made' _ .u8 101 [126] _ (by first | rfl | simp) (by decide), (B2.out).alloc B2.out.size _⟩
  · have t_tT : tT op = 0 := (by decide +kernel : ∀ x, x < 256 → 197 ≤ x ∧ x ≤ 255 → tT x = 0) op hop hr
    rw [t_tT]
    have e63 : ((op : Int) == 63) = false := by simp; omega
    have e64 : ((op : Int) == 64) = false := by simp; omega
    have e65 : ((op : Int) == 65) = false := by simp; omega
    have e66 : ((op : Int) == 66) = false := by simp; omega
    have k54 : ¬ (op : Int) < 54 := by omega
    have HN := hid (fun w2 => numeric_any op hop w2)
    rw [(by decide +kernel : ∀ x, x < 256 → 197 ≤ x ∧ x ≤ 255 → tN x = 0) op hop hr, (by decide +kernel : ∀ x, x < 256 → 197 ≤ x ∧ x ≤ 255 → tI x = 0) op hop hr, (by decide +kernel : ∀ x, x < 256 → 197 ≤ x ∧ x ≤ 255 → tO x = 0) op hop hr, show decide (tQ op = 1) = false from by rw [(by decide +kernel : ∀ x, x < 256 → 197 ≤ x ∧ x ≤ 255 → tQ x = 0) op hop hr]; rfl] at HN
    have HW := hid (fun w2 => width_any op hop w2)
    rw [(by decide +kernel : ∀ x, x < 256 → 197 ≤ x ∧ x ≤ 255 → tW x = 0) op hop hr] at HW
    go_enter Try.func54, Try.ntmps54
    go_wp2_with (first | (go_at_call 123; refine (HN.out _).mono ?_; rintro r w2 ⟨v, rfl, hk, hb⟩; have B2 := hid hb; have K2 := hid hk; clear hk hb) | (go_at_call 57; refine (HW.out _).mono ?_; rintro r w1 ⟨rfl, rfl⟩) | (go_at_call 124; refine (HK.out _).mono ?_; rintro r w1 ⟨rfl, rfl⟩))
    go_ret3
    exact ⟨_, _, rfl, kinds_nil _, kinds_nil _, B2.out⟩
end Go.Proofs.Ytomaiolhaenmhaa
