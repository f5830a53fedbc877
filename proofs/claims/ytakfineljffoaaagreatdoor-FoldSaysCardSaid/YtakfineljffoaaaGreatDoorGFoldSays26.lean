/-
  kinds: A STRING OF LETTERS AS KINDS. Condition: letters below 128, the length in the form's reach.
-/
import Derived.Test.YtakfineljffoaaaGreatDoorGFoldSays2
import Derived.Test.YtakfineljffoaaaGreatDoorGFoldSays5
import Derived.Test.YtakfineljffoaaaGreatDoorGFoldSays25
import Derived.Lib.OthersKept
import Derived.Lib.Bytealg
import Derived.Lib.IndexLaws
import Derived.Laws.Externs
import Derived.Deep.RegionHeld3
import Derived.IntWalk
namespace Go.Proofs.YtakfineljffoaaaGreatDoor
open Go.RowKit Go.Lib

end Go.Proofs.YtakfineljffoaaaGreatDoor
namespace Go.Proofs.YtakfineljffoaaaGreatDoor
open Go.RowKit Go.Lib

end Go.Proofs.YtakfineljffoaaaGreatDoor
namespace Go.Proofs.YtakfineljffoaaaGreatDoor
open Go.RowKit Go.Lib

def kI (t : Nat) : List Int := [[], [127], [126], [127, 127], [126, 126], [126], [126, 126], [127], [127, 127], [127, 126], [], []].getD t []
def kO (t : Nat) : List Int := [[], [127], [127], [127], [127], [126], [126], [126], [], [], [127], [126]].getD t []
theorem kinds_nil (w : World) : Kinds w (.slice none 0 0) [] := ⟨none, 0, rfl, by simp, by simp, by simp, .inl rfl⟩
def plain_any_l0 : List (Nat × Nat × Nat × Nat × Nat × Nat × Nat) := [(69, 69, 1, 1, 127, 127, 1), (70, 79, 3, 2, 127, 127, 1), (80, 80, 2, 1, 126, 127, 1), (81, 90, 4, 2, 126, 127, 1), (103, 105, 1, 1, 127, 127, 1), (106, 120, 3, 2, 127, 127, 1), (121, 123, 5, 1, 126, 126, 1), (124, 138, 6, 2, 126, 126, 1), (167, 167, 2, 1, 126, 127, 1), (172, 173, 7, 1, 127, 126, 1), (192, 193, 1, 1, 127, 127, 1), (194, 196, 5, 1, 126, 126, 1)]
def plain_any_l1 : List (Nat × Nat × Nat × Nat × Nat × Nat × Nat × Nat) := [(40, 40, 1, 0, 0, 0, 0, 127), (41, 41, 7, 0, 0, 0, 0, 126), (44, 47, 1, 0, 0, 0, 0, 127), (48, 53, 7, 0, 0, 0, 0, 126)]
def plain_any_l2 : List (Nat × Nat × Nat × Nat × Nat × Nat × Nat × Nat) := [(54, 54, 8, 0, 0, 0, 0, 127), (55, 55, 9, 0, 0, 0, 0, 126), (58, 59, 8, 0, 0, 0, 0, 127), (60, 62, 9, 0, 0, 0, 0, 126)]
def plain_any_l3 : List (Nat × Nat × Nat × Nat × Nat × Nat × Nat × Nat) := [(63, 63, 10, 0, 0, 0, 0, 0), (65, 65, 10, 0, 0, 0, 0, 0), (66, 66, 11, 0, 0, 0, 0, 0)]
def plain_any_l4 : List (Nat × Nat × Nat × Nat × Nat × Nat × Nat × Nat) := [(64, 64, 1, 0, 0, 0, 0, 0)]
def plain_any_l5 : List (Nat × Nat × Nat × Nat × Nat × Nat × Nat × Nat) := [(0, 39, 0, 0, 0, 0, 0, 0), (42, 43, 0, 0, 0, 0, 0, 0), (56, 57, 0, 0, 0, 0, 0, 0), (67, 68, 0, 0, 0, 0, 0, 0), (91, 102, 0, 0, 0, 0, 0, 0), (139, 166, 0, 0, 0, 0, 0, 0), (168, 171, 0, 0, 0, 0, 0, 0), (174, 191, 0, 0, 0, 0, 0, 0), (197, 255, 0, 0, 0, 0, 0, 0)]
theorem plain_any_c : ∀ x : Fin 256, (plain_any_l0.any (fun c => decide (c.1 ≤ x.val ∧ x.val ≤ c.2.1 ∧ tT x.val = c.2.2.1 ∧ tN x.val = c.2.2.2.1 ∧ tI x.val = c.2.2.2.2.1 ∧ tO x.val = c.2.2.2.2.2.1 ∧ tQ x.val = c.2.2.2.2.2.2)) || (plain_any_l1.any (fun c => decide (c.1 ≤ x.val ∧ x.val ≤ c.2.1 ∧ tT x.val = c.2.2.1 ∧ tN x.val = c.2.2.2.1 ∧ tI x.val = c.2.2.2.2.1 ∧ tO x.val = c.2.2.2.2.2.1 ∧ tQ x.val = c.2.2.2.2.2.2.1 ∧ 0 < tW x.val ∧ tK x.val = c.2.2.2.2.2.2.2)) || (plain_any_l2.any (fun c => decide (c.1 ≤ x.val ∧ x.val ≤ c.2.1 ∧ tT x.val = c.2.2.1 ∧ tN x.val = c.2.2.2.1 ∧ tI x.val = c.2.2.2.2.1 ∧ tO x.val = c.2.2.2.2.2.1 ∧ tQ x.val = c.2.2.2.2.2.2.1 ∧ 0 < tW x.val ∧ tK x.val = c.2.2.2.2.2.2.2)) || (plain_any_l3.any (fun c => decide (c.1 ≤ x.val ∧ x.val ≤ c.2.1 ∧ tT x.val = c.2.2.1 ∧ tN x.val = c.2.2.2.1 ∧ tI x.val = c.2.2.2.2.1 ∧ tO x.val = c.2.2.2.2.2.1 ∧ tQ x.val = c.2.2.2.2.2.2.1 ∧ tW x.val = c.2.2.2.2.2.2.2)) || (plain_any_l4.any (fun c => decide (c.1 ≤ x.val ∧ x.val ≤ c.2.1 ∧ tT x.val = c.2.2.1 ∧ tN x.val = c.2.2.2.1 ∧ tI x.val = c.2.2.2.2.1 ∧ tO x.val = c.2.2.2.2.2.1 ∧ tQ x.val = c.2.2.2.2.2.2.1 ∧ tW x.val = c.2.2.2.2.2.2.2)) || (plain_any_l5.any (fun c => decide (c.1 ≤ x.val ∧ x.val ≤ c.2.1 ∧ tT x.val = c.2.2.1 ∧ tN x.val = c.2.2.2.1 ∧ tI x.val = c.2.2.2.2.1 ∧ tO x.val = c.2.2.2.2.2.1 ∧ tQ x.val = c.2.2.2.2.2.2.1 ∧ tW x.val = c.2.2.2.2.2.2.2)))))))) = true := by decide +kernel
set_option maxRecDepth 100000 in
set_option maxHeartbeats 16000000 in
theorem plain_any (op : Nat) (hop : op < 256) (w : World) :
    Calls Tryz.prog 99 #[.int .u8 op] w fun e w' => ∃ v u, e = .returned (.tuple #[v, u, .bool (decide (tT op ≠ 0))]) ∧ Kinds w' v (kI (tT op)) ∧ Kinds w' u (kO (tT op)) ∧ Below w.heap.size w w' := by
  have g := plain_any_c ⟨op, hop⟩
  simp only [Bool.or_eq_true, List.any_eq_true, decide_eq_true_eq] at g
  rcases g with ⟨c, hc, h1, h2, t1, t2, t3, t4, t5⟩ | ⟨c, hc, h1, h2, t1, t2, t3, t4, t5, t6, t7⟩ | ⟨c, hc, h1, h2, t1, t2, t3, t4, t5, t6, t7⟩ | ⟨c, hc, h1, h2, t1, t2, t3, t4, t5, t6⟩ | ⟨c, hc, h1, h2, t1, t2, t3, t4, t5, t6⟩ | ⟨c, hc, h1, h2, t1, t2, t3, t4, t5, t6⟩
  · simp only [plain_any_l0, List.mem_cons, List.not_mem_nil, or_false] at hc
    rcases hc with rfl | rfl | rfl | rfl | rfl | rfl | rfl | rfl | rfl | rfl | rfl | rfl
    all_goals
      dsimp only at h1 h2 t1 t2 t3 t4 t5
      first | have e63 := bF op 63 (by omega) | have e63 := bT op 63 (by omega)
      first | have e64 := bF op 64 (by omega) | have e64 := bT op 64 (by omega)
      first | have e65 := bF op 65 (by omega) | have e65 := bT op 65 (by omega)
      first | have e66 := bF op 66 (by omega) | have e66 := bT op 66 (by omega)
      first | have k54 : (op : Int) < 54 := by omega | have k54 : ¬ (op : Int) < 54 := by omega
      rw [t1]
      have HN := hid (fun w2 => numeric_any op hop w2)
      rw [t2, t3, t4, show decide (tQ op = 1) = true from by rw [t5]; rfl] at HN
      go_enter Tryz.func99, Tryz.ntmps99
      go_wp2_with (first | (go_at_call 124; refine (HN.out _).mono ?_; rintro r w2 ⟨v, rfl, hk, hb⟩; have B2 := hid hb; have K2 := hid hk; clear hk hb) | (go_at_call 123; refine (HW.out _).mono ?_; rintro r w1 ⟨rfl, rfl⟩) | (go_at_call 132; refine (HK.out _).mono ?_; rintro r w1 ⟨rfl, rfl⟩))
      go_ret3
      first | exact ⟨_, _, rfl, L1.below K2.out ((Below.refl _ _).alloc (Nat.le_refl _) _), Ints.made' _ .u8 68 [127] _ (by first | rfl | simp) (by decide), (B2.out).alloc B2.out.size _⟩ | exact ⟨_, _, rfl, L1.below K2.out ((Below.refl _ _).alloc (Nat.le_refl _) _), Ints.made' _ .u8 68 [126] _ (by first | rfl | simp) (by decide), (B2.out).alloc B2.out.size _⟩
  · simp only [plain_any_l1, List.mem_cons, List.not_mem_nil, or_false] at hc
    rcases hc with rfl | rfl | rfl | rfl
    all_goals
      dsimp only at h1 h2 t1 t2 t3 t4 t5 t6 t7
      first | have e63 := bF op 63 (by omega) | have e63 := bT op 63 (by omega)
      first | have e64 := bF op 64 (by omega) | have e64 := bT op 64 (by omega)
      first | have e65 := bF op 65 (by omega) | have e65 := bT op 65 (by omega)
      first | have e66 := bF op 66 (by omega) | have e66 := bT op 66 (by omega)
      first | have k54 : (op : Int) < 54 := by omega | have k54 : ¬ (op : Int) < 54 := by omega
      rw [t1]
      have HN := hid (fun w2 => numeric_any op hop w2)
      rw [t2, t3, t4, show decide (tQ op = 1) = false from by rw [t5]; rfl] at HN
      have HW := hid (fun w2 => width_any op hop w2)
      have hp2 : (0 : Int) < (tW op : Nat) := by omega
      generalize tW op = W at *
      have HK := hid (fun w2 => kindAt_any op hop w2)
      rw [t7] at HK
      go_enter Tryz.func99, Tryz.ntmps99
      go_wp2_with (first | (go_at_call 124; refine (HN.out _).mono ?_; rintro r w2 ⟨v, rfl, hk, hb⟩; have B2 := hid hb; have K2 := hid hk; clear hk hb) | (go_at_call 123; refine (HW.out _).mono ?_; rintro r w1 ⟨rfl, rfl⟩) | (go_at_call 132; refine (HK.out _).mono ?_; rintro r w1 ⟨rfl, rfl⟩))
      go_ret3
      first | exact ⟨_, _, rfl, L1.below (Ints.made' _ .u8 68 [127] _ (by first | rfl | simp) (by decide)) ((Below.refl _ _).alloc (Nat.le_refl _) _), Ints.made' _ .u8 68 [127] _ (by first | rfl | simp) (by decide), (B2.out.alloc B2.out.size _).alloc (Nat.le_trans B2.out.size (by simp)) _⟩ | exact ⟨_, _, rfl, L1.below (Ints.made' _ .u8 68 [127] _ (by first | rfl | simp) (by decide)) ((Below.refl _ _).alloc (Nat.le_refl _) _), Ints.made' _ .u8 68 [126] _ (by first | rfl | simp) (by decide), (B2.out.alloc B2.out.size _).alloc (Nat.le_trans B2.out.size (by simp)) _⟩
  · simp only [plain_any_l2, List.mem_cons, List.not_mem_nil, or_false] at hc
    rcases hc with rfl | rfl | rfl | rfl
    all_goals
      dsimp only at h1 h2 t1 t2 t3 t4 t5 t6 t7
      first | have e63 := bF op 63 (by omega) | have e63 := bT op 63 (by omega)
      first | have e64 := bF op 64 (by omega) | have e64 := bT op 64 (by omega)
      first | have e65 := bF op 65 (by omega) | have e65 := bT op 65 (by omega)
      first | have e66 := bF op 66 (by omega) | have e66 := bT op 66 (by omega)
      first | have k54 : (op : Int) < 54 := by omega | have k54 : ¬ (op : Int) < 54 := by omega
      rw [t1]
      have HN := hid (fun w2 => numeric_any op hop w2)
      rw [t2, t3, t4, show decide (tQ op = 1) = false from by rw [t5]; rfl] at HN
      have HW := hid (fun w2 => width_any op hop w2)
      have hp2 : (0 : Int) < (tW op : Nat) := by omega
      generalize tW op = W at *
      have HK := hid (fun w2 => kindAt_any op hop w2)
      rw [t7] at HK
      go_enter Tryz.func99, Tryz.ntmps99
      go_wp2_with (first | (go_at_call 124; refine (HN.out _).mono ?_; rintro r w2 ⟨v, rfl, hk, hb⟩; have B2 := hid hb; have K2 := hid hk; clear hk hb) | (go_at_call 123; refine (HW.out _).mono ?_; rintro r w1 ⟨rfl, rfl⟩) | (go_at_call 132; refine (HK.out _).mono ?_; rintro r w1 ⟨rfl, rfl⟩))
      go_ret3
      first | exact ⟨_, _, rfl, Ints.made' _ .u8 68 [127, 127] _ (by first | rfl | simp) (by decide), kinds_nil _, B2.out.alloc B2.out.size _⟩ | exact ⟨_, _, rfl, Ints.made' _ .u8 68 [127, 126] _ (by first | rfl | simp) (by decide), kinds_nil _, B2.out.alloc B2.out.size _⟩
  · simp only [plain_any_l3, List.mem_cons, List.not_mem_nil, or_false] at hc
    rcases hc with rfl | rfl | rfl
    all_goals
      dsimp only at h1 h2 t1 t2 t3 t4 t5 t6
      first | have e63 := bF op 63 (by omega) | have e63 := bT op 63 (by omega)
      first | have e64 := bF op 64 (by omega) | have e64 := bT op 64 (by omega)
      first | have e65 := bF op 65 (by omega) | have e65 := bT op 65 (by omega)
      first | have e66 := bF op 66 (by omega) | have e66 := bT op 66 (by omega)
      first | have k54 : (op : Int) < 54 := by omega | have k54 : ¬ (op : Int) < 54 := by omega
      rw [t1]
      have HN := hid (fun w2 => numeric_any op hop w2)
      rw [t2, t3, t4, show decide (tQ op = 1) = false from by rw [t5]; rfl] at HN
      have HW := hid (fun w2 => width_any op hop w2)
      rw [t6] at HW
      go_enter Tryz.func99, Tryz.ntmps99
      go_wp2_with (first | (go_at_call 124; refine (HN.out _).mono ?_; rintro r w2 ⟨v, rfl, hk, hb⟩; have B2 := hid hb; have K2 := hid hk; clear hk hb) | (go_at_call 123; refine (HW.out _).mono ?_; rintro r w1 ⟨rfl, rfl⟩) | (go_at_call 132; refine (HK.out _).mono ?_; rintro r w1 ⟨rfl, rfl⟩))
      go_ret3
      first | exact ⟨_, _, rfl, kinds_nil _, Ints.made' _ .u8 68 [127] _ (by first | rfl | simp) (by decide), B2.out.alloc B2.out.size _⟩ | exact ⟨_, _, rfl, kinds_nil _, Ints.made' _ .u8 68 [126] _ (by first | rfl | simp) (by decide), B2.out.alloc B2.out.size _⟩
  · simp only [plain_any_l4, List.mem_cons, List.not_mem_nil, or_false] at hc
    rcases hc with rfl
    all_goals
      dsimp only at h1 h2 t1 t2 t3 t4 t5 t6
      first | have e63 := bF op 63 (by omega) | have e63 := bT op 63 (by omega)
      first | have e64 := bF op 64 (by omega) | have e64 := bT op 64 (by omega)
      first | have e65 := bF op 65 (by omega) | have e65 := bT op 65 (by omega)
      first | have e66 := bF op 66 (by omega) | have e66 := bT op 66 (by omega)
      first | have k54 : (op : Int) < 54 := by omega | have k54 : ¬ (op : Int) < 54 := by omega
      rw [t1]
      have HN := hid (fun w2 => numeric_any op hop w2)
      rw [t2, t3, t4, show decide (tQ op = 1) = false from by rw [t5]; rfl] at HN
      have HW := hid (fun w2 => width_any op hop w2)
      rw [t6] at HW
      go_enter Tryz.func99, Tryz.ntmps99
      go_wp2_with (first | (go_at_call 124; refine (HN.out _).mono ?_; rintro r w2 ⟨v, rfl, hk, hb⟩; have B2 := hid hb; have K2 := hid hk; clear hk hb) | (go_at_call 123; refine (HW.out _).mono ?_; rintro r w1 ⟨rfl, rfl⟩) | (go_at_call 132; refine (HK.out _).mono ?_; rintro r w1 ⟨rfl, rfl⟩))
      go_ret3
      exact ⟨_, _, rfl, L1.below (Ints.made' _ .u8 68 [127] _ (by first | rfl | simp) (by decide)) ((Below.refl _ _).alloc (Nat.le_refl _) _), Ints.made' _ .u8 68 [127] _ (by first | rfl | simp) (by decide), (B2.out.alloc B2.out.size _).alloc (Nat.le_trans B2.out.size (by simp)) _⟩
  · simp only [plain_any_l5, List.mem_cons, List.not_mem_nil, or_false] at hc
    rcases hc with rfl | rfl | rfl | rfl | rfl | rfl | rfl | rfl | rfl
    all_goals
      dsimp only at h1 h2 t1 t2 t3 t4 t5 t6
      first | have e63 := bF op 63 (by omega) | have e63 := bT op 63 (by omega)
      first | have e64 := bF op 64 (by omega) | have e64 := bT op 64 (by omega)
      first | have e65 := bF op 65 (by omega) | have e65 := bT op 65 (by omega)
      first | have e66 := bF op 66 (by omega) | have e66 := bT op 66 (by omega)
      first | have k54 : (op : Int) < 54 := by omega | have k54 : ¬ (op : Int) < 54 := by omega
      rw [t1]
      have HN := hid (fun w2 => numeric_any op hop w2)
      rw [t2, t3, t4, show decide (tQ op = 1) = false from by rw [t5]; rfl] at HN
      have HW := hid (fun w2 => width_any op hop w2)
      rw [t6] at HW
      go_enter Tryz.func99, Tryz.ntmps99
      go_wp2_with (first | (go_at_call 124; refine (HN.out _).mono ?_; rintro r w2 ⟨v, rfl, hk, hb⟩; have B2 := hid hb; have K2 := hid hk; clear hk hb) | (go_at_call 123; refine (HW.out _).mono ?_; rintro r w1 ⟨rfl, rfl⟩) | (go_at_call 132; refine (HK.out _).mono ?_; rintro r w1 ⟨rfl, rfl⟩))
      go_ret3
      exact ⟨_, _, rfl, kinds_nil _, kinds_nil _, B2.out⟩
end Go.Proofs.YtakfineljffoaaaGreatDoor
