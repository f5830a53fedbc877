/-
  INSTRUCTIONS: the program's numeric. Condition: the number is a byte.
-/
import Derived.Test.YtakfineljffoaaaGreatDoorGFoldSays4
namespace Go.Proofs.YtakfineljffoaaaGreatDoor
open Go.RowKit Go.Lib
def numeric_any_l0 : List (Nat × Nat × Nat × Nat × Nat × Nat) := [(69, 69, 127, 1, 1, 127), (70, 79, 127, 1, 2, 127), (80, 80, 127, 1, 1, 126), (81, 90, 127, 1, 2, 126), (103, 105, 127, 1, 1, 127), (106, 120, 127, 1, 2, 127), (121, 123, 126, 1, 1, 126), (124, 138, 126, 1, 2, 126), (167, 167, 127, 1, 1, 126), (172, 172, 126, 1, 1, 127), (173, 173, 126, 1, 1, 127), (192, 193, 127, 1, 1, 127), (194, 196, 126, 1, 1, 126)]
def numeric_any_l1 : List (Nat × Nat × Nat × Nat × Nat × Nat) := [(0, 68, 0, 0, 0, 0), (91, 102, 0, 0, 0, 0), (139, 166, 0, 0, 0, 0), (168, 171, 0, 0, 0, 0), (174, 191, 0, 0, 0, 0), (197, 255, 0, 0, 0, 0)]
theorem numeric_any_c : ∀ x : Fin 256, (numeric_any_l0.any (fun c => decide (c.1 ≤ x.val ∧ x.val ≤ c.2.1 ∧ tO x.val = c.2.2.1 ∧ tQ x.val = c.2.2.2.1 ∧ tN x.val = c.2.2.2.2.1 ∧ tI x.val = c.2.2.2.2.2)) || (numeric_any_l1.any (fun c => decide (c.1 ≤ x.val ∧ x.val ≤ c.2.1 ∧ tO x.val = c.2.2.1 ∧ tQ x.val = c.2.2.2.1 ∧ tN x.val = c.2.2.2.2.1 ∧ tI x.val = c.2.2.2.2.2)))) = true := by decide +kernel
set_option maxRecDepth 100000 in
set_option maxHeartbeats 16000000 in
theorem numeric_any (op : Nat) (hop : op < 256) (w : World) :
    Calls Tryz.prog 124 #[.int .u8 op] w fun e w' => ∃ v, e = .returned (.tuple #[v, .int .u8 (tO op : Nat), .bool (decide (tQ op = 1))]) ∧ Kinds w' v (List.replicate (tN op) (tI op : Int)) ∧ Below w.heap.size w w' := by
  have g := numeric_any_c ⟨op, hop⟩
  simp only [Bool.or_eq_true, List.any_eq_true, decide_eq_true_eq] at g
  rcases g with ⟨c, hc, h1, h2, t1, t2, t3, t4⟩ | ⟨c, hc, h1, h2, t1, t2, t3, t4⟩
  · simp only [numeric_any_l0, List.mem_cons, List.not_mem_nil, or_false] at hc
    rcases hc with rfl | rfl | rfl | rfl | rfl | rfl | rfl | rfl | rfl | rfl | rfl | rfl | rfl
    all_goals
      dsimp only at h1 h2 t1 t2 t3 t4
      first | have e69 := bF op 69 (by omega) | have e69 := bT op 69 (by omega)
      first | have e80 := bF op 80 (by omega) | have e80 := bT op 80 (by omega)
      first | have e167 := bF op 167 (by omega) | have e167 := bT op 167 (by omega)
      first | have e172 := bF op 172 (by omega) | have e172 := bT op 172 (by omega)
      first | have e173 := bF op 173 (by omega) | have e173 := bT op 173 (by omega)
      first | have g69 : (69 : Int) < op := by omega | have g69 : ¬ (69 : Int) < op := by omega
      first | have k90e : (op : Int) ≤ 90 := by omega | have k90e : ¬ (op : Int) ≤ 90 := by omega
      first | have g103e : (103 : Int) ≤ op := by omega | have g103e : ¬ (103 : Int) ≤ op := by omega
      first | have k105e : (op : Int) ≤ 105 := by omega | have k105e : ¬ (op : Int) ≤ 105 := by omega
      first | have g121e : (121 : Int) ≤ op := by omega | have g121e : ¬ (121 : Int) ≤ op := by omega
      first | have k123e : (op : Int) ≤ 123 := by omega | have k123e : ¬ (op : Int) ≤ 123 := by omega
      first | have g106e : (106 : Int) ≤ op := by omega | have g106e : ¬ (106 : Int) ≤ op := by omega
      first | have k138e : (op : Int) ≤ 138 := by omega | have k138e : ¬ (op : Int) ≤ 138 := by omega
      first | have g192e : (192 : Int) ≤ op := by omega | have g192e : ¬ (192 : Int) ≤ op := by omega
      first | have k196e : (op : Int) ≤ 196 := by omega | have k196e : ¬ (op : Int) ≤ 196 := by omega
      first | have k80 : (op : Int) < 80 := by omega | have k80 : ¬ (op : Int) < 80 := by omega
      first | have k121 : (op : Int) < 121 := by omega | have k121 : ¬ (op : Int) < 121 := by omega
      first | have k194 : (op : Int) < 194 := by omega | have k194 : ¬ (op : Int) < 194 := by omega
      rw [t1, t2, t3, t4]
      go_enter Tryz.func124, Tryz.ntmps124
      go_wp2
      go_ret3
      first | exact ⟨_, rfl, Ints.made' _ .u8 68 [127] _ (by simp) (by decide), ((Below.refl _ _).alloc (Nat.le_refl _) _).alloc (by simp) _⟩ | exact ⟨_, rfl, Ints.made' _ .u8 68 [126] _ (by simp) (by decide), ((Below.refl _ _).alloc (Nat.le_refl _) _).alloc (by simp) _⟩ | exact ⟨_, rfl, Ints.made' _ .u8 68 [127, 127] _ (by simp) (by decide), ((Below.refl _ _).alloc (Nat.le_refl _) _).alloc (by simp) _⟩ | exact ⟨_, rfl, Ints.made' _ .u8 68 [126, 126] _ (by simp) (by decide), ((Below.refl _ _).alloc (Nat.le_refl _) _).alloc (by simp) _⟩
  · simp only [numeric_any_l1, List.mem_cons, List.not_mem_nil, or_false] at hc
    rcases hc with rfl | rfl | rfl | rfl | rfl | rfl
    all_goals
      dsimp only at h1 h2 t1 t2 t3 t4
      first | have e69 := bF op 69 (by omega) | have e69 := bT op 69 (by omega)
      first | have e80 := bF op 80 (by omega) | have e80 := bT op 80 (by omega)
      first | have e167 := bF op 167 (by omega) | have e167 := bT op 167 (by omega)
      first | have e172 := bF op 172 (by omega) | have e172 := bT op 172 (by omega)
      first | have e173 := bF op 173 (by omega) | have e173 := bT op 173 (by omega)
      first | have g69 : (69 : Int) < op := by omega | have g69 : ¬ (69 : Int) < op := by omega
      first | have k90e : (op : Int) ≤ 90 := by omega | have k90e : ¬ (op : Int) ≤ 90 := by omega
      first | have g103e : (103 : Int) ≤ op := by omega | have g103e : ¬ (103 : Int) ≤ op := by omega
      first | have k105e : (op : Int) ≤ 105 := by omega | have k105e : ¬ (op : Int) ≤ 105 := by omega
      first | have g121e : (121 : Int) ≤ op := by omega | have g121e : ¬ (121 : Int) ≤ op := by omega
      first | have k123e : (op : Int) ≤ 123 := by omega | have k123e : ¬ (op : Int) ≤ 123 := by omega
      first | have g106e : (106 : Int) ≤ op := by omega | have g106e : ¬ (106 : Int) ≤ op := by omega
      first | have k138e : (op : Int) ≤ 138 := by omega | have k138e : ¬ (op : Int) ≤ 138 := by omega
      first | have g192e : (192 : Int) ≤ op := by omega | have g192e : ¬ (192 : Int) ≤ op := by omega
      first | have k196e : (op : Int) ≤ 196 := by omega | have k196e : ¬ (op : Int) ≤ 196 := by omega
      first | have k80 : (op : Int) < 80 := by omega | have k80 : ¬ (op : Int) < 80 := by omega
      first | have k121 : (op : Int) < 121 := by omega | have k121 : ¬ (op : Int) < 121 := by omega
      first | have k194 : (op : Int) < 194 := by omega | have k194 : ¬ (op : Int) < 194 := by omega
      rw [t1, t2, t3, t4]
      go_enter Tryz.func124, Tryz.ntmps124
      go_wp2
      go_ret3
      exact ⟨_, rfl, ⟨none, 0, rfl, by simp, by simp, by simp, .inl rfl⟩, (Below.refl _ _).alloc (Nat.le_refl _) _⟩
def besides_any_l0 : List (Nat × Nat × Nat × Nat × Nat) := [(0, 1, 1, 0, 0), (2, 2, 2, 0, 0), (3, 3, 2, 0, 0), (4, 4, 2, 0, 0), (5, 5, 1, 0, 0), (6, 10, 0, 0, 0), (11, 11, 1, 0, 0), (12, 12, 3, 0, 0), (13, 13, 3, 0, 0), (14, 14, 4, 0, 0), (15, 15, 1, 0, 0), (16, 16, 3, 0, 0), (17, 17, 5, 0, 0), (18, 25, 0, 0, 0), (26, 26, 1, 0, 0), (27, 27, 1, 0, 0), (28, 31, 0, 0, 0), (32, 36, 3, 0, 0), (37, 39, 0, 0, 0), (42, 43, 0, 0, 0), (56, 57, 0, 0, 0), (63, 63, 7, 0, 0), (64, 64, 7, 0, 0), (65, 65, 8, 0, 0), (66, 66, 9, 0, 0), (67, 68, 0, 0, 0), (69, 90, 1, 0, 1), (91, 102, 0, 0, 0), (103, 138, 1, 0, 1), (139, 166, 0, 0, 0), (167, 167, 1, 0, 1), (168, 171, 0, 0, 0), (172, 173, 1, 0, 1), (174, 191, 0, 0, 0), (192, 196, 1, 0, 1), (197, 255, 0, 0, 0)]
def besides_any_l1 : List (Nat × Nat × Nat × Nat) := [(40, 41, 6, 0), (44, 55, 6, 0), (58, 62, 6, 0)]
theorem besides_any_c : ∀ x : Fin 256, (besides_any_l0.any (fun c => decide (c.1 ≤ x.val ∧ x.val ≤ c.2.1 ∧ tB x.val = c.2.2.1 ∧ tW x.val = c.2.2.2.1 ∧ tQ x.val = c.2.2.2.2)) || (besides_any_l1.any (fun c => decide (c.1 ≤ x.val ∧ x.val ≤ c.2.1 ∧ tB x.val = c.2.2.1 ∧ 0 < tW x.val ∧ tQ x.val = c.2.2.2)))) = true := by decide +kernel
set_option maxRecDepth 100000 in
set_option maxHeartbeats 16000000 in
theorem besides_any (op : Nat) (hop : op < 256) (w : World) :
    Calls Tryz.prog 95 #[.int .u8 op] w fun e w' => e = .returned (.int .i64 (tB op : Nat)) ∧ Below w.heap.size w w' := by
  have g := besides_any_c ⟨op, hop⟩
  simp only [Bool.or_eq_true, List.any_eq_true, decide_eq_true_eq] at g
  rcases g with ⟨c, hc, h1, h2, t1, t2, t3⟩ | ⟨c, hc, h1, h2, t1, t2, t3⟩
  · simp only [besides_any_l0, List.mem_cons, List.not_mem_nil, or_false] at hc
    rcases hc with rfl | rfl | rfl | rfl | rfl | rfl | rfl | rfl | rfl | rfl | rfl | rfl | rfl | rfl | rfl | rfl | rfl | rfl | rfl | rfl | rfl | rfl | rfl | rfl | rfl | rfl | rfl | rfl | rfl | rfl | rfl | rfl | rfl | rfl | rfl | rfl
    all_goals
      dsimp only at h1 h2 t1 t2 t3
      first | have e2 := bF op 2 (by omega) | have e2 := bT op 2 (by omega)
      first | have e3 := bF op 3 (by omega) | have e3 := bT op 3 (by omega)
      first | have e4 := bF op 4 (by omega) | have e4 := bT op 4 (by omega)
      first | have e5 := bF op 5 (by omega) | have e5 := bT op 5 (by omega)
      first | have e11 := bF op 11 (by omega) | have e11 := bT op 11 (by omega)
      first | have e12 := bF op 12 (by omega) | have e12 := bT op 12 (by omega)
      first | have e13 := bF op 13 (by omega) | have e13 := bT op 13 (by omega)
      first | have e14 := bF op 14 (by omega) | have e14 := bT op 14 (by omega)
      first | have e15 := bF op 15 (by omega) | have e15 := bT op 15 (by omega)
      first | have e16 := bF op 16 (by omega) | have e16 := bT op 16 (by omega)
      first | have e17 := bF op 17 (by omega) | have e17 := bT op 17 (by omega)
      first | have e26 := bF op 26 (by omega) | have e26 := bT op 26 (by omega)
      first | have e27 := bF op 27 (by omega) | have e27 := bT op 27 (by omega)
      first | have e63 := bF op 63 (by omega) | have e63 := bT op 63 (by omega)
      first | have e64 := bF op 64 (by omega) | have e64 := bT op 64 (by omega)
      first | have e65 := bF op 65 (by omega) | have e65 := bT op 65 (by omega)
      first | have e66 := bF op 66 (by omega) | have e66 := bT op 66 (by omega)
      first | have g32e : (32 : Int) ≤ op := by omega | have g32e : ¬ (32 : Int) ≤ op := by omega
      first | have k36e : (op : Int) ≤ 36 := by omega | have k36e : ¬ (op : Int) ≤ 36 := by omega
      first | have k1e : (op : Int) ≤ 1 := by omega | have k1e : ¬ (op : Int) ≤ 1 := by omega
      rw [t1]
      have HW := hid (fun w2 => width_any op hop w2)
      rw [t2] at HW
      have HN := hid (fun w2 => numeric_any op hop w2)
      first | rw [show decide (tQ op = 1) = true from by rw [t3]; rfl] at HN | rw [show decide (tQ op = 1) = false from by rw [t3]; rfl] at HN
      go_enter Tryz.func95, Tryz.ntmps95
      go_wp2_with (first | (go_at_call 123; refine (HW.out _).mono ?_; rintro r w1 ⟨rfl, rfl⟩) | (go_at_call 124; refine (HN.out _).mono ?_; rintro r w2 ⟨v, rfl, hk, hb⟩; have B2 := hid hb; clear hk hb))
      go_ret
      first | exact ⟨rfl, B2.out⟩ | exact ⟨rfl, Below.refl _ _⟩
  · simp only [besides_any_l1, List.mem_cons, List.not_mem_nil, or_false] at hc
    rcases hc with rfl | rfl | rfl
    all_goals
      dsimp only at h1 h2 t1 t2 t3
      first | have e2 := bF op 2 (by omega) | have e2 := bT op 2 (by omega)
      first | have e3 := bF op 3 (by omega) | have e3 := bT op 3 (by omega)
      first | have e4 := bF op 4 (by omega) | have e4 := bT op 4 (by omega)
      first | have e5 := bF op 5 (by omega) | have e5 := bT op 5 (by omega)
      first | have e11 := bF op 11 (by omega) | have e11 := bT op 11 (by omega)
      first | have e12 := bF op 12 (by omega) | have e12 := bT op 12 (by omega)
      first | have e13 := bF op 13 (by omega) | have e13 := bT op 13 (by omega)
      first | have e14 := bF op 14 (by omega) | have e14 := bT op 14 (by omega)
      first | have e15 := bF op 15 (by omega) | have e15 := bT op 15 (by omega)
      first | have e16 := bF op 16 (by omega) | have e16 := bT op 16 (by omega)
      first | have e17 := bF op 17 (by omega) | have e17 := bT op 17 (by omega)
      first | have e26 := bF op 26 (by omega) | have e26 := bT op 26 (by omega)
      first | have e27 := bF op 27 (by omega) | have e27 := bT op 27 (by omega)
      first | have e63 := bF op 63 (by omega) | have e63 := bT op 63 (by omega)
      first | have e64 := bF op 64 (by omega) | have e64 := bT op 64 (by omega)
      first | have e65 := bF op 65 (by omega) | have e65 := bT op 65 (by omega)
      first | have e66 := bF op 66 (by omega) | have e66 := bT op 66 (by omega)
      first | have g32e : (32 : Int) ≤ op := by omega | have g32e : ¬ (32 : Int) ≤ op := by omega
      first | have k36e : (op : Int) ≤ 36 := by omega | have k36e : ¬ (op : Int) ≤ 36 := by omega
      first | have k1e : (op : Int) ≤ 1 := by omega | have k1e : ¬ (op : Int) ≤ 1 := by omega
      rw [t1]
      have HW := hid (fun w2 => width_any op hop w2)
      have hp2 : (0 : Int) < (tW op : Nat) := by omega
      generalize tW op = W at *
      have HN := hid (fun w2 => numeric_any op hop w2)
      first | rw [show decide (tQ op = 1) = true from by rw [t3]; rfl] at HN | rw [show decide (tQ op = 1) = false from by rw [t3]; rfl] at HN
      go_enter Tryz.func95, Tryz.ntmps95
      go_wp2_with (first | (go_at_call 123; refine (HW.out _).mono ?_; rintro r w1 ⟨rfl, rfl⟩) | (go_at_call 124; refine (HN.out _).mono ?_; rintro r w2 ⟨v, rfl, hk, hb⟩; have B2 := hid hb; clear hk hb))
      go_ret
      first | exact ⟨rfl, B2.out⟩ | exact ⟨rfl, Below.refl _ _⟩
end Go.Proofs.YtakfineljffoaaaGreatDoor
