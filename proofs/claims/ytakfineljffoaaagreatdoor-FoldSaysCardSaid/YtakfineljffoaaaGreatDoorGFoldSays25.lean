/-
  INSTRUCTIONS, the reference's: takes and beside. Conditions: the number is a byte; the variable of the library that strings.Contains reads holds some number.
-/
import Derived.Test.YtakfineljffoaaaGreatDoorGFoldSays24
namespace Go.Proofs.YtakfineljffoaaaGreatDoor
open Go.RowKit Go.Lib

def tT (op : Nat) : Nat := [0, 0, 0, 0, 0, 0, 0, 0, 0, 0, 0, 0, 0, 0, 0, 0, 0, 0, 0, 0, 0, 0, 0, 0, 0, 0, 0, 0, 0, 0, 0, 0, 0, 0, 0, 0, 0, 0, 0, 0, 1, 7, 0, 0, 1, 1, 1, 1, 7, 7, 7, 7, 7, 7, 8, 9, 0, 0, 8, 8, 9, 9, 9, 10, 1, 10, 11, 0, 0, 1, 3, 3, 3, 3, 3, 3, 3, 3, 3, 3, 2, 4, 4, 4, 4, 4, 4, 4, 4, 4, 4, 0, 0, 0, 0, 0, 0, 0, 0, 0, 0, 0, 0, 1, 1, 1, 3, 3, 3, 3, 3, 3, 3, 3, 3, 3, 3, 3, 3, 3, 3, 5, 5, 5, 6, 6, 6, 6, 6, 6, 6, 6, 6, 6, 6, 6, 6, 6, 6, 0, 0, 0, 0, 0, 0, 0, 0, 0, 0, 0, 0, 0, 0, 0, 0, 0, 0, 0, 0, 0, 0, 0, 0, 0, 0, 0, 0, 2, 0, 0, 0, 0, 7, 7, 0, 0, 0, 0, 0, 0, 0, 0, 0, 0, 0, 0, 0, 0, 0, 0, 0, 0, 1, 1, 5, 5, 5, 0, 0, 0, 0, 0, 0, 0, 0, 0, 0, 0, 0, 0, 0, 0, 0, 0, 0, 0, 0, 0, 0, 0, 0, 0, 0, 0, 0, 0, 0, 0, 0, 0, 0, 0, 0, 0, 0, 0, 0, 0, 0, 0, 0, 0, 0, 0, 0, 0, 0, 0, 0, 0, 0, 0, 0, 0, 0, 0].getD op 0
def tkL (i : Nat) : List UInt8 := [[63], [105, 62, 105], [108, 62, 105], [105, 105, 62, 105], [108, 108, 62, 105], [108, 62, 108], [108, 108, 62, 108], [105, 62, 108], [105, 105, 62], [105, 108, 62], [62, 105], [62, 108]].getD i []
def sdL (i : Nat) : List UInt8 := [[63], [], [107], [97], [116], [97, 122], [97, 98], [122], [99], [100]].getD i []
def takes_any_l0 : List (Nat × Nat × Nat) := [(0, 39, 0), (40, 40, 1), (41, 41, 7), (42, 43, 0), (44, 47, 1), (48, 53, 7), (54, 54, 8), (55, 55, 9), (56, 57, 0), (58, 58, 8), (59, 59, 8), (60, 62, 9), (63, 63, 10), (64, 64, 1), (65, 65, 10), (66, 66, 11), (67, 68, 0), (69, 69, 1), (70, 79, 3), (80, 80, 2), (81, 90, 4), (91, 102, 0), (103, 105, 1), (106, 120, 3), (121, 123, 5), (124, 138, 6), (139, 166, 0), (167, 167, 2), (168, 171, 0), (172, 172, 7), (173, 173, 7), (174, 191, 0), (192, 192, 1), (193, 193, 1), (194, 196, 5), (197, 255, 0)]
theorem takes_any_c : ∀ x : Fin 256, (takes_any_l0.any (fun c => decide (c.1 ≤ x.val ∧ x.val ≤ c.2.1 ∧ tT x.val = c.2.2))) = true := by decide +kernel
set_option maxRecDepth 100000 in
set_option maxHeartbeats 16000000 in
theorem takes_any (op : Nat) (hop : op < 256) (w : World) :
    Calls Tryz.prog 78 #[.int .u8 op] w fun e w' => e = .returned (.string (S (tkL (tT op)))) ∧ w = w' := by
  have g := takes_any_c ⟨op, hop⟩
  simp only [List.any_eq_true, decide_eq_true_eq] at g
  rcases g with ⟨c, hc, h1, h2, t1⟩
  simp only [takes_any_l0, List.mem_cons, List.not_mem_nil, or_false] at hc
  rcases hc with rfl | rfl | rfl | rfl | rfl | rfl | rfl | rfl | rfl | rfl | rfl | rfl | rfl | rfl | rfl | rfl | rfl | rfl | rfl | rfl | rfl | rfl | rfl | rfl | rfl | rfl | rfl | rfl | rfl | rfl | rfl | rfl | rfl | rfl | rfl | rfl
  all_goals
    dsimp only at h1 h2 t1
    first | have e40 := bF op 40 (by omega) | have e40 := bT op 40 (by omega)
    first | have e41 := bF op 41 (by omega) | have e41 := bT op 41 (by omega)
    first | have e54 := bF op 54 (by omega) | have e54 := bT op 54 (by omega)
    first | have e55 := bF op 55 (by omega) | have e55 := bT op 55 (by omega)
    first | have e58 := bF op 58 (by omega) | have e58 := bT op 58 (by omega)
    first | have e59 := bF op 59 (by omega) | have e59 := bT op 59 (by omega)
    first | have e63 := bF op 63 (by omega) | have e63 := bT op 63 (by omega)
    first | have e64 := bF op 64 (by omega) | have e64 := bT op 64 (by omega)
    first | have e65 := bF op 65 (by omega) | have e65 := bT op 65 (by omega)
    first | have e66 := bF op 66 (by omega) | have e66 := bT op 66 (by omega)
    first | have e69 := bF op 69 (by omega) | have e69 := bT op 69 (by omega)
    first | have e80 := bF op 80 (by omega) | have e80 := bT op 80 (by omega)
    first | have e167 := bF op 167 (by omega) | have e167 := bT op 167 (by omega)
    first | have e172 := bF op 172 (by omega) | have e172 := bT op 172 (by omega)
    first | have e173 := bF op 173 (by omega) | have e173 := bT op 173 (by omega)
    first | have e192 := bF op 192 (by omega) | have e192 := bT op 192 (by omega)
    first | have e193 := bF op 193 (by omega) | have e193 := bT op 193 (by omega)
    first | have g103e : (103 : Int) ≤ op := by omega | have g103e : ¬ (103 : Int) ≤ op := by omega
    first | have k105e : (op : Int) ≤ 105 := by omega | have k105e : ¬ (op : Int) ≤ 105 := by omega
    first | have g44e : (44 : Int) ≤ op := by omega | have g44e : ¬ (44 : Int) ≤ op := by omega
    first | have k47e : (op : Int) ≤ 47 := by omega | have k47e : ¬ (op : Int) ≤ 47 := by omega
    first | have g70e : (70 : Int) ≤ op := by omega | have g70e : ¬ (70 : Int) ≤ op := by omega
    first | have k79e : (op : Int) ≤ 79 := by omega | have k79e : ¬ (op : Int) ≤ 79 := by omega
    first | have g106e : (106 : Int) ≤ op := by omega | have g106e : ¬ (106 : Int) ≤ op := by omega
    first | have k120e : (op : Int) ≤ 120 := by omega | have k120e : ¬ (op : Int) ≤ 120 := by omega
    first | have g81e : (81 : Int) ≤ op := by omega | have g81e : ¬ (81 : Int) ≤ op := by omega
    first | have k90e : (op : Int) ≤ 90 := by omega | have k90e : ¬ (op : Int) ≤ 90 := by omega
    first | have g121e : (121 : Int) ≤ op := by omega | have g121e : ¬ (121 : Int) ≤ op := by omega
    first | have k123e : (op : Int) ≤ 123 := by omega | have k123e : ¬ (op : Int) ≤ 123 := by omega
    first | have g194e : (194 : Int) ≤ op := by omega | have g194e : ¬ (194 : Int) ≤ op := by omega
    first | have k196e : (op : Int) ≤ 196 := by omega | have k196e : ¬ (op : Int) ≤ 196 := by omega
    first | have g124e : (124 : Int) ≤ op := by omega | have g124e : ¬ (124 : Int) ≤ op := by omega
    first | have k138e : (op : Int) ≤ 138 := by omega | have k138e : ¬ (op : Int) ≤ 138 := by omega
    first | have g48e : (48 : Int) ≤ op := by omega | have g48e : ¬ (48 : Int) ≤ op := by omega
    first | have k53e : (op : Int) ≤ 53 := by omega | have k53e : ¬ (op : Int) ≤ 53 := by omega
    first | have g60e : (60 : Int) ≤ op := by omega | have g60e : ¬ (60 : Int) ≤ op := by omega
    first | have k62e : (op : Int) ≤ 62 := by omega | have k62e : ¬ (op : Int) ≤ 62 := by omega
    rw [t1]
    go_enter Tryz.func78, Tryz.ntmps78
    go_wp2_with fail
    go_ret
    exact ⟨rfl, rfl⟩
def rbeside_any_l0 : List (Nat × Nat × Nat × Nat × ByteArray) := [(2, 4, 2, 0, ⟨#[63]⟩), (12, 12, 3, 0, ⟨#[63]⟩), (13, 13, 3, 0, ⟨#[63]⟩), (14, 14, 4, 0, ⟨#[63]⟩), (16, 16, 3, 0, ⟨#[63]⟩), (17, 17, 5, 0, ⟨#[63]⟩), (32, 36, 3, 0, ⟨#[63]⟩)]
def rbeside_any_l1 : List (Nat × Nat × Nat × Nat × ByteArray) := [(0, 0, 1, 0, ⟨#[63]⟩), (1, 1, 1, 0, ⟨#[63]⟩), (5, 5, 1, 0, ⟨#[63]⟩), (6, 10, 0, 0, ⟨#[63]⟩), (11, 11, 1, 0, ⟨#[63]⟩), (15, 15, 1, 0, ⟨#[63]⟩), (18, 25, 0, 0, ⟨#[63]⟩), (26, 26, 1, 0, ⟨#[63]⟩), (27, 27, 1, 0, ⟨#[63]⟩), (28, 31, 0, 0, ⟨#[63]⟩), (37, 39, 0, 0, ⟨#[63]⟩), (42, 43, 0, 0, ⟨#[63]⟩), (56, 57, 0, 0, ⟨#[63]⟩), (63, 63, 7, 0, ⟨#[62, 105]⟩), (64, 64, 7, 0, ⟨#[105, 62, 105]⟩), (65, 65, 8, 0, ⟨#[62, 105]⟩), (66, 66, 9, 0, ⟨#[62, 108]⟩), (67, 68, 0, 0, ⟨#[63]⟩), (69, 69, 1, 0, ⟨#[105, 62, 105]⟩), (70, 79, 1, 0, ⟨#[105, 105, 62, 105]⟩), (80, 80, 1, 0, ⟨#[108, 62, 105]⟩), (81, 90, 1, 0, ⟨#[108, 108, 62, 105]⟩), (91, 102, 0, 0, ⟨#[63]⟩), (103, 105, 1, 0, ⟨#[105, 62, 105]⟩), (106, 120, 1, 0, ⟨#[105, 105, 62, 105]⟩), (121, 123, 1, 0, ⟨#[108, 62, 108]⟩), (124, 138, 1, 0, ⟨#[108, 108, 62, 108]⟩), (139, 166, 0, 0, ⟨#[63]⟩), (167, 167, 1, 0, ⟨#[108, 62, 105]⟩), (168, 171, 0, 0, ⟨#[63]⟩), (172, 173, 1, 0, ⟨#[105, 62, 108]⟩), (174, 191, 0, 0, ⟨#[63]⟩), (192, 193, 1, 0, ⟨#[105, 62, 105]⟩), (194, 196, 1, 0, ⟨#[108, 62, 108]⟩), (197, 255, 0, 0, ⟨#[63]⟩)]
def rbeside_any_l2 : List (Nat × Nat × Nat × ByteArray) := [(40, 40, 6, ⟨#[105, 62, 105]⟩), (41, 41, 6, ⟨#[105, 62, 108]⟩), (44, 47, 6, ⟨#[105, 62, 105]⟩), (48, 53, 6, ⟨#[105, 62, 108]⟩), (54, 54, 6, ⟨#[105, 105, 62]⟩), (55, 55, 6, ⟨#[105, 108, 62]⟩), (58, 59, 6, ⟨#[105, 105, 62]⟩), (60, 62, 6, ⟨#[105, 108, 62]⟩)]
theorem rbeside_any_c : ∀ x : Fin 256, (rbeside_any_l0.any (fun c => decide (c.1 ≤ x.val ∧ x.val ≤ c.2.1 ∧ tB x.val = c.2.2.1 ∧ tW x.val = c.2.2.2.1 ∧ S (tkL (tT x.val)) = c.2.2.2.2)) || (rbeside_any_l1.any (fun c => decide (c.1 ≤ x.val ∧ x.val ≤ c.2.1 ∧ tB x.val = c.2.2.1 ∧ tW x.val = c.2.2.2.1 ∧ S (tkL (tT x.val)) = c.2.2.2.2)) || (rbeside_any_l2.any (fun c => decide (c.1 ≤ x.val ∧ x.val ≤ c.2.1 ∧ tB x.val = c.2.2.1 ∧ 0 < tW x.val ∧ S (tkL (tT x.val)) = c.2.2.2))))) = true := by decide +kernel
set_option maxRecDepth 100000 in
set_option maxHeartbeats 16000000 in
theorem rbeside_any (op : Nat) (hop : op < 256) (w : World) (hM : MaxL w) :
    Calls Tryz.prog 155 #[.int .u8 op] w fun e w' => e = .returned (.string (S (sdL (tB op)))) ∧ Below w.heap.size w w' := by
  have g := rbeside_any_c ⟨op, hop⟩
  simp only [Bool.or_eq_true, List.any_eq_true, decide_eq_true_eq] at g
  rcases g with ⟨c, hc, h1, h2, t1, t2, t3⟩ | ⟨c, hc, h1, h2, t1, t2, t3⟩ | ⟨c, hc, h1, h2, t1, t2, t3⟩
  · simp only [rbeside_any_l0, List.mem_cons, List.not_mem_nil, or_false] at hc
    rcases hc with rfl | rfl | rfl | rfl | rfl | rfl | rfl
    all_goals
      dsimp only at h1 h2 t1 t2 t3
      first | have e0 := bF op 0 (by omega) | have e0 := bT op 0 (by omega)
      first | have e1 := bF op 1 (by omega) | have e1 := bT op 1 (by omega)
      first | have e5 := bF op 5 (by omega) | have e5 := bT op 5 (by omega)
      first | have e11 := bF op 11 (by omega) | have e11 := bT op 11 (by omega)
      first | have e12 := bF op 12 (by omega) | have e12 := bT op 12 (by omega)
      first | have e13 := bF op 13 (by omega) | have e13 := bT op 13 (by omega)
      first | have e14 := bF op 14 (by omega) | have e14 := bT op 14 (by omega)
      first | have e15 := bF op 15 (by omega) | have e15 := bT op 15 (by omega)
      first | have e16 := bF op 16 (by omega) | have e16 := bT op 16 (by omega)
      first | have e17 := bF op 17 (by omega) | have e17 := bT op 17 (by omega)
      first | have e26 := bF op 26 (by omega) | have e26 := bT op 26 (by omega)
      first | have e27 := bF op 27 (by omega) | have e27 := bT op 27 (by omega)
      first | have e63 := bF op 63 (by omega) | have e63 := bT op 63 (by omega)
      first | have e64 := bF op 64 (by omega) | have e64 := bT op 64 (by omega)
      first | have e65 := bF op 65 (by omega) | have e65 := bT op 65 (by omega)
      first | have e66 := bF op 66 (by omega) | have e66 := bT op 66 (by omega)
      first | have g2e : (2 : Int) ≤ op := by omega | have g2e : ¬ (2 : Int) ≤ op := by omega
      first | have k4e : (op : Int) ≤ 4 := by omega | have k4e : ¬ (op : Int) ≤ 4 := by omega
      first | have g32e : (32 : Int) ≤ op := by omega | have g32e : ¬ (32 : Int) ≤ op := by omega
      first | have k36e : (op : Int) ≤ 36 := by omega | have k36e : ¬ (op : Int) ≤ 36 := by omega
      rw [t1]
      clear hM
      have HT := hid (fun w2 => takes_any op hop w2)
      rw [t3] at HT
      go_enter Tryz.func155, Tryz.ntmps155
      go_wp2_with (first | (go_at_call 166; refine HW.out.mono ?_; rintro r w1 ⟨rfl, hb1⟩; have B1 := hid hb1; clear hb1) | (go_at_call 78; refine (HT.out _).mono ?_; rintro r w2 ⟨rfl, rfl⟩))
      go_ret
      first | exact ⟨rfl, B1.out⟩ | exact ⟨rfl, Below.refl _ _⟩
  · simp only [rbeside_any_l1, List.mem_cons, List.not_mem_nil, or_false] at hc
    rcases hc with rfl | rfl | rfl | rfl | rfl | rfl | rfl | rfl | rfl | rfl | rfl | rfl | rfl | rfl | rfl | rfl | rfl | rfl | rfl | rfl | rfl | rfl | rfl | rfl | rfl | rfl | rfl | rfl | rfl | rfl | rfl | rfl | rfl | rfl | rfl
    all_goals
      dsimp only at h1 h2 t1 t2 t3
      first | have e0 := bF op 0 (by omega) | have e0 := bT op 0 (by omega)
      first | have e1 := bF op 1 (by omega) | have e1 := bT op 1 (by omega)
      first | have e5 := bF op 5 (by omega) | have e5 := bT op 5 (by omega)
      first | have e11 := bF op 11 (by omega) | have e11 := bT op 11 (by omega)
      first | have e12 := bF op 12 (by omega) | have e12 := bT op 12 (by omega)
      first | have e13 := bF op 13 (by omega) | have e13 := bT op 13 (by omega)
      first | have e14 := bF op 14 (by omega) | have e14 := bT op 14 (by omega)
      first | have e15 := bF op 15 (by omega) | have e15 := bT op 15 (by omega)
      first | have e16 := bF op 16 (by omega) | have e16 := bT op 16 (by omega)
      first | have e17 := bF op 17 (by omega) | have e17 := bT op 17 (by omega)
      first | have e26 := bF op 26 (by omega) | have e26 := bT op 26 (by omega)
      first | have e27 := bF op 27 (by omega) | have e27 := bT op 27 (by omega)
      first | have e63 := bF op 63 (by omega) | have e63 := bT op 63 (by omega)
      first | have e64 := bF op 64 (by omega) | have e64 := bT op 64 (by omega)
      first | have e65 := bF op 65 (by omega) | have e65 := bT op 65 (by omega)
      first | have e66 := bF op 66 (by omega) | have e66 := bT op 66 (by omega)
      first | have g2e : (2 : Int) ≤ op := by omega | have g2e : ¬ (2 : Int) ≤ op := by omega
      first | have k4e : (op : Int) ≤ 4 := by omega | have k4e : ¬ (op : Int) ≤ 4 := by omega
      first | have g32e : (32 : Int) ≤ op := by omega | have g32e : ¬ (32 : Int) ≤ op := by omega
      first | have k36e : (op : Int) ≤ 36 := by omega | have k36e : ¬ (op : Int) ≤ 36 := by omega
      rw [t1]
      have HW := hid (rwidth_any op hop w hM)
      rw [t2] at HW
      have HT := hid (fun w2 => takes_any op hop w2)
      rw [t3] at HT
      go_enter Tryz.func155, Tryz.ntmps155
      go_wp2_with (first | (go_at_call 166; refine HW.out.mono ?_; rintro r w1 ⟨rfl, hb1⟩; have B1 := hid hb1; clear hb1) | (go_at_call 78; refine (HT.out _).mono ?_; rintro r w2 ⟨rfl, rfl⟩))
      go_ret
      first | exact ⟨rfl, B1.out⟩ | exact ⟨rfl, Below.refl _ _⟩
  · simp only [rbeside_any_l2, List.mem_cons, List.not_mem_nil, or_false] at hc
    rcases hc with rfl | rfl | rfl | rfl | rfl | rfl | rfl | rfl
    all_goals
      dsimp only at h1 h2 t1 t2 t3
      first | have e0 := bF op 0 (by omega) | have e0 := bT op 0 (by omega)
      first | have e1 := bF op 1 (by omega) | have e1 := bT op 1 (by omega)
      first | have e5 := bF op 5 (by omega) | have e5 := bT op 5 (by omega)
      first | have e11 := bF op 11 (by omega) | have e11 := bT op 11 (by omega)
      first | have e12 := bF op 12 (by omega) | have e12 := bT op 12 (by omega)
      first | have e13 := bF op 13 (by omega) | have e13 := bT op 13 (by omega)
      first | have e14 := bF op 14 (by omega) | have e14 := bT op 14 (by omega)
      first | have e15 := bF op 15 (by omega) | have e15 := bT op 15 (by omega)
      first | have e16 := bF op 16 (by omega) | have e16 := bT op 16 (by omega)
      first | have e17 := bF op 17 (by omega) | have e17 := bT op 17 (by omega)
      first | have e26 := bF op 26 (by omega) | have e26 := bT op 26 (by omega)
      first | have e27 := bF op 27 (by omega) | have e27 := bT op 27 (by omega)
      first | have e63 := bF op 63 (by omega) | have e63 := bT op 63 (by omega)
      first | have e64 := bF op 64 (by omega) | have e64 := bT op 64 (by omega)
      first | have e65 := bF op 65 (by omega) | have e65 := bT op 65 (by omega)
      first | have e66 := bF op 66 (by omega) | have e66 := bT op 66 (by omega)
      first | have g2e : (2 : Int) ≤ op := by omega | have g2e : ¬ (2 : Int) ≤ op := by omega
      first | have k4e : (op : Int) ≤ 4 := by omega | have k4e : ¬ (op : Int) ≤ 4 := by omega
      first | have g32e : (32 : Int) ≤ op := by omega | have g32e : ¬ (32 : Int) ≤ op := by omega
      first | have k36e : (op : Int) ≤ 36 := by omega | have k36e : ¬ (op : Int) ≤ 36 := by omega
      rw [t1]
      have HW := hid (rwidth_any op hop w hM)
      have hp2 : (0 : Int) < (tW op : Nat) := by omega
      generalize tW op = W at *
      have HT := hid (fun w2 => takes_any op hop w2)
      rw [t3] at HT
      go_enter Tryz.func155, Tryz.ntmps155
      go_wp2_with (first | (go_at_call 166; refine HW.out.mono ?_; rintro r w1 ⟨rfl, hb1⟩; have B1 := hid hb1; clear hb1) | (go_at_call 78; refine (HT.out _).mono ?_; rintro r w2 ⟨rfl, rfl⟩))
      go_ret
      first | exact ⟨rfl, B1.out⟩ | exact ⟨rfl, Below.refl _ _⟩
end Go.Proofs.YtakfineljffoaaaGreatDoor
