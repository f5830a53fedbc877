/-
  INSTRUCTIONS, the reference's: takes and beside. Conditions: the number is a byte; the variable of the library that strings.Contains reads holds some number.
-/
import Derived.Test.YthoalneknadheaaGreatDoorGBinWrites9
namespace Go.Proofs.YthoalneknadheaaGreatDoor
open Go.RowKit Go.Lib

def tT (op : Nat) : Nat := [0, 0, 0, 0, 0, 0, 0, 0, 0, 0, 0, 0, 0, 0, 0, 0, 0, 0, 0, 0, 0, 0, 0, 0, 0, 0, 0, 0, 0, 0, 0, 0, 0, 0, 0, 0, 0, 0, 0, 0, 1, 7, 0, 0, 1, 1, 1, 1, 7, 7, 7, 7, 7, 7, 8, 9, 0, 0, 8, 8, 9, 9, 9, 10, 1, 10, 11, 0, 0, 1, 3, 3, 3, 3, 3, 3, 3, 3, 3, 3, 2, 4, 4, 4, 4, 4, 4, 4, 4, 4, 4, 0, 0, 0, 0, 0, 0, 0, 0, 0, 0, 0, 0, 1, 1, 1, 3, 3, 3, 3, 3, 3, 3, 3, 3, 3, 3, 3, 3, 3, 3, 5, 5, 5, 6, 6, 6, 6, 6, 6, 6, 6, 6, 6, 6, 6, 6, 6, 6, 0, 0, 0, 0, 0, 0, 0, 0, 0, 0, 0, 0, 0, 0, 0, 0, 0, 0, 0, 0, 0, 0, 0, 0, 0, 0, 0, 0, 2, 0, 0, 0, 0, 7, 7, 0, 0, 0, 0, 0, 0, 0, 0, 0, 0, 0, 0, 0, 0, 0, 0, 0, 0, 1, 1, 5, 5, 5, 0, 0, 0, 0, 0, 0, 0, 0, 0, 0, 0, 0, 0, 0, 0, 0, 0, 0, 0, 0, 0, 0, 0, 0, 0, 0, 0, 0, 0, 0, 0, 0, 0, 0, 0, 0, 0, 0, 0, 0, 0, 0, 0, 0, 0, 0, 0, 0, 0, 0, 0, 0, 0, 0, 0, 0, 0, 0, 0].getD op 0
def tkL (i : Nat) : List UInt8 := [[63], [105, 62, 105], [108, 62, 105], [105, 105, 62, 105], [108, 108, 62, 105], [108, 62, 108], [108, 108, 62, 108], [105, 62, 108], [105, 105, 62], [105, 108, 62], [62, 105], [62, 108]].getD i []
def sdL (i : Nat) : List UInt8 := [[63], [], [107], [97], [116], [97, 122], [97, 98], [122], [99], [100]].getD i []

set_option maxRecDepth 100000 in
set_option maxHeartbeats 16000000 in
theorem takes_any (op : Nat) (hop : op < 256) (w : World) :
  Calls Tryz.prog 172 #[.int .u8 op] w fun e w' => e = .returned (.string (S (tkL (tT op)))) ∧ w = w' := by
 rcases (by omega : (0 ≤ op ∧ op ≤ 39) ∨ (40 ≤ op ∧ op ≤ 40) ∨ (41 ≤ op ∧ op ≤ 41) ∨ (42 ≤ op ∧ op ≤ 43) ∨ (44 ≤ op ∧ op ≤ 47) ∨ (48 ≤ op ∧ op ≤ 53) ∨ (54 ≤ op ∧ op ≤ 54) ∨ (55 ≤ op ∧ op ≤ 55) ∨ (56 ≤ op ∧ op ≤ 57) ∨ (58 ≤ op ∧ op ≤ 58) ∨ (59 ≤ op ∧ op ≤ 59) ∨ (60 ≤ op ∧ op ≤ 62) ∨ (63 ≤ op ∧ op ≤ 63) ∨ (64 ≤ op ∧ op ≤ 64) ∨ (65 ≤ op ∧ op ≤ 65) ∨ (66 ≤ op ∧ op ≤ 66) ∨ (67 ≤ op ∧ op ≤ 68) ∨ (69 ≤ op ∧ op ≤ 69) ∨ (70 ≤ op ∧ op ≤ 79) ∨ (80 ≤ op ∧ op ≤ 80) ∨ (81 ≤ op ∧ op ≤ 90) ∨ (91 ≤ op ∧ op ≤ 102) ∨ (103 ≤ op ∧ op ≤ 105) ∨ (106 ≤ op ∧ op ≤ 120) ∨ (121 ≤ op ∧ op ≤ 123) ∨ (124 ≤ op ∧ op ≤ 138) ∨ (139 ≤ op ∧ op ≤ 166) ∨ (167 ≤ op ∧ op ≤ 167) ∨ (168 ≤ op ∧ op ≤ 171) ∨ (172 ≤ op ∧ op ≤ 172) ∨ (173 ≤ op ∧ op ≤ 173) ∨ (174 ≤ op ∧ op ≤ 191) ∨ (192 ≤ op ∧ op ≤ 192) ∨ (193 ≤ op ∧ op ≤ 193) ∨ (194 ≤ op ∧ op ≤ 196) ∨ (197 ≤ op ∧ op ≤ 255)) with hr | hr | hr | hr | hr | hr | hr | hr | hr | hr | hr | hr | hr | hr | hr | hr | hr | hr | hr | hr | hr | hr | hr | hr | hr | hr | hr | hr | hr | hr | hr | hr | hr | hr | hr | hr
 ·have t_tT : tT op = 0 := (by decide +kernel : ∀ x, x < 256 → 0 ≤ x ∧ x ≤ 39 → tT x = 0) op hop hr
  rw [t_tT]
  have e40 : ((op : Int) == 40) = false := by simp; omega
  have e41 : ((op : Int) == 41) = false := by simp; omega
  have e54 : ((op : Int) == 54) = false := by simp; omega
  have e55 : ((op : Int) == 55) = false := by simp; omega
  have e58 : ((op : Int) == 58) = false := by simp; omega
  have e59 : ((op : Int) == 59) = false := by simp; omega
  have e63 : ((op : Int) == 63) = false := by simp; omega
  have e64 : ((op : Int) == 64) = false := by simp; omega
  have e65 : ((op : Int) == 65) = false := by simp; omega
  have e66 : ((op : Int) == 66) = false := by simp; omega
  have e69 : ((op : Int) == 69) = false := by simp; omega
  have e80 : ((op : Int) == 80) = false := by simp; omega
  have e167 : ((op : Int) == 167) = false := by simp; omega
  have e172 : ((op : Int) == 172) = false := by simp; omega
  have e173 : ((op : Int) == 173) = false := by simp; omega
  have e192 : ((op : Int) == 192) = false := by simp; omega
  have e193 : ((op : Int) == 193) = false := by simp; omega
  have g103e : ¬ (103 : Int) ≤ op := by omega
  have k105e : (op : Int) ≤ 105 := by omega
  have g44e : ¬ (44 : Int) ≤ op := by omega
  have k47e : (op : Int) ≤ 47 := by omega
  have g70e : ¬ (70 : Int) ≤ op := by omega
  have k79e : (op : Int) ≤ 79 := by omega
  have g106e : ¬ (106 : Int) ≤ op := by omega
  have k120e : (op : Int) ≤ 120 := by omega
  have g81e : ¬ (81 : Int) ≤ op := by omega
  have k90e : (op : Int) ≤ 90 := by omega
  have g121e : ¬ (121 : Int) ≤ op := by omega
  have k123e : (op : Int) ≤ 123 := by omega
  have g194e : ¬ (194 : Int) ≤ op := by omega
  have k196e : (op : Int) ≤ 196 := by omega
  have g124e : ¬ (124 : Int) ≤ op := by omega
  have k138e : (op : Int) ≤ 138 := by omega
  have g48e : ¬ (48 : Int) ≤ op := by omega
  have k53e : (op : Int) ≤ 53 := by omega
  have g60e : ¬ (60 : Int) ≤ op := by omega
  have k62e : (op : Int) ≤ 62 := by omega
  go_enter Tryz.func172, Tryz.ntmps172
  go_wp2_with fail
  go_ret
  exact ⟨rfl, rfl⟩
 ·have t_tT : tT op = 1 := (by decide +kernel : ∀ x, x < 256 → 40 ≤ x ∧ x ≤ 40 → tT x = 1) op hop hr
  rw [t_tT]
  obtain rfl : op = 40 := by omega
  go_enter Tryz.func172, Tryz.ntmps172
  go_wp2_with fail
  go_ret
  exact ⟨rfl, rfl⟩
 ·have t_tT : tT op = 7 := (by decide +kernel : ∀ x, x < 256 → 41 ≤ x ∧ x ≤ 41 → tT x = 7) op hop hr
  rw [t_tT]
  obtain rfl : op = 41 := by omega
  go_enter Tryz.func172, Tryz.ntmps172
  go_wp2_with fail
  go_ret
  exact ⟨rfl, rfl⟩
 ·have t_tT : tT op = 0 := (by decide +kernel : ∀ x, x < 256 → 42 ≤ x ∧ x ≤ 43 → tT x = 0) op hop hr
  rw [t_tT]
  have e40 : ((op : Int) == 40) = false := by simp; omega
  have e41 : ((op : Int) == 41) = false := by simp; omega
  have e54 : ((op : Int) == 54) = false := by simp; omega
  have e55 : ((op : Int) == 55) = false := by simp; omega
  have e58 : ((op : Int) == 58) = false := by simp; omega
  have e59 : ((op : Int) == 59) = false := by simp; omega
  have e63 : ((op : Int) == 63) = false := by simp; omega
  have e64 : ((op : Int) == 64) = false := by simp; omega
  have e65 : ((op : Int) == 65) = false := by simp; omega
  have e66 : ((op : Int) == 66) = false := by simp; omega
  have e69 : ((op : Int) == 69) = false := by simp; omega
  have e80 : ((op : Int) == 80) = false := by simp; omega
  have e167 : ((op : Int) == 167) = false := by simp; omega
  have e172 : ((op : Int) == 172) = false := by simp; omega
  have e173 : ((op : Int) == 173) = false := by simp; omega
  have e192 : ((op : Int) == 192) = false := by simp; omega
  have e193 : ((op : Int) == 193) = false := by simp; omega
  have g103e : ¬ (103 : Int) ≤ op := by omega
  have k105e : (op : Int) ≤ 105 := by omega
  have g44e : ¬ (44 : Int) ≤ op := by omega
  have k47e : (op : Int) ≤ 47 := by omega
  have g70e : ¬ (70 : Int) ≤ op := by omega
  have k79e : (op : Int) ≤ 79 := by omega
  have g106e : ¬ (106 : Int) ≤ op := by omega
  have k120e : (op : Int) ≤ 120 := by omega
  have g81e : ¬ (81 : Int) ≤ op := by omega
  have k90e : (op : Int) ≤ 90 := by omega
  have g121e : ¬ (121 : Int) ≤ op := by omega
  have k123e : (op : Int) ≤ 123 := by omega
  have g194e : ¬ (194 : Int) ≤ op := by omega
  have k196e : (op : Int) ≤ 196 := by omega
  have g124e : ¬ (124 : Int) ≤ op := by omega
  have k138e : (op : Int) ≤ 138 := by omega
  have g48e : ¬ (48 : Int) ≤ op := by omega
  have k53e : (op : Int) ≤ 53 := by omega
  have g60e : ¬ (60 : Int) ≤ op := by omega
  have k62e : (op : Int) ≤ 62 := by omega
  go_enter Tryz.func172, Tryz.ntmps172
  go_wp2_with fail
  go_ret
  exact ⟨rfl, rfl⟩
 ·have t_tT : tT op = 1 := (by decide +kernel : ∀ x, x < 256 → 44 ≤ x ∧ x ≤ 47 → tT x = 1) op hop hr
  rw [t_tT]
  have e40 : ((op : Int) == 40) = false := by simp; omega
  have e41 : ((op : Int) == 41) = false := by simp; omega
  have e54 : ((op : Int) == 54) = false := by simp; omega
  have e55 : ((op : Int) == 55) = false := by simp; omega
  have e58 : ((op : Int) == 58) = false := by simp; omega
  have e59 : ((op : Int) == 59) = false := by simp; omega
  have e63 : ((op : Int) == 63) = false := by simp; omega
  have e64 : ((op : Int) == 64) = false := by simp; omega
  have e65 : ((op : Int) == 65) = false := by simp; omega
  have e66 : ((op : Int) == 66) = false := by simp; omega
  have e69 : ((op : Int) == 69) = false := by simp; omega
  have e80 : ((op : Int) == 80) = false := by simp; omega
  have e167 : ((op : Int) == 167) = false := by simp; omega
  have e172 : ((op : Int) == 172) = false := by simp; omega
  have e173 : ((op : Int) == 173) = false := by simp; omega
  have e192 : ((op : Int) == 192) = false := by simp; omega
  have e193 : ((op : Int) == 193) = false := by simp; omega
  have g103e : ¬ (103 : Int) ≤ op := by omega
  have k105e : (op : Int) ≤ 105 := by omega
  have g44e : (44 : Int) ≤ op := by omega
  have k47e : (op : Int) ≤ 47 := by omega
  have g70e : ¬ (70 : Int) ≤ op := by omega
  have k79e : (op : Int) ≤ 79 := by omega
  have g106e : ¬ (106 : Int) ≤ op := by omega
  have k120e : (op : Int) ≤ 120 := by omega
  have g81e : ¬ (81 : Int) ≤ op := by omega
  have k90e : (op : Int) ≤ 90 := by omega
  have g121e : ¬ (121 : Int) ≤ op := by omega
  have k123e : (op : Int) ≤ 123 := by omega
  have g194e : ¬ (194 : Int) ≤ op := by omega
  have k196e : (op : Int) ≤ 196 := by omega
  have g124e : ¬ (124 : Int) ≤ op := by omega
  have k138e : (op : Int) ≤ 138 := by omega
  have g48e : ¬ (48 : Int) ≤ op := by omega
  have k53e : (op : Int) ≤ 53 := by omega
  have g60e : ¬ (60 : Int) ≤ op := by omega
  have k62e : (op : Int) ≤ 62 := by omega
  go_enter Tryz.func172, Tryz.ntmps172
  go_wp2_with fail
  go_ret
  exact ⟨rfl, rfl⟩
 ·have t_tT : tT op = 7 := (by decide +kernel : ∀ x, x < 256 → 48 ≤ x ∧ x ≤ 53 → tT x = 7) op hop hr
  rw [t_tT]
  have e40 : ((op : Int) == 40) = false := by simp; omega
  have e41 : ((op : Int) == 41) = false := by simp; omega
  have e54 : ((op : Int) == 54) = false := by simp; omega
  have e55 : ((op : Int) == 55) = false := by simp; omega
  have e58 : ((op : Int) == 58) = false := by simp; omega
  have e59 : ((op : Int) == 59) = false := by simp; omega
  have e63 : ((op : Int) == 63) = false := by simp; omega
  have e64 : ((op : Int) == 64) = false := by simp; omega
  have e65 : ((op : Int) == 65) = false := by simp; omega
  have e66 : ((op : Int) == 66) = false := by simp; omega
  have e69 : ((op : Int) == 69) = false := by simp; omega
  have e80 : ((op : Int) == 80) = false := by simp; omega
  have e167 : ((op : Int) == 167) = false := by simp; omega
  have e172 : ((op : Int) == 172) = false := by simp; omega
  have e173 : ((op : Int) == 173) = false := by simp; omega
  have e192 : ((op : Int) == 192) = false := by simp; omega
  have e193 : ((op : Int) == 193) = false := by simp; omega
  have g103e : ¬ (103 : Int) ≤ op := by omega
  have k105e : (op : Int) ≤ 105 := by omega
  have g44e : (44 : Int) ≤ op := by omega
  have k47e : ¬ (op : Int) ≤ 47 := by omega
  have g70e : ¬ (70 : Int) ≤ op := by omega
  have k79e : (op : Int) ≤ 79 := by omega
  have g106e : ¬ (106 : Int) ≤ op := by omega
  have k120e : (op : Int) ≤ 120 := by omega
  have g81e : ¬ (81 : Int) ≤ op := by omega
  have k90e : (op : Int) ≤ 90 := by omega
  have g121e : ¬ (121 : Int) ≤ op := by omega
  have k123e : (op : Int) ≤ 123 := by omega
  have g194e : ¬ (194 : Int) ≤ op := by omega
  have k196e : (op : Int) ≤ 196 := by omega
  have g124e : ¬ (124 : Int) ≤ op := by omega
  have k138e : (op : Int) ≤ 138 := by omega
  have g48e : (48 : Int) ≤ op := by omega
  have k53e : (op : Int) ≤ 53 := by omega
  have g60e : ¬ (60 : Int) ≤ op := by omega
  have k62e : (op : Int) ≤ 62 := by omega
  go_enter Tryz.func172, Tryz.ntmps172
  go_wp2_with fail
  go_ret
  exact ⟨rfl, rfl⟩
 ·have t_tT : tT op = 8 := (by decide +kernel : ∀ x, x < 256 → 54 ≤ x ∧ x ≤ 54 → tT x = 8) op hop hr
  rw [t_tT]
  obtain rfl : op = 54 := by omega
  go_enter Tryz.func172, Tryz.ntmps172
  go_wp2_with fail
  go_ret
  exact ⟨rfl, rfl⟩
 ·have t_tT : tT op = 9 := (by decide +kernel : ∀ x, x < 256 → 55 ≤ x ∧ x ≤ 55 → tT x = 9) op hop hr
  rw [t_tT]
  obtain rfl : op = 55 := by omega
  go_enter Tryz.func172, Tryz.ntmps172
  go_wp2_with fail
  go_ret
  exact ⟨rfl, rfl⟩
 ·have t_tT : tT op = 0 := (by decide +kernel : ∀ x, x < 256 → 56 ≤ x ∧ x ≤ 57 → tT x = 0) op hop hr
  rw [t_tT]
  have e40 : ((op : Int) == 40) = false := by simp; omega
  have e41 : ((op : Int) == 41) = false := by simp; omega
  have e54 : ((op : Int) == 54) = false := by simp; omega
  have e55 : ((op : Int) == 55) = false := by simp; omega
  have e58 : ((op : Int) == 58) = false := by simp; omega
  have e59 : ((op : Int) == 59) = false := by simp; omega
  have e63 : ((op : Int) == 63) = false := by simp; omega
  have e64 : ((op : Int) == 64) = false := by simp; omega
  have e65 : ((op : Int) == 65) = false := by simp; omega
  have e66 : ((op : Int) == 66) = false := by simp; omega
  have e69 : ((op : Int) == 69) = false := by simp; omega
  have e80 : ((op : Int) == 80) = false := by simp; omega
  have e167 : ((op : Int) == 167) = false := by simp; omega
  have e172 : ((op : Int) == 172) = false := by simp; omega
  have e173 : ((op : Int) == 173) = false := by simp; omega
  have e192 : ((op : Int) == 192) = false := by simp; omega
  have e193 : ((op : Int) == 193) = false := by simp; omega
  have g103e : ¬ (103 : Int) ≤ op := by omega
  have k105e : (op : Int) ≤ 105 := by omega
  have g44e : (44 : Int) ≤ op := by omega
  have k47e : ¬ (op : Int) ≤ 47 := by omega
  have g70e : ¬ (70 : Int) ≤ op := by omega
  have k79e : (op : Int) ≤ 79 := by omega
  have g106e : ¬ (106 : Int) ≤ op := by omega
  have k120e : (op : Int) ≤ 120 := by omega
  have g81e : ¬ (81 : Int) ≤ op := by omega
  have k90e : (op : Int) ≤ 90 := by omega
  have g121e : ¬ (121 : Int) ≤ op := by omega
  have k123e : (op : Int) ≤ 123 := by omega
  have g194e : ¬ (194 : Int) ≤ op := by omega
  have k196e : (op : Int) ≤ 196 := by omega
  have g124e : ¬ (124 : Int) ≤ op := by omega
  have k138e : (op : Int) ≤ 138 := by omega
  have g48e : (48 : Int) ≤ op := by omega
  have k53e : ¬ (op : Int) ≤ 53 := by omega
  have g60e : ¬ (60 : Int) ≤ op := by omega
  have k62e : (op : Int) ≤ 62 := by omega
  go_enter Tryz.func172, Tryz.ntmps172
  go_wp2_with fail
  go_ret
  exact ⟨rfl, rfl⟩
 ·have t_tT : tT op = 8 := (by decide +kernel : ∀ x, x < 256 → 58 ≤ x ∧ x ≤ 58 → tT x = 8) op hop hr
  rw [t_tT]
  obtain rfl : op = 58 := by omega
  go_enter Tryz.func172, Tryz.ntmps172
  go_wp2_with fail
  go_ret
  exact ⟨rfl, rfl⟩
 ·have t_tT : tT op = 8 := (by decide +kernel : ∀ x, x < 256 → 59 ≤ x ∧ x ≤ 59 → tT x = 8) op hop hr
  rw [t_tT]
  obtain rfl : op = 59 := by omega
  go_enter Tryz.func172, Tryz.ntmps172
  go_wp2_with fail
  go_ret
  exact ⟨rfl, rfl⟩
 ·have t_tT : tT op = 9 := (by decide +kernel : ∀ x, x < 256 → 60 ≤ x ∧ x ≤ 62 → tT x = 9) op hop hr
  rw [t_tT]
  have e40 : ((op : Int) == 40) = false := by simp; omega
  have e41 : ((op : Int) == 41) = false := by simp; omega
  have e54 : ((op : Int) == 54) = false := by simp; omega
  have e55 : ((op : Int) == 55) = false := by simp; omega
  have e58 : ((op : Int) == 58) = false := by simp; omega
  have e59 : ((op : Int) == 59) = false := by simp; omega
  have e63 : ((op : Int) == 63) = false := by simp; omega
  have e64 : ((op : Int) == 64) = false := by simp; omega
  have e65 : ((op : Int) == 65) = false := by simp; omega
  have e66 : ((op : Int) == 66) = false := by simp; omega
  have e69 : ((op : Int) == 69) = false := by simp; omega
  have e80 : ((op : Int) == 80) = false := by simp; omega
  have e167 : ((op : Int) == 167) = false := by simp; omega
  have e172 : ((op : Int) == 172) = false := by simp; omega
  have e173 : ((op : Int) == 173) = false := by simp; omega
  have e192 : ((op : Int) == 192) = false := by simp; omega
  have e193 : ((op : Int) == 193) = false := by simp; omega
  have g103e : ¬ (103 : Int) ≤ op := by omega
  have k105e : (op : Int) ≤ 105 := by omega
  have g44e : (44 : Int) ≤ op := by omega
  have k47e : ¬ (op : Int) ≤ 47 := by omega
  have g70e : ¬ (70 : Int) ≤ op := by omega
  have k79e : (op : Int) ≤ 79 := by omega
  have g106e : ¬ (106 : Int) ≤ op := by omega
  have k120e : (op : Int) ≤ 120 := by omega
  have g81e : ¬ (81 : Int) ≤ op := by omega
  have k90e : (op : Int) ≤ 90 := by omega
  have g121e : ¬ (121 : Int) ≤ op := by omega
  have k123e : (op : Int) ≤ 123 := by omega
  have g194e : ¬ (194 : Int) ≤ op := by omega
  have k196e : (op : Int) ≤ 196 := by omega
  have g124e : ¬ (124 : Int) ≤ op := by omega
  have k138e : (op : Int) ≤ 138 := by omega
  have g48e : (48 : Int) ≤ op := by omega
  have k53e : ¬ (op : Int) ≤ 53 := by omega
  have g60e : (60 : Int) ≤ op := by omega
  have k62e : (op : Int) ≤ 62 := by omega
  go_enter Tryz.func172, Tryz.ntmps172
  go_wp2_with fail
  go_ret
  exact ⟨rfl, rfl⟩
 ·have t_tT : tT op = 10 := (by decide +kernel : ∀ x, x < 256 → 63 ≤ x ∧ x ≤ 63 → tT x = 10) op hop hr
  rw [t_tT]
  obtain rfl : op = 63 := by omega
  go_enter Tryz.func172, Tryz.ntmps172
  go_wp2_with fail
  go_ret
  exact ⟨rfl, rfl⟩
 ·have t_tT : tT op = 1 := (by decide +kernel : ∀ x, x < 256 → 64 ≤ x ∧ x ≤ 64 → tT x = 1) op hop hr
  rw [t_tT]
  obtain rfl : op = 64 := by omega
  go_enter Tryz.func172, Tryz.ntmps172
  go_wp2_with fail
  go_ret
  exact ⟨rfl, rfl⟩
 ·have t_tT : tT op = 10 := (by decide +kernel : ∀ x, x < 256 → 65 ≤ x ∧ x ≤ 65 → tT x = 10) op hop hr
  rw [t_tT]
  obtain rfl : op = 65 := by omega
  go_enter Tryz.func172, Tryz.ntmps172
  go_wp2_with fail
  go_ret
  exact ⟨rfl, rfl⟩
 ·have t_tT : tT op = 11 := (by decide +kernel : ∀ x, x < 256 → 66 ≤ x ∧ x ≤ 66 → tT x = 11) op hop hr
  rw [t_tT]
  obtain rfl : op = 66 := by omega
  go_enter Tryz.func172, Tryz.ntmps172
  go_wp2_with fail
  go_ret
  exact ⟨rfl, rfl⟩
 ·have t_tT : tT op = 0 := (by decide +kernel : ∀ x, x < 256 → 67 ≤ x ∧ x ≤ 68 → tT x = 0) op hop hr
  rw [t_tT]
  have e40 : ((op : Int) == 40) = false := by simp; omega
  have e41 : ((op : Int) == 41) = false := by simp; omega
  have e54 : ((op : Int) == 54) = false := by simp; omega
  have e55 : ((op : Int) == 55) = false := by simp; omega
  have e58 : ((op : Int) == 58) = false := by simp; omega
  have e59 : ((op : Int) == 59) = false := by simp; omega
  have e63 : ((op : Int) == 63) = false := by simp; omega
  have e64 : ((op : Int) == 64) = false := by simp; omega
  have e65 : ((op : Int) == 65) = false := by simp; omega
  have e66 : ((op : Int) == 66) = false := by simp; omega
  have e69 : ((op : Int) == 69) = false := by simp; omega
  have e80 : ((op : Int) == 80) = false := by simp; omega
  have e167 : ((op : Int) == 167) = false := by simp; omega
  have e172 : ((op : Int) == 172) = false := by simp; omega
  have e173 : ((op : Int) == 173) = false := by simp; omega
  have e192 : ((op : Int) == 192) = false := by simp; omega
  have e193 : ((op : Int) == 193) = false := by simp; omega
  have g103e : ¬ (103 : Int) ≤ op := by omega
  have k105e : (op : Int) ≤ 105 := by omega
  have g44e : (44 : Int) ≤ op := by omega
  have k47e : ¬ (op : Int) ≤ 47 := by omega
  have g70e : ¬ (70 : Int) ≤ op := by omega
  have k79e : (op : Int) ≤ 79 := by omega
  have g106e : ¬ (106 : Int) ≤ op := by omega
  have k120e : (op : Int) ≤ 120 := by omega
  have g81e : ¬ (81 : Int) ≤ op := by omega
  have k90e : (op : Int) ≤ 90 := by omega
  have g121e : ¬ (121 : Int) ≤ op := by omega
  have k123e : (op : Int) ≤ 123 := by omega
  have g194e : ¬ (194 : Int) ≤ op := by omega
  have k196e : (op : Int) ≤ 196 := by omega
  have g124e : ¬ (124 : Int) ≤ op := by omega
  have k138e : (op : Int) ≤ 138 := by omega
  have g48e : (48 : Int) ≤ op := by omega
  have k53e : ¬ (op : Int) ≤ 53 := by omega
  have g60e : (60 : Int) ≤ op := by omega
  have k62e : ¬ (op : Int) ≤ 62 := by omega
  go_enter Tryz.func172, Tryz.ntmps172
  go_wp2_with fail
  go_ret
  exact ⟨rfl, rfl⟩
 ·have t_tT : tT op = 1 := (by decide +kernel : ∀ x, x < 256 → 69 ≤ x ∧ x ≤ 69 → tT x = 1) op hop hr
  rw [t_tT]
  obtain rfl : op = 69 := by omega
  go_enter Tryz.func172, Tryz.ntmps172
  go_wp2_with fail
  go_ret
  exact ⟨rfl, rfl⟩
 ·have t_tT : tT op = 3 := (by decide +kernel : ∀ x, x < 256 → 70 ≤ x ∧ x ≤ 79 → tT x = 3) op hop hr
  rw [t_tT]
  have e40 : ((op : Int) == 40) = false := by simp; omega
  have e41 : ((op : Int) == 41) = false := by simp; omega
  have e54 : ((op : Int) == 54) = false := by simp; omega
  have e55 : ((op : Int) == 55) = false := by simp; omega
  have e58 : ((op : Int) == 58) = false := by simp; omega
  have e59 : ((op : Int) == 59) = false := by simp; omega
  have e63 : ((op : Int) == 63) = false := by simp; omega
  have e64 : ((op : Int) == 64) = false := by simp; omega
  have e65 : ((op : Int) == 65) = false := by simp; omega
  have e66 : ((op : Int) == 66) = false := by simp; omega
  have e69 : ((op : Int) == 69) = false := by simp; omega
  have e80 : ((op : Int) == 80) = false := by simp; omega
  have e167 : ((op : Int) == 167) = false := by simp; omega
  have e172 : ((op : Int) == 172) = false := by simp; omega
  have e173 : ((op : Int) == 173) = false := by simp; omega
  have e192 : ((op : Int) == 192) = false := by simp; omega
  have e193 : ((op : Int) == 193) = false := by simp; omega
  have g103e : ¬ (103 : Int) ≤ op := by omega
  have k105e : (op : Int) ≤ 105 := by omega
  have g44e : (44 : Int) ≤ op := by omega
  have k47e : ¬ (op : Int) ≤ 47 := by omega
  have g70e : (70 : Int) ≤ op := by omega
  have k79e : (op : Int) ≤ 79 := by omega
  have g106e : ¬ (106 : Int) ≤ op := by omega
  have k120e : (op : Int) ≤ 120 := by omega
  have g81e : ¬ (81 : Int) ≤ op := by omega
  have k90e : (op : Int) ≤ 90 := by omega
  have g121e : ¬ (121 : Int) ≤ op := by omega
  have k123e : (op : Int) ≤ 123 := by omega
  have g194e : ¬ (194 : Int) ≤ op := by omega
  have k196e : (op : Int) ≤ 196 := by omega
  have g124e : ¬ (124 : Int) ≤ op := by omega
  have k138e : (op : Int) ≤ 138 := by omega
  have g48e : (48 : Int) ≤ op := by omega
  have k53e : ¬ (op : Int) ≤ 53 := by omega
  have g60e : (60 : Int) ≤ op := by omega
  have k62e : ¬ (op : Int) ≤ 62 := by omega
  go_enter Tryz.func172, Tryz.ntmps172
  go_wp2_with fail
  go_ret
  exact ⟨rfl, rfl⟩
 ·have t_tT : tT op = 2 := (by decide +kernel : ∀ x, x < 256 → 80 ≤ x ∧ x ≤ 80 → tT x = 2) op hop hr
  rw [t_tT]
  obtain rfl : op = 80 := by omega
  go_enter Tryz.func172, Tryz.ntmps172
  go_wp2_with fail
  go_ret
  exact ⟨rfl, rfl⟩
 ·have t_tT : tT op = 4 := (by decide +kernel : ∀ x, x < 256 → 81 ≤ x ∧ x ≤ 90 → tT x = 4) op hop hr
  rw [t_tT]
  have e40 : ((op : Int) == 40) = false := by simp; omega
  have e41 : ((op : Int) == 41) = false := by simp; omega
  have e54 : ((op : Int) == 54) = false := by simp; omega
  have e55 : ((op : Int) == 55) = false := by simp; omega
  have e58 : ((op : Int) == 58) = false := by simp; omega
  have e59 : ((op : Int) == 59) = false := by simp; omega
  have e63 : ((op : Int) == 63) = false := by simp; omega
  have e64 : ((op : Int) == 64) = false := by simp; omega
  have e65 : ((op : Int) == 65) = false := by simp; omega
  have e66 : ((op : Int) == 66) = false := by simp; omega
  have e69 : ((op : Int) == 69) = false := by simp; omega
  have e80 : ((op : Int) == 80) = false := by simp; omega
  have e167 : ((op : Int) == 167) = false := by simp; omega
  have e172 : ((op : Int) == 172) = false := by simp; omega
  have e173 : ((op : Int) == 173) = false := by simp; omega
  have e192 : ((op : Int) == 192) = false := by simp; omega
  have e193 : ((op : Int) == 193) = false := by simp; omega
  have g103e : ¬ (103 : Int) ≤ op := by omega
  have k105e : (op : Int) ≤ 105 := by omega
  have g44e : (44 : Int) ≤ op := by omega
  have k47e : ¬ (op : Int) ≤ 47 := by omega
  have g70e : (70 : Int) ≤ op := by omega
  have k79e : ¬ (op : Int) ≤ 79 := by omega
  have g106e : ¬ (106 : Int) ≤ op := by omega
  have k120e : (op : Int) ≤ 120 := by omega
  have g81e : (81 : Int) ≤ op := by omega
  have k90e : (op : Int) ≤ 90 := by omega
  have g121e : ¬ (121 : Int) ≤ op := by omega
  have k123e : (op : Int) ≤ 123 := by omega
  have g194e : ¬ (194 : Int) ≤ op := by omega
  have k196e : (op : Int) ≤ 196 := by omega
  have g124e : ¬ (124 : Int) ≤ op := by omega
  have k138e : (op : Int) ≤ 138 := by omega
  have g48e : (48 : Int) ≤ op := by omega
  have k53e : ¬ (op : Int) ≤ 53 := by omega
  have g60e : (60 : Int) ≤ op := by omega
  have k62e : ¬ (op : Int) ≤ 62 := by omega
  go_enter Tryz.func172, Tryz.ntmps172
  go_wp2_with fail
  go_ret
  exact ⟨rfl, rfl⟩
 ·have t_tT : tT op = 0 := (by decide +kernel : ∀ x, x < 256 → 91 ≤ x ∧ x ≤ 102 → tT x = 0) op hop hr
  rw [t_tT]
  have e40 : ((op : Int) == 40) = false := by simp; omega
  have e41 : ((op : Int) == 41) = false := by simp; omega
  have e54 : ((op : Int) == 54) = false := by simp; omega
  have e55 : ((op : Int) == 55) = false := by simp; omega
  have e58 : ((op : Int) == 58) = false := by simp; omega
  have e59 : ((op : Int) == 59) = false := by simp; omega
  have e63 : ((op : Int) == 63) = false := by simp; omega
  have e64 : ((op : Int) == 64) = false := by simp; omega
  have e65 : ((op : Int) == 65) = false := by simp; omega
  have e66 : ((op : Int) == 66) = false := by simp; omega
  have e69 : ((op : Int) == 69) = false := by simp; omega
  have e80 : ((op : Int) == 80) = false := by simp; omega
  have e167 : ((op : Int) == 167) = false := by simp; omega
  have e172 : ((op : Int) == 172) = false := by simp; omega
  have e173 : ((op : Int) == 173) = false := by simp; omega
  have e192 : ((op : Int) == 192) = false := by simp; omega
  have e193 : ((op : Int) == 193) = false := by simp; omega
  have g103e : ¬ (103 : Int) ≤ op := by omega
  have k105e : (op : Int) ≤ 105 := by omega
  have g44e : (44 : Int) ≤ op := by omega
  have k47e : ¬ (op : Int) ≤ 47 := by omega
  have g70e : (70 : Int) ≤ op := by omega
  have k79e : ¬ (op : Int) ≤ 79 := by omega
  have g106e : ¬ (106 : Int) ≤ op := by omega
  have k120e : (op : Int) ≤ 120 := by omega
  have g81e : (81 : Int) ≤ op := by omega
  have k90e : ¬ (op : Int) ≤ 90 := by omega
  have g121e : ¬ (121 : Int) ≤ op := by omega
  have k123e : (op : Int) ≤ 123 := by omega
  have g194e : ¬ (194 : Int) ≤ op := by omega
  have k196e : (op : Int) ≤ 196 := by omega
  have g124e : ¬ (124 : Int) ≤ op := by omega
  have k138e : (op : Int) ≤ 138 := by omega
  have g48e : (48 : Int) ≤ op := by omega
  have k53e : ¬ (op : Int) ≤ 53 := by omega
  have g60e : (60 : Int) ≤ op := by omega
  have k62e : ¬ (op : Int) ≤ 62 := by omega
  go_enter Tryz.func172, Tryz.ntmps172
  go_wp2_with fail
  go_ret
  exact ⟨rfl, rfl⟩
 ·have t_tT : tT op = 1 := (by decide +kernel : ∀ x, x < 256 → 103 ≤ x ∧ x ≤ 105 → tT x = 1) op hop hr
  rw [t_tT]
  have e40 : ((op : Int) == 40) = false := by simp; omega
  have e41 : ((op : Int) == 41) = false := by simp; omega
  have e54 : ((op : Int) == 54) = false := by simp; omega
  have e55 : ((op : Int) == 55) = false := by simp; omega
  have e58 : ((op : Int) == 58) = false := by simp; omega
  have e59 : ((op : Int) == 59) = false := by simp; omega
  have e63 : ((op : Int) == 63) = false := by simp; omega
  have e64 : ((op : Int) == 64) = false := by simp; omega
  have e65 : ((op : Int) == 65) = false := by simp; omega
  have e66 : ((op : Int) == 66) = false := by simp; omega
  have e69 : ((op : Int) == 69) = false := by simp; omega
  have e80 : ((op : Int) == 80) = false := by simp; omega
  have e167 : ((op : Int) == 167) = false := by simp; omega
  have e172 : ((op : Int) == 172) = false := by simp; omega
  have e173 : ((op : Int) == 173) = false := by simp; omega
  have e192 : ((op : Int) == 192) = false := by simp; omega
  have e193 : ((op : Int) == 193) = false := by simp; omega
  have g103e : (103 : Int) ≤ op := by omega
  have k105e : (op : Int) ≤ 105 := by omega
  have g44e : (44 : Int) ≤ op := by omega
  have k47e : ¬ (op : Int) ≤ 47 := by omega
  have g70e : (70 : Int) ≤ op := by omega
  have k79e : ¬ (op : Int) ≤ 79 := by omega
  have g106e : ¬ (106 : Int) ≤ op := by omega
  have k120e : (op : Int) ≤ 120 := by omega
  have g81e : (81 : Int) ≤ op := by omega
  have k90e : ¬ (op : Int) ≤ 90 := by omega
  have g121e : ¬ (121 : Int) ≤ op := by omega
  have k123e : (op : Int) ≤ 123 := by omega
  have g194e : ¬ (194 : Int) ≤ op := by omega
  have k196e : (op : Int) ≤ 196 := by omega
  have g124e : ¬ (124 : Int) ≤ op := by omega
  have k138e : (op : Int) ≤ 138 := by omega
  have g48e : (48 : Int) ≤ op := by omega
  have k53e : ¬ (op : Int) ≤ 53 := by omega
  have g60e : (60 : Int) ≤ op := by omega
  have k62e : ¬ (op : Int) ≤ 62 := by omega
  go_enter Tryz.func172, Tryz.ntmps172
  go_wp2_with fail
  go_ret
  exact ⟨rfl, rfl⟩
 ·have t_tT : tT op = 3 := (by decide +kernel : ∀ x, x < 256 → 106 ≤ x ∧ x ≤ 120 → tT x = 3) op hop hr
  rw [t_tT]
  have e40 : ((op : Int) == 40) = false := by simp; omega
  have e41 : ((op : Int) == 41) = false := by simp; omega
  have e54 : ((op : Int) == 54) = false := by simp; omega
  have e55 : ((op : Int) == 55) = false := by simp; omega
  have e58 : ((op : Int) == 58) = false := by simp; omega
  have e59 : ((op : Int) == 59) = false := by simp; omega
  have e63 : ((op : Int) == 63) = false := by simp; omega
  have e64 : ((op : Int) == 64) = false := by simp; omega
  have e65 : ((op : Int) == 65) = false := by simp; omega
  have e66 : ((op : Int) == 66) = false := by simp; omega
  have e69 : ((op : Int) == 69) = false := by simp; omega
  have e80 : ((op : Int) == 80) = false := by simp; omega
  have e167 : ((op : Int) == 167) = false := by simp; omega
  have e172 : ((op : Int) == 172) = false := by simp; omega
  have e173 : ((op : Int) == 173) = false := by simp; omega
  have e192 : ((op : Int) == 192) = false := by simp; omega
  have e193 : ((op : Int) == 193) = false := by simp; omega
  have g103e : (103 : Int) ≤ op := by omega
  have k105e : ¬ (op : Int) ≤ 105 := by omega
  have g44e : (44 : Int) ≤ op := by omega
  have k47e : ¬ (op : Int) ≤ 47 := by omega
  have g70e : (70 : Int) ≤ op := by omega
  have k79e : ¬ (op : Int) ≤ 79 := by omega
  have g106e : (106 : Int) ≤ op := by omega
  have k120e : (op : Int) ≤ 120 := by omega
  have g81e : (81 : Int) ≤ op := by omega
  have k90e : ¬ (op : Int) ≤ 90 := by omega
  have g121e : ¬ (121 : Int) ≤ op := by omega
  have k123e : (op : Int) ≤ 123 := by omega
  have g194e : ¬ (194 : Int) ≤ op := by omega
  have k196e : (op : Int) ≤ 196 := by omega
  have g124e : ¬ (124 : Int) ≤ op := by omega
  have k138e : (op : Int) ≤ 138 := by omega
  have g48e : (48 : Int) ≤ op := by omega
  have k53e : ¬ (op : Int) ≤ 53 := by omega
  have g60e : (60 : Int) ≤ op := by omega
  have k62e : ¬ (op : Int) ≤ 62 := by omega
  go_enter Tryz.func172, Tryz.ntmps172
  go_wp2_with fail
  go_ret
  exact ⟨rfl, rfl⟩
 ·have t_tT : tT op = 5 := (by decide +kernel : ∀ x, x < 256 → 121 ≤ x ∧ x ≤ 123 → tT x = 5) op hop hr
  rw [t_tT]
  have e40 : ((op : Int) == 40) = false := by simp; omega
  have e41 : ((op : Int) == 41) = false := by simp; omega
  have e54 : ((op : Int) == 54) = false := by simp; omega
  have e55 : ((op : Int) == 55) = false := by simp; omega
  have e58 : ((op : Int) == 58) = false := by simp; omega
  have e59 : ((op : Int) == 59) = false := by simp; omega
  have e63 : ((op : Int) == 63) = false := by simp; omega
  have e64 : ((op : Int) == 64) = false := by simp; omega
  have e65 : ((op : Int) == 65) = false := by simp; omega
  have e66 : ((op : Int) == 66) = false := by simp; omega
  have e69 : ((op : Int) == 69) = false := by simp; omega
  have e80 : ((op : Int) == 80) = false := by simp; omega
  have e167 : ((op : Int) == 167) = false := by simp; omega
  have e172 : ((op : Int) == 172) = false := by simp; omega
  have e173 : ((op : Int) == 173) = false := by simp; omega
  have e192 : ((op : Int) == 192) = false := by simp; omega
  have e193 : ((op : Int) == 193) = false := by simp; omega
  have g103e : (103 : Int) ≤ op := by omega
  have k105e : ¬ (op : Int) ≤ 105 := by omega
  have g44e : (44 : Int) ≤ op := by omega
  have k47e : ¬ (op : Int) ≤ 47 := by omega
  have g70e : (70 : Int) ≤ op := by omega
  have k79e : ¬ (op : Int) ≤ 79 := by omega
  have g106e : (106 : Int) ≤ op := by omega
  have k120e : ¬ (op : Int) ≤ 120 := by omega
  have g81e : (81 : Int) ≤ op := by omega
  have k90e : ¬ (op : Int) ≤ 90 := by omega
  have g121e : (121 : Int) ≤ op := by omega
  have k123e : (op : Int) ≤ 123 := by omega
  have g194e : ¬ (194 : Int) ≤ op := by omega
  have k196e : (op : Int) ≤ 196 := by omega
  have g124e : ¬ (124 : Int) ≤ op := by omega
  have k138e : (op : Int) ≤ 138 := by omega
  have g48e : (48 : Int) ≤ op := by omega
  have k53e : ¬ (op : Int) ≤ 53 := by omega
  have g60e : (60 : Int) ≤ op := by omega
  have k62e : ¬ (op : Int) ≤ 62 := by omega
  go_enter Tryz.func172, Tryz.ntmps172
  go_wp2_with fail
  go_ret
  exact ⟨rfl, rfl⟩
 ·have t_tT : tT op = 6 := (by decide +kernel : ∀ x, x < 256 → 124 ≤ x ∧ x ≤ 138 → tT x = 6) op hop hr
  rw [t_tT]
  have e40 : ((op : Int) == 40) = false := by simp; omega
  have e41 : ((op : Int) == 41) = false := by simp; omega
  have e54 : ((op : Int) == 54) = false := by simp; omega
  have e55 : ((op : Int) == 55) = false := by simp; omega
  have e58 : ((op : Int) == 58) = false := by simp; omega
  have e59 : ((op : Int) == 59) = false := by simp; omega
  have e63 : ((op : Int) == 63) = false := by simp; omega
  have e64 : ((op : Int) == 64) = false := by simp; omega
  have e65 : ((op : Int) == 65) = false := by simp; omega
  have e66 : ((op : Int) == 66) = false := by simp; omega
  have e69 : ((op : Int) == 69) = false := by simp; omega
  have e80 : ((op : Int) == 80) = false := by simp; omega
  have e167 : ((op : Int) == 167) = false := by simp; omega
  have e172 : ((op : Int) == 172) = false := by simp; omega
  have e173 : ((op : Int) == 173) = false := by simp; omega
  have e192 : ((op : Int) == 192) = false := by simp; omega
  have e193 : ((op : Int) == 193) = false := by simp; omega
  have g103e : (103 : Int) ≤ op := by omega
  have k105e : ¬ (op : Int) ≤ 105 := by omega
  have g44e : (44 : Int) ≤ op := by omega
  have k47e : ¬ (op : Int) ≤ 47 := by omega
  have g70e : (70 : Int) ≤ op := by omega
  have k79e : ¬ (op : Int) ≤ 79 := by omega
  have g106e : (106 : Int) ≤ op := by omega
  have k120e : ¬ (op : Int) ≤ 120 := by omega
  have g81e : (81 : Int) ≤ op := by omega
  have k90e : ¬ (op : Int) ≤ 90 := by omega
  have g121e : (121 : Int) ≤ op := by omega
  have k123e : ¬ (op : Int) ≤ 123 := by omega
  have g194e : ¬ (194 : Int) ≤ op := by omega
  have k196e : (op : Int) ≤ 196 := by omega
  have g124e : (124 : Int) ≤ op := by omega
  have k138e : (op : Int) ≤ 138 := by omega
  have g48e : (48 : Int) ≤ op := by omega
  have k53e : ¬ (op : Int) ≤ 53 := by omega
  have g60e : (60 : Int) ≤ op := by omega
  have k62e : ¬ (op : Int) ≤ 62 := by omega
  go_enter Tryz.func172, Tryz.ntmps172
  go_wp2_with fail
  go_ret
  exact ⟨rfl, rfl⟩
 ·have t_tT : tT op = 0 := (by decide +kernel : ∀ x, x < 256 → 139 ≤ x ∧ x ≤ 166 → tT x = 0) op hop hr
  rw [t_tT]
  have e40 : ((op : Int) == 40) = false := by simp; omega
  have e41 : ((op : Int) == 41) = false := by simp; omega
  have e54 : ((op : Int) == 54) = false := by simp; omega
  have e55 : ((op : Int) == 55) = false := by simp; omega
  have e58 : ((op : Int) == 58) = false := by simp; omega
  have e59 : ((op : Int) == 59) = false := by simp; omega
  have e63 : ((op : Int) == 63) = false := by simp; omega
  have e64 : ((op : Int) == 64) = false := by simp; omega
  have e65 : ((op : Int) == 65) = false := by simp; omega
  have e66 : ((op : Int) == 66) = false := by simp; omega
  have e69 : ((op : Int) == 69) = false := by simp; omega
  have e80 : ((op : Int) == 80) = false := by simp; omega
  have e167 : ((op : Int) == 167) = false := by simp; omega
  have e172 : ((op : Int) == 172) = false := by simp; omega
  have e173 : ((op : Int) == 173) = false := by simp; omega
  have e192 : ((op : Int) == 192) = false := by simp; omega
  have e193 : ((op : Int) == 193) = false := by simp; omega
  have g103e : (103 : Int) ≤ op := by omega
  have k105e : ¬ (op : Int) ≤ 105 := by omega
  have g44e : (44 : Int) ≤ op := by omega
  have k47e : ¬ (op : Int) ≤ 47 := by omega
  have g70e : (70 : Int) ≤ op := by omega
  have k79e : ¬ (op : Int) ≤ 79 := by omega
  have g106e : (106 : Int) ≤ op := by omega
  have k120e : ¬ (op : Int) ≤ 120 := by omega
  have g81e : (81 : Int) ≤ op := by omega
  have k90e : ¬ (op : Int) ≤ 90 := by omega
  have g121e : (121 : Int) ≤ op := by omega
  have k123e : ¬ (op : Int) ≤ 123 := by omega
  have g194e : ¬ (194 : Int) ≤ op := by omega
  have k196e : (op : Int) ≤ 196 := by omega
  have g124e : (124 : Int) ≤ op := by omega
  have k138e : ¬ (op : Int) ≤ 138 := by omega
  have g48e : (48 : Int) ≤ op := by omega
  have k53e : ¬ (op : Int) ≤ 53 := by omega
  have g60e : (60 : Int) ≤ op := by omega
  have k62e : ¬ (op : Int) ≤ 62 := by omega
  go_enter Tryz.func172, Tryz.ntmps172
  go_wp2_with fail
  go_ret
  exact ⟨rfl, rfl⟩
 ·have t_tT : tT op = 2 := (by decide +kernel : ∀ x, x < 256 → 167 ≤ x ∧ x ≤ 167 → tT x = 2) op hop hr
  rw [t_tT]
  obtain rfl : op = 167 := by omega
  go_enter Tryz.func172, Tryz.ntmps172
  go_wp2_with fail
  go_ret
  exact ⟨rfl, rfl⟩
 ·have t_tT : tT op = 0 := (by decide +kernel : ∀ x, x < 256 → 168 ≤ x ∧ x ≤ 171 → tT x = 0) op hop hr
  rw [t_tT]
  have e40 : ((op : Int) == 40) = false := by simp; omega
  have e41 : ((op : Int) == 41) = false := by simp; omega
  have e54 : ((op : Int) == 54) = false := by simp; omega
  have e55 : ((op : Int) == 55) = false := by simp; omega
  have e58 : ((op : Int) == 58) = false := by simp; omega
  have e59 : ((op : Int) == 59) = false := by simp; omega
  have e63 : ((op : Int) == 63) = false := by simp; omega
  have e64 : ((op : Int) == 64) = false := by simp; omega
  have e65 : ((op : Int) == 65) = false := by simp; omega
  have e66 : ((op : Int) == 66) = false := by simp; omega
  have e69 : ((op : Int) == 69) = false := by simp; omega
  have e80 : ((op : Int) == 80) = false := by simp; omega
  have e167 : ((op : Int) == 167) = false := by simp; omega
  have e172 : ((op : Int) == 172) = false := by simp; omega
  have e173 : ((op : Int) == 173) = false := by simp; omega
  have e192 : ((op : Int) == 192) = false := by simp; omega
  have e193 : ((op : Int) == 193) = false := by simp; omega
  have g103e : (103 : Int) ≤ op := by omega
  have k105e : ¬ (op : Int) ≤ 105 := by omega
  have g44e : (44 : Int) ≤ op := by omega
  have k47e : ¬ (op : Int) ≤ 47 := by omega
  have g70e : (70 : Int) ≤ op := by omega
  have k79e : ¬ (op : Int) ≤ 79 := by omega
  have g106e : (106 : Int) ≤ op := by omega
  have k120e : ¬ (op : Int) ≤ 120 := by omega
  have g81e : (81 : Int) ≤ op := by omega
  have k90e : ¬ (op : Int) ≤ 90 := by omega
  have g121e : (121 : Int) ≤ op := by omega
  have k123e : ¬ (op : Int) ≤ 123 := by omega
  have g194e : ¬ (194 : Int) ≤ op := by omega
  have k196e : (op : Int) ≤ 196 := by omega
  have g124e : (124 : Int) ≤ op := by omega
  have k138e : ¬ (op : Int) ≤ 138 := by omega
  have g48e : (48 : Int) ≤ op := by omega
  have k53e : ¬ (op : Int) ≤ 53 := by omega
  have g60e : (60 : Int) ≤ op := by omega
  have k62e : ¬ (op : Int) ≤ 62 := by omega
  go_enter Tryz.func172, Tryz.ntmps172
  go_wp2_with fail
  go_ret
  exact ⟨rfl, rfl⟩
 ·have t_tT : tT op = 7 := (by decide +kernel : ∀ x, x < 256 → 172 ≤ x ∧ x ≤ 172 → tT x = 7) op hop hr
  rw [t_tT]
  obtain rfl : op = 172 := by omega
  go_enter Tryz.func172, Tryz.ntmps172
  go_wp2_with fail
  go_ret
  exact ⟨rfl, rfl⟩
 ·have t_tT : tT op = 7 := (by decide +kernel : ∀ x, x < 256 → 173 ≤ x ∧ x ≤ 173 → tT x = 7) op hop hr
  rw [t_tT]
  obtain rfl : op = 173 := by omega
  go_enter Tryz.func172, Tryz.ntmps172
  go_wp2_with fail
  go_ret
  exact ⟨rfl, rfl⟩
 ·have t_tT : tT op = 0 := (by decide +kernel : ∀ x, x < 256 → 174 ≤ x ∧ x ≤ 191 → tT x = 0) op hop hr
  rw [t_tT]
  have e40 : ((op : Int) == 40) = false := by simp; omega
  have e41 : ((op : Int) == 41) = false := by simp; omega
  have e54 : ((op : Int) == 54) = false := by simp; omega
  have e55 : ((op : Int) == 55) = false := by simp; omega
  have e58 : ((op : Int) == 58) = false := by simp; omega
  have e59 : ((op : Int) == 59) = false := by simp; omega
  have e63 : ((op : Int) == 63) = false := by simp; omega
  have e64 : ((op : Int) == 64) = false := by simp; omega
  have e65 : ((op : Int) == 65) = false := by simp; omega
  have e66 : ((op : Int) == 66) = false := by simp; omega
  have e69 : ((op : Int) == 69) = false := by simp; omega
  have e80 : ((op : Int) == 80) = false := by simp; omega
  have e167 : ((op : Int) == 167) = false := by simp; omega
  have e172 : ((op : Int) == 172) = false := by simp; omega
  have e173 : ((op : Int) == 173) = false := by simp; omega
  have e192 : ((op : Int) == 192) = false := by simp; omega
  have e193 : ((op : Int) == 193) = false := by simp; omega
  have g103e : (103 : Int) ≤ op := by omega
  have k105e : ¬ (op : Int) ≤ 105 := by omega
  have g44e : (44 : Int) ≤ op := by omega
  have k47e : ¬ (op : Int) ≤ 47 := by omega
  have g70e : (70 : Int) ≤ op := by omega
  have k79e : ¬ (op : Int) ≤ 79 := by omega
  have g106e : (106 : Int) ≤ op := by omega
  have k120e : ¬ (op : Int) ≤ 120 := by omega
  have g81e : (81 : Int) ≤ op := by omega
  have k90e : ¬ (op : Int) ≤ 90 := by omega
  have g121e : (121 : Int) ≤ op := by omega
  have k123e : ¬ (op : Int) ≤ 123 := by omega
  have g194e : ¬ (194 : Int) ≤ op := by omega
  have k196e : (op : Int) ≤ 196 := by omega
  have g124e : (124 : Int) ≤ op := by omega
  have k138e : ¬ (op : Int) ≤ 138 := by omega
  have g48e : (48 : Int) ≤ op := by omega
  have k53e : ¬ (op : Int) ≤ 53 := by omega
  have g60e : (60 : Int) ≤ op := by omega
  have k62e : ¬ (op : Int) ≤ 62 := by omega
  go_enter Tryz.func172, Tryz.ntmps172
  go_wp2_with fail
  go_ret
  exact ⟨rfl, rfl⟩
 ·have t_tT : tT op = 1 := (by decide +kernel : ∀ x, x < 256 → 192 ≤ x ∧ x ≤ 192 → tT x = 1) op hop hr
  rw [t_tT]
  obtain rfl : op = 192 := by omega
  go_enter Tryz.func172, Tryz.ntmps172
  go_wp2_with fail
  go_ret
  exact ⟨rfl, rfl⟩
 ·have t_tT : tT op = 1 := (by decide +kernel : ∀ x, x < 256 → 193 ≤ x ∧ x ≤ 193 → tT x = 1) op hop hr
  rw [t_tT]
  obtain rfl : op = 193 := by omega
  go_enter Tryz.func172, Tryz.ntmps172
  go_wp2_with fail
  go_ret
  exact ⟨rfl, rfl⟩
 ·have t_tT : tT op = 5 := (by decide +kernel : ∀ x, x < 256 → 194 ≤ x ∧ x ≤ 196 → tT x = 5) op hop hr
  rw [t_tT]
  have e40 : ((op : Int) == 40) = false := by simp; omega
  have e41 : ((op : Int) == 41) = false := by simp; omega
  have e54 : ((op : Int) == 54) = false := by simp; omega
  have e55 : ((op : Int) == 55) = false := by simp; omega
  have e58 : ((op : Int) == 58) = false := by simp; omega
  have e59 : ((op : Int) == 59) = false := by simp; omega
  have e63 : ((op : Int) == 63) = false := by simp; omega
  have e64 : ((op : Int) == 64) = false := by simp; omega
  have e65 : ((op : Int) == 65) = false := by simp; omega
  have e66 : ((op : Int) == 66) = false := by simp; omega
  have e69 : ((op : Int) == 69) = false := by simp; omega
  have e80 : ((op : Int) == 80) = false := by simp; omega
  have e167 : ((op : Int) == 167) = false := by simp; omega
  have e172 : ((op : Int) == 172) = false := by simp; omega
  have e173 : ((op : Int) == 173) = false := by simp; omega
  have e192 : ((op : Int) == 192) = false := by simp; omega
  have e193 : ((op : Int) == 193) = false := by simp; omega
  have g103e : (103 : Int) ≤ op := by omega
  have k105e : ¬ (op : Int) ≤ 105 := by omega
  have g44e : (44 : Int) ≤ op := by omega
  have k47e : ¬ (op : Int) ≤ 47 := by omega
  have g70e : (70 : Int) ≤ op := by omega
  have k79e : ¬ (op : Int) ≤ 79 := by omega
  have g106e : (106 : Int) ≤ op := by omega
  have k120e : ¬ (op : Int) ≤ 120 := by omega
  have g81e : (81 : Int) ≤ op := by omega
  have k90e : ¬ (op : Int) ≤ 90 := by omega
  have g121e : (121 : Int) ≤ op := by omega
  have k123e : ¬ (op : Int) ≤ 123 := by omega
  have g194e : (194 : Int) ≤ op := by omega
  have k196e : (op : Int) ≤ 196 := by omega
  have g124e : (124 : Int) ≤ op := by omega
  have k138e : ¬ (op : Int) ≤ 138 := by omega
  have g48e : (48 : Int) ≤ op := by omega
  have k53e : ¬ (op : Int) ≤ 53 := by omega
  have g60e : (60 : Int) ≤ op := by omega
  have k62e : ¬ (op : Int) ≤ 62 := by omega
  go_enter Tryz.func172, Tryz.ntmps172
  go_wp2_with fail
  go_ret
  exact ⟨rfl, rfl⟩
 ·have t_tT : tT op = 0 := (by decide +kernel : ∀ x, x < 256 → 197 ≤ x ∧ x ≤ 255 → tT x = 0) op hop hr
  rw [t_tT]
  have e40 : ((op : Int) == 40) = false := by simp; omega
  have e41 : ((op : Int) == 41) = false := by simp; omega
  have e54 : ((op : Int) == 54) = false := by simp; omega
  have e55 : ((op : Int) == 55) = false := by simp; omega
  have e58 : ((op : Int) == 58) = false := by simp; omega
  have e59 : ((op : Int) == 59) = false := by simp; omega
  have e63 : ((op : Int) == 63) = false := by simp; omega
  have e64 : ((op : Int) == 64) = false := by simp; omega
  have e65 : ((op : Int) == 65) = false := by simp; omega
  have e66 : ((op : Int) == 66) = false := by simp; omega
  have e69 : ((op : Int) == 69) = false := by simp; omega
  have e80 : ((op : Int) == 80) = false := by simp; omega
  have e167 : ((op : Int) == 167) = false := by simp; omega
  have e172 : ((op : Int) == 172) = false := by simp; omega
  have e173 : ((op : Int) == 173) = false := by simp; omega
  have e192 : ((op : Int) == 192) = false := by simp; omega
  have e193 : ((op : Int) == 193) = false := by simp; omega
  have g103e : (103 : Int) ≤ op := by omega
  have k105e : ¬ (op : Int) ≤ 105 := by omega
  have g44e : (44 : Int) ≤ op := by omega
  have k47e : ¬ (op : Int) ≤ 47 := by omega
  have g70e : (70 : Int) ≤ op := by omega
  have k79e : ¬ (op : Int) ≤ 79 := by omega
  have g106e : (106 : Int) ≤ op := by omega
  have k120e : ¬ (op : Int) ≤ 120 := by omega
  have g81e : (81 : Int) ≤ op := by omega
  have k90e : ¬ (op : Int) ≤ 90 := by omega
  have g121e : (121 : Int) ≤ op := by omega
  have k123e : ¬ (op : Int) ≤ 123 := by omega
  have g194e : (194 : Int) ≤ op := by omega
  have k196e : ¬ (op : Int) ≤ 196 := by omega
  have g124e : (124 : Int) ≤ op := by omega
  have k138e : ¬ (op : Int) ≤ 138 := by omega
  have g48e : (48 : Int) ≤ op := by omega
  have k53e : ¬ (op : Int) ≤ 53 := by omega
  have g60e : (60 : Int) ≤ op := by omega
  have k62e : ¬ (op : Int) ≤ 62 := by omega
  go_enter Tryz.func172, Tryz.ntmps172
  go_wp2_with fail
  go_ret
  exact ⟨rfl, rfl⟩

set_option maxRecDepth 100000 in
set_option maxHeartbeats 16000000 in
theorem rbeside_any (op : Nat) (hop : op < 256) (w : World) (hM : MaxL w) :
  Calls Tryz.prog 162 #[.int .u8 op] w fun e w' => e = .returned (.string (S (sdL (tB op)))) ∧ Below w.heap.size w w' := by
 rcases (by omega : (0 ≤ op ∧ op ≤ 0) ∨ (1 ≤ op ∧ op ≤ 1) ∨ (2 ≤ op ∧ op ≤ 4) ∨ (5 ≤ op ∧ op ≤ 5) ∨ (6 ≤ op ∧ op ≤ 10) ∨ (11 ≤ op ∧ op ≤ 11) ∨ (12 ≤ op ∧ op ≤ 12) ∨ (13 ≤ op ∧ op ≤ 13) ∨ (14 ≤ op ∧ op ≤ 14) ∨ (15 ≤ op ∧ op ≤ 15) ∨ (16 ≤ op ∧ op ≤ 16) ∨ (17 ≤ op ∧ op ≤ 17) ∨ (18 ≤ op ∧ op ≤ 25) ∨ (26 ≤ op ∧ op ≤ 26) ∨ (27 ≤ op ∧ op ≤ 27) ∨ (28 ≤ op ∧ op ≤ 31) ∨ (32 ≤ op ∧ op ≤ 36) ∨ (37 ≤ op ∧ op ≤ 39) ∨ (40 ≤ op ∧ op ≤ 40) ∨ (41 ≤ op ∧ op ≤ 41) ∨ (42 ≤ op ∧ op ≤ 43) ∨ (44 ≤ op ∧ op ≤ 47) ∨ (48 ≤ op ∧ op ≤ 53) ∨ (54 ≤ op ∧ op ≤ 54) ∨ (55 ≤ op ∧ op ≤ 55) ∨ (56 ≤ op ∧ op ≤ 57) ∨ (58 ≤ op ∧ op ≤ 59) ∨ (60 ≤ op ∧ op ≤ 62) ∨ (63 ≤ op ∧ op ≤ 63) ∨ (64 ≤ op ∧ op ≤ 64) ∨ (65 ≤ op ∧ op ≤ 65) ∨ (66 ≤ op ∧ op ≤ 66) ∨ (67 ≤ op ∧ op ≤ 68) ∨ (69 ≤ op ∧ op ≤ 69) ∨ (70 ≤ op ∧ op ≤ 79) ∨ (80 ≤ op ∧ op ≤ 80) ∨ (81 ≤ op ∧ op ≤ 90) ∨ (91 ≤ op ∧ op ≤ 102) ∨ (103 ≤ op ∧ op ≤ 105) ∨ (106 ≤ op ∧ op ≤ 120) ∨ (121 ≤ op ∧ op ≤ 123) ∨ (124 ≤ op ∧ op ≤ 138) ∨ (139 ≤ op ∧ op ≤ 166) ∨ (167 ≤ op ∧ op ≤ 167) ∨ (168 ≤ op ∧ op ≤ 171) ∨ (172 ≤ op ∧ op ≤ 173) ∨ (174 ≤ op ∧ op ≤ 191) ∨ (192 ≤ op ∧ op ≤ 193) ∨ (194 ≤ op ∧ op ≤ 196) ∨ (197 ≤ op ∧ op ≤ 255)) with hr | hr | hr | hr | hr | hr | hr | hr | hr | hr | hr | hr | hr | hr | hr | hr | hr | hr | hr | hr | hr | hr | hr | hr | hr | hr | hr | hr | hr | hr | hr | hr | hr | hr | hr | hr | hr | hr | hr | hr | hr | hr | hr | hr | hr | hr | hr | hr | hr | hr
 ·have t_tB : tB op = 1 := (by decide +kernel : ∀ x, x < 256 → 0 ≤ x ∧ x ≤ 0 → tB x = 1) op hop hr
  rw [t_tB]
  obtain rfl : op = 0 := by omega
  have HW := hid (rwidth_any 0 (by decide) w hM)
  rw [show tW 0 = 0 from rfl] at HW
  go_enter Tryz.func162, Tryz.ntmps162
  go_wp2_with (first | (go_at_call 171; refine HW.out.mono ?_; rintro r w1 ⟨rfl, hb1⟩; have B1 := hid hb1; clear hb1) | (go_at_call 172; refine (HT.out _).mono ?_; rintro r w2 ⟨rfl, rfl⟩))
  go_ret
  exact ⟨rfl, B1.out⟩
 ·have t_tB : tB op = 1 := (by decide +kernel : ∀ x, x < 256 → 1 ≤ x ∧ x ≤ 1 → tB x = 1) op hop hr
  rw [t_tB]
  obtain rfl : op = 1 := by omega
  have HW := hid (rwidth_any 1 (by decide) w hM)
  rw [show tW 1 = 0 from rfl] at HW
  go_enter Tryz.func162, Tryz.ntmps162
  go_wp2_with (first | (go_at_call 171; refine HW.out.mono ?_; rintro r w1 ⟨rfl, hb1⟩; have B1 := hid hb1; clear hb1) | (go_at_call 172; refine (HT.out _).mono ?_; rintro r w2 ⟨rfl, rfl⟩))
  go_ret
  exact ⟨rfl, B1.out⟩
 ·have t_tB : tB op = 2 := (by decide +kernel : ∀ x, x < 256 → 2 ≤ x ∧ x ≤ 4 → tB x = 2) op hop hr
  rw [t_tB]
  have e0 : ((op : Int) == 0) = false := by simp; omega
  have e1 : ((op : Int) == 1) = false := by simp; omega
  have e5 : ((op : Int) == 5) = false := by simp; omega
  have e11 : ((op : Int) == 11) = false := by simp; omega
  have e12 : ((op : Int) == 12) = false := by simp; omega
  have e13 : ((op : Int) == 13) = false := by simp; omega
  have e14 : ((op : Int) == 14) = false := by simp; omega
  have e15 : ((op : Int) == 15) = false := by simp; omega
  have e16 : ((op : Int) == 16) = false := by simp; omega
  have e17 : ((op : Int) == 17) = false := by simp; omega
  have e26 : ((op : Int) == 26) = false := by simp; omega
  have e27 : ((op : Int) == 27) = false := by simp; omega
  have e63 : ((op : Int) == 63) = false := by simp; omega
  have e64 : ((op : Int) == 64) = false := by simp; omega
  have e65 : ((op : Int) == 65) = false := by simp; omega
  have e66 : ((op : Int) == 66) = false := by simp; omega
  have g2e : (2 : Int) ≤ op := by omega
  have k4e : (op : Int) ≤ 4 := by omega
  have g32e : ¬ (32 : Int) ≤ op := by omega
  have k36e : (op : Int) ≤ 36 := by omega
  clear hM
  go_enter Tryz.func162, Tryz.ntmps162
  go_wp2_with (first | (go_at_call 171; refine HW.out.mono ?_; rintro r w1 ⟨rfl, hb1⟩; have B1 := hid hb1; clear hb1) | (go_at_call 172; refine (HT.out _).mono ?_; rintro r w2 ⟨rfl, rfl⟩))
  go_ret
  exact ⟨rfl, Below.refl _ _⟩
 ·have t_tB : tB op = 1 := (by decide +kernel : ∀ x, x < 256 → 5 ≤ x ∧ x ≤ 5 → tB x = 1) op hop hr
  rw [t_tB]
  obtain rfl : op = 5 := by omega
  have HW := hid (rwidth_any 5 (by decide) w hM)
  rw [show tW 5 = 0 from rfl] at HW
  go_enter Tryz.func162, Tryz.ntmps162
  go_wp2_with (first | (go_at_call 171; refine HW.out.mono ?_; rintro r w1 ⟨rfl, hb1⟩; have B1 := hid hb1; clear hb1) | (go_at_call 172; refine (HT.out _).mono ?_; rintro r w2 ⟨rfl, rfl⟩))
  go_ret
  exact ⟨rfl, B1.out⟩
 ·have t_tB : tB op = 0 := (by decide +kernel : ∀ x, x < 256 → 6 ≤ x ∧ x ≤ 10 → tB x = 0) op hop hr
  rw [t_tB]
  have e0 : ((op : Int) == 0) = false := by simp; omega
  have e1 : ((op : Int) == 1) = false := by simp; omega
  have e5 : ((op : Int) == 5) = false := by simp; omega
  have e11 : ((op : Int) == 11) = false := by simp; omega
  have e12 : ((op : Int) == 12) = false := by simp; omega
  have e13 : ((op : Int) == 13) = false := by simp; omega
  have e14 : ((op : Int) == 14) = false := by simp; omega
  have e15 : ((op : Int) == 15) = false := by simp; omega
  have e16 : ((op : Int) == 16) = false := by simp; omega
  have e17 : ((op : Int) == 17) = false := by simp; omega
  have e26 : ((op : Int) == 26) = false := by simp; omega
  have e27 : ((op : Int) == 27) = false := by simp; omega
  have e63 : ((op : Int) == 63) = false := by simp; omega
  have e64 : ((op : Int) == 64) = false := by simp; omega
  have e65 : ((op : Int) == 65) = false := by simp; omega
  have e66 : ((op : Int) == 66) = false := by simp; omega
  have g2e : (2 : Int) ≤ op := by omega
  have k4e : ¬ (op : Int) ≤ 4 := by omega
  have g32e : ¬ (32 : Int) ≤ op := by omega
  have k36e : (op : Int) ≤ 36 := by omega
  have HW := hid (rwidth_any op hop w hM)
  rw [(by decide +kernel : ∀ x, x < 256 → 6 ≤ x ∧ x ≤ 10 → tW x = 0) op hop hr] at HW
  have HT := hid (fun w2 => takes_any op hop w2)
  rw [(by decide +kernel : ∀ x, x < 256 → 6 ≤ x ∧ x ≤ 10 → tT x = 0) op hop hr, show S (tkL 0) = ⟨#[63]⟩ from rfl] at HT
  go_enter Tryz.func162, Tryz.ntmps162
  go_wp2_with (first | (go_at_call 171; refine HW.out.mono ?_; rintro r w1 ⟨rfl, hb1⟩; have B1 := hid hb1; clear hb1) | (go_at_call 172; refine (HT.out _).mono ?_; rintro r w2 ⟨rfl, rfl⟩))
  go_ret
  exact ⟨rfl, B1.out⟩
 ·have t_tB : tB op = 1 := (by decide +kernel : ∀ x, x < 256 → 11 ≤ x ∧ x ≤ 11 → tB x = 1) op hop hr
  rw [t_tB]
  obtain rfl : op = 11 := by omega
  have HW := hid (rwidth_any 11 (by decide) w hM)
  rw [show tW 11 = 0 from rfl] at HW
  go_enter Tryz.func162, Tryz.ntmps162
  go_wp2_with (first | (go_at_call 171; refine HW.out.mono ?_; rintro r w1 ⟨rfl, hb1⟩; have B1 := hid hb1; clear hb1) | (go_at_call 172; refine (HT.out _).mono ?_; rintro r w2 ⟨rfl, rfl⟩))
  go_ret
  exact ⟨rfl, B1.out⟩
 ·have t_tB : tB op = 3 := (by decide +kernel : ∀ x, x < 256 → 12 ≤ x ∧ x ≤ 12 → tB x = 3) op hop hr
  rw [t_tB]
  obtain rfl : op = 12 := by omega
  clear hM
  go_enter Tryz.func162, Tryz.ntmps162
  go_wp2_with (first | (go_at_call 171; refine HW.out.mono ?_; rintro r w1 ⟨rfl, hb1⟩; have B1 := hid hb1; clear hb1) | (go_at_call 172; refine (HT.out _).mono ?_; rintro r w2 ⟨rfl, rfl⟩))
  go_ret
  exact ⟨rfl, Below.refl _ _⟩
 ·have t_tB : tB op = 3 := (by decide +kernel : ∀ x, x < 256 → 13 ≤ x ∧ x ≤ 13 → tB x = 3) op hop hr
  rw [t_tB]
  obtain rfl : op = 13 := by omega
  clear hM
  go_enter Tryz.func162, Tryz.ntmps162
  go_wp2_with (first | (go_at_call 171; refine HW.out.mono ?_; rintro r w1 ⟨rfl, hb1⟩; have B1 := hid hb1; clear hb1) | (go_at_call 172; refine (HT.out _).mono ?_; rintro r w2 ⟨rfl, rfl⟩))
  go_ret
  exact ⟨rfl, Below.refl _ _⟩
 ·have t_tB : tB op = 4 := (by decide +kernel : ∀ x, x < 256 → 14 ≤ x ∧ x ≤ 14 → tB x = 4) op hop hr
  rw [t_tB]
  obtain rfl : op = 14 := by omega
  clear hM
  go_enter Tryz.func162, Tryz.ntmps162
  go_wp2_with (first | (go_at_call 171; refine HW.out.mono ?_; rintro r w1 ⟨rfl, hb1⟩; have B1 := hid hb1; clear hb1) | (go_at_call 172; refine (HT.out _).mono ?_; rintro r w2 ⟨rfl, rfl⟩))
  go_ret
  exact ⟨rfl, Below.refl _ _⟩
 ·have t_tB : tB op = 1 := (by decide +kernel : ∀ x, x < 256 → 15 ≤ x ∧ x ≤ 15 → tB x = 1) op hop hr
  rw [t_tB]
  obtain rfl : op = 15 := by omega
  have HW := hid (rwidth_any 15 (by decide) w hM)
  rw [show tW 15 = 0 from rfl] at HW
  go_enter Tryz.func162, Tryz.ntmps162
  go_wp2_with (first | (go_at_call 171; refine HW.out.mono ?_; rintro r w1 ⟨rfl, hb1⟩; have B1 := hid hb1; clear hb1) | (go_at_call 172; refine (HT.out _).mono ?_; rintro r w2 ⟨rfl, rfl⟩))
  go_ret
  exact ⟨rfl, B1.out⟩
 ·have t_tB : tB op = 3 := (by decide +kernel : ∀ x, x < 256 → 16 ≤ x ∧ x ≤ 16 → tB x = 3) op hop hr
  rw [t_tB]
  obtain rfl : op = 16 := by omega
  clear hM
  go_enter Tryz.func162, Tryz.ntmps162
  go_wp2_with (first | (go_at_call 171; refine HW.out.mono ?_; rintro r w1 ⟨rfl, hb1⟩; have B1 := hid hb1; clear hb1) | (go_at_call 172; refine (HT.out _).mono ?_; rintro r w2 ⟨rfl, rfl⟩))
  go_ret
  exact ⟨rfl, Below.refl _ _⟩
 ·have t_tB : tB op = 5 := (by decide +kernel : ∀ x, x < 256 → 17 ≤ x ∧ x ≤ 17 → tB x = 5) op hop hr
  rw [t_tB]
  obtain rfl : op = 17 := by omega
  clear hM
  go_enter Tryz.func162, Tryz.ntmps162
  go_wp2_with (first | (go_at_call 171; refine HW.out.mono ?_; rintro r w1 ⟨rfl, hb1⟩; have B1 := hid hb1; clear hb1) | (go_at_call 172; refine (HT.out _).mono ?_; rintro r w2 ⟨rfl, rfl⟩))
  go_ret
  exact ⟨rfl, Below.refl _ _⟩
 ·have t_tB : tB op = 0 := (by decide +kernel : ∀ x, x < 256 → 18 ≤ x ∧ x ≤ 25 → tB x = 0) op hop hr
  rw [t_tB]
  have e0 : ((op : Int) == 0) = false := by simp; omega
  have e1 : ((op : Int) == 1) = false := by simp; omega
  have e5 : ((op : Int) == 5) = false := by simp; omega
  have e11 : ((op : Int) == 11) = false := by simp; omega
  have e12 : ((op : Int) == 12) = false := by simp; omega
  have e13 : ((op : Int) == 13) = false := by simp; omega
  have e14 : ((op : Int) == 14) = false := by simp; omega
  have e15 : ((op : Int) == 15) = false := by simp; omega
  have e16 : ((op : Int) == 16) = false := by simp; omega
  have e17 : ((op : Int) == 17) = false := by simp; omega
  have e26 : ((op : Int) == 26) = false := by simp; omega
  have e27 : ((op : Int) == 27) = false := by simp; omega
  have e63 : ((op : Int) == 63) = false := by simp; omega
  have e64 : ((op : Int) == 64) = false := by simp; omega
  have e65 : ((op : Int) == 65) = false := by simp; omega
  have e66 : ((op : Int) == 66) = false := by simp; omega
  have g2e : (2 : Int) ≤ op := by omega
  have k4e : ¬ (op : Int) ≤ 4 := by omega
  have g32e : ¬ (32 : Int) ≤ op := by omega
  have k36e : (op : Int) ≤ 36 := by omega
  have HW := hid (rwidth_any op hop w hM)
  rw [(by decide +kernel : ∀ x, x < 256 → 18 ≤ x ∧ x ≤ 25 → tW x = 0) op hop hr] at HW
  have HT := hid (fun w2 => takes_any op hop w2)
  rw [(by decide +kernel : ∀ x, x < 256 → 18 ≤ x ∧ x ≤ 25 → tT x = 0) op hop hr, show S (tkL 0) = ⟨#[63]⟩ from rfl] at HT
  go_enter Tryz.func162, Tryz.ntmps162
  go_wp2_with (first | (go_at_call 171; refine HW.out.mono ?_; rintro r w1 ⟨rfl, hb1⟩; have B1 := hid hb1; clear hb1) | (go_at_call 172; refine (HT.out _).mono ?_; rintro r w2 ⟨rfl, rfl⟩))
  go_ret
  exact ⟨rfl, B1.out⟩
 ·have t_tB : tB op = 1 := (by decide +kernel : ∀ x, x < 256 → 26 ≤ x ∧ x ≤ 26 → tB x = 1) op hop hr
  rw [t_tB]
  obtain rfl : op = 26 := by omega
  have HW := hid (rwidth_any 26 (by decide) w hM)
  rw [show tW 26 = 0 from rfl] at HW
  go_enter Tryz.func162, Tryz.ntmps162
  go_wp2_with (first | (go_at_call 171; refine HW.out.mono ?_; rintro r w1 ⟨rfl, hb1⟩; have B1 := hid hb1; clear hb1) | (go_at_call 172; refine (HT.out _).mono ?_; rintro r w2 ⟨rfl, rfl⟩))
  go_ret
  exact ⟨rfl, B1.out⟩
 ·have t_tB : tB op = 1 := (by decide +kernel : ∀ x, x < 256 → 27 ≤ x ∧ x ≤ 27 → tB x = 1) op hop hr
  rw [t_tB]
  obtain rfl : op = 27 := by omega
  have HW := hid (rwidth_any 27 (by decide) w hM)
  rw [show tW 27 = 0 from rfl] at HW
  go_enter Tryz.func162, Tryz.ntmps162
  go_wp2_with (first | (go_at_call 171; refine HW.out.mono ?_; rintro r w1 ⟨rfl, hb1⟩; have B1 := hid hb1; clear hb1) | (go_at_call 172; refine (HT.out _).mono ?_; rintro r w2 ⟨rfl, rfl⟩))
  go_ret
  exact ⟨rfl, B1.out⟩
 ·have t_tB : tB op = 0 := (by decide +kernel : ∀ x, x < 256 → 28 ≤ x ∧ x ≤ 31 → tB x = 0) op hop hr
  rw [t_tB]
  have e0 : ((op : Int) == 0) = false := by simp; omega
  have e1 : ((op : Int) == 1) = false := by simp; omega
  have e5 : ((op : Int) == 5) = false := by simp; omega
  have e11 : ((op : Int) == 11) = false := by simp; omega
  have e12 : ((op : Int) == 12) = false := by simp; omega
  have e13 : ((op : Int) == 13) = false := by simp; omega
  have e14 : ((op : Int) == 14) = false := by simp; omega
  have e15 : ((op : Int) == 15) = false := by simp; omega
  have e16 : ((op : Int) == 16) = false := by simp; omega
  have e17 : ((op : Int) == 17) = false := by simp; omega
  have e26 : ((op : Int) == 26) = false := by simp; omega
  have e27 : ((op : Int) == 27) = false := by simp; omega
  have e63 : ((op : Int) == 63) = false := by simp; omega
  have e64 : ((op : Int) == 64) = false := by simp; omega
  have e65 : ((op : Int) == 65) = false := by simp; omega
  have e66 : ((op : Int) == 66) = false := by simp; omega
  have g2e : (2 : Int) ≤ op := by omega
  have k4e : ¬ (op : Int) ≤ 4 := by omega
  have g32e : ¬ (32 : Int) ≤ op := by omega
  have k36e : (op : Int) ≤ 36 := by omega
  have HW := hid (rwidth_any op hop w hM)
  rw [(by decide +kernel : ∀ x, x < 256 → 28 ≤ x ∧ x ≤ 31 → tW x = 0) op hop hr] at HW
  have HT := hid (fun w2 => takes_any op hop w2)
  rw [(by decide +kernel : ∀ x, x < 256 → 28 ≤ x ∧ x ≤ 31 → tT x = 0) op hop hr, show S (tkL 0) = ⟨#[63]⟩ from rfl] at HT
  go_enter Tryz.func162, Tryz.ntmps162
  go_wp2_with (first | (go_at_call 171; refine HW.out.mono ?_; rintro r w1 ⟨rfl, hb1⟩; have B1 := hid hb1; clear hb1) | (go_at_call 172; refine (HT.out _).mono ?_; rintro r w2 ⟨rfl, rfl⟩))
  go_ret
  exact ⟨rfl, B1.out⟩
 ·have t_tB : tB op = 3 := (by decide +kernel : ∀ x, x < 256 → 32 ≤ x ∧ x ≤ 36 → tB x = 3) op hop hr
  rw [t_tB]
  have e0 : ((op : Int) == 0) = false := by simp; omega
  have e1 : ((op : Int) == 1) = false := by simp; omega
  have e5 : ((op : Int) == 5) = false := by simp; omega
  have e11 : ((op : Int) == 11) = false := by simp; omega
  have e12 : ((op : Int) == 12) = false := by simp; omega
  have e13 : ((op : Int) == 13) = false := by simp; omega
  have e14 : ((op : Int) == 14) = false := by simp; omega
  have e15 : ((op : Int) == 15) = false := by simp; omega
  have e16 : ((op : Int) == 16) = false := by simp; omega
  have e17 : ((op : Int) == 17) = false := by simp; omega
  have e26 : ((op : Int) == 26) = false := by simp; omega
  have e27 : ((op : Int) == 27) = false := by simp; omega
  have e63 : ((op : Int) == 63) = false := by simp; omega
  have e64 : ((op : Int) == 64) = false := by simp; omega
  have e65 : ((op : Int) == 65) = false := by simp; omega
  have e66 : ((op : Int) == 66) = false := by simp; omega
  have g2e : (2 : Int) ≤ op := by omega
  have k4e : ¬ (op : Int) ≤ 4 := by omega
  have g32e : (32 : Int) ≤ op := by omega
  have k36e : (op : Int) ≤ 36 := by omega
  clear hM
  go_enter Tryz.func162, Tryz.ntmps162
  go_wp2_with (first | (go_at_call 171; refine HW.out.mono ?_; rintro r w1 ⟨rfl, hb1⟩; have B1 := hid hb1; clear hb1) | (go_at_call 172; refine (HT.out _).mono ?_; rintro r w2 ⟨rfl, rfl⟩))
  go_ret
  exact ⟨rfl, Below.refl _ _⟩
 ·have t_tB : tB op = 0 := (by decide +kernel : ∀ x, x < 256 → 37 ≤ x ∧ x ≤ 39 → tB x = 0) op hop hr
  rw [t_tB]
  have e0 : ((op : Int) == 0) = false := by simp; omega
  have e1 : ((op : Int) == 1) = false := by simp; omega
  have e5 : ((op : Int) == 5) = false := by simp; omega
  have e11 : ((op : Int) == 11) = false := by simp; omega
  have e12 : ((op : Int) == 12) = false := by simp; omega
  have e13 : ((op : Int) == 13) = false := by simp; omega
  have e14 : ((op : Int) == 14) = false := by simp; omega
  have e15 : ((op : Int) == 15) = false := by simp; omega
  have e16 : ((op : Int) == 16) = false := by simp; omega
  have e17 : ((op : Int) == 17) = false := by simp; omega
  have e26 : ((op : Int) == 26) = false := by simp; omega
  have e27 : ((op : Int) == 27) = false := by simp; omega
  have e63 : ((op : Int) == 63) = false := by simp; omega
  have e64 : ((op : Int) == 64) = false := by simp; omega
  have e65 : ((op : Int) == 65) = false := by simp; omega
  have e66 : ((op : Int) == 66) = false := by simp; omega
  have g2e : (2 : Int) ≤ op := by omega
  have k4e : ¬ (op : Int) ≤ 4 := by omega
  have g32e : (32 : Int) ≤ op := by omega
  have k36e : ¬ (op : Int) ≤ 36 := by omega
  have HW := hid (rwidth_any op hop w hM)
  rw [(by decide +kernel : ∀ x, x < 256 → 37 ≤ x ∧ x ≤ 39 → tW x = 0) op hop hr] at HW
  have HT := hid (fun w2 => takes_any op hop w2)
  rw [(by decide +kernel : ∀ x, x < 256 → 37 ≤ x ∧ x ≤ 39 → tT x = 0) op hop hr, show S (tkL 0) = ⟨#[63]⟩ from rfl] at HT
  go_enter Tryz.func162, Tryz.ntmps162
  go_wp2_with (first | (go_at_call 171; refine HW.out.mono ?_; rintro r w1 ⟨rfl, hb1⟩; have B1 := hid hb1; clear hb1) | (go_at_call 172; refine (HT.out _).mono ?_; rintro r w2 ⟨rfl, rfl⟩))
  go_ret
  exact ⟨rfl, B1.out⟩
 ·have t_tB : tB op = 6 := (by decide +kernel : ∀ x, x < 256 → 40 ≤ x ∧ x ≤ 40 → tB x = 6) op hop hr
  rw [t_tB]
  obtain rfl : op = 40 := by omega
  have HW := hid (rwidth_any 40 (by decide) w hM)
  rw [show tW 40 = 4 from rfl] at HW
  go_enter Tryz.func162, Tryz.ntmps162
  go_wp2_with (first | (go_at_call 171; refine HW.out.mono ?_; rintro r w1 ⟨rfl, hb1⟩; have B1 := hid hb1; clear hb1) | (go_at_call 172; refine (HT.out _).mono ?_; rintro r w2 ⟨rfl, rfl⟩))
  go_ret
  exact ⟨rfl, B1.out⟩
 ·have t_tB : tB op = 6 := (by decide +kernel : ∀ x, x < 256 → 41 ≤ x ∧ x ≤ 41 → tB x = 6) op hop hr
  rw [t_tB]
  obtain rfl : op = 41 := by omega
  have HW := hid (rwidth_any 41 (by decide) w hM)
  rw [show tW 41 = 8 from rfl] at HW
  go_enter Tryz.func162, Tryz.ntmps162
  go_wp2_with (first | (go_at_call 171; refine HW.out.mono ?_; rintro r w1 ⟨rfl, hb1⟩; have B1 := hid hb1; clear hb1) | (go_at_call 172; refine (HT.out _).mono ?_; rintro r w2 ⟨rfl, rfl⟩))
  go_ret
  exact ⟨rfl, B1.out⟩
 ·have t_tB : tB op = 0 := (by decide +kernel : ∀ x, x < 256 → 42 ≤ x ∧ x ≤ 43 → tB x = 0) op hop hr
  rw [t_tB]
  have e0 : ((op : Int) == 0) = false := by simp; omega
  have e1 : ((op : Int) == 1) = false := by simp; omega
  have e5 : ((op : Int) == 5) = false := by simp; omega
  have e11 : ((op : Int) == 11) = false := by simp; omega
  have e12 : ((op : Int) == 12) = false := by simp; omega
  have e13 : ((op : Int) == 13) = false := by simp; omega
  have e14 : ((op : Int) == 14) = false := by simp; omega
  have e15 : ((op : Int) == 15) = false := by simp; omega
  have e16 : ((op : Int) == 16) = false := by simp; omega
  have e17 : ((op : Int) == 17) = false := by simp; omega
  have e26 : ((op : Int) == 26) = false := by simp; omega
  have e27 : ((op : Int) == 27) = false := by simp; omega
  have e63 : ((op : Int) == 63) = false := by simp; omega
  have e64 : ((op : Int) == 64) = false := by simp; omega
  have e65 : ((op : Int) == 65) = false := by simp; omega
  have e66 : ((op : Int) == 66) = false := by simp; omega
  have g2e : (2 : Int) ≤ op := by omega
  have k4e : ¬ (op : Int) ≤ 4 := by omega
  have g32e : (32 : Int) ≤ op := by omega
  have k36e : ¬ (op : Int) ≤ 36 := by omega
  have HW := hid (rwidth_any op hop w hM)
  rw [(by decide +kernel : ∀ x, x < 256 → 42 ≤ x ∧ x ≤ 43 → tW x = 0) op hop hr] at HW
  have HT := hid (fun w2 => takes_any op hop w2)
  rw [(by decide +kernel : ∀ x, x < 256 → 42 ≤ x ∧ x ≤ 43 → tT x = 0) op hop hr, show S (tkL 0) = ⟨#[63]⟩ from rfl] at HT
  go_enter Tryz.func162, Tryz.ntmps162
  go_wp2_with (first | (go_at_call 171; refine HW.out.mono ?_; rintro r w1 ⟨rfl, hb1⟩; have B1 := hid hb1; clear hb1) | (go_at_call 172; refine (HT.out _).mono ?_; rintro r w2 ⟨rfl, rfl⟩))
  go_ret
  exact ⟨rfl, B1.out⟩
 ·have t_tB : tB op = 6 := (by decide +kernel : ∀ x, x < 256 → 44 ≤ x ∧ x ≤ 47 → tB x = 6) op hop hr
  rw [t_tB]
  have e0 : ((op : Int) == 0) = false := by simp; omega
  have e1 : ((op : Int) == 1) = false := by simp; omega
  have e5 : ((op : Int) == 5) = false := by simp; omega
  have e11 : ((op : Int) == 11) = false := by simp; omega
  have e12 : ((op : Int) == 12) = false := by simp; omega
  have e13 : ((op : Int) == 13) = false := by simp; omega
  have e14 : ((op : Int) == 14) = false := by simp; omega
  have e15 : ((op : Int) == 15) = false := by simp; omega
  have e16 : ((op : Int) == 16) = false := by simp; omega
  have e17 : ((op : Int) == 17) = false := by simp; omega
  have e26 : ((op : Int) == 26) = false := by simp; omega
  have e27 : ((op : Int) == 27) = false := by simp; omega
  have e63 : ((op : Int) == 63) = false := by simp; omega
  have e64 : ((op : Int) == 64) = false := by simp; omega
  have e65 : ((op : Int) == 65) = false := by simp; omega
  have e66 : ((op : Int) == 66) = false := by simp; omega
  have g2e : (2 : Int) ≤ op := by omega
  have k4e : ¬ (op : Int) ≤ 4 := by omega
  have g32e : (32 : Int) ≤ op := by omega
  have k36e : ¬ (op : Int) ≤ 36 := by omega
  have HW := hid (rwidth_any op hop w hM)
  have hp : 0 < tW op := (by decide +kernel : ∀ x, x < 256 → 44 ≤ x ∧ x ≤ 47 → 0 < tW x) op hop hr
  have hp2 : (0 : Int) < (tW op : Nat) := by omega
  generalize tW op = W at *
  go_enter Tryz.func162, Tryz.ntmps162
  go_wp2_with (first | (go_at_call 171; refine HW.out.mono ?_; rintro r w1 ⟨rfl, hb1⟩; have B1 := hid hb1; clear hb1) | (go_at_call 172; refine (HT.out _).mono ?_; rintro r w2 ⟨rfl, rfl⟩))
  go_ret
  exact ⟨rfl, B1.out⟩
 ·have t_tB : tB op = 6 := (by decide +kernel : ∀ x, x < 256 → 48 ≤ x ∧ x ≤ 53 → tB x = 6) op hop hr
  rw [t_tB]
  have e0 : ((op : Int) == 0) = false := by simp; omega
  have e1 : ((op : Int) == 1) = false := by simp; omega
  have e5 : ((op : Int) == 5) = false := by simp; omega
  have e11 : ((op : Int) == 11) = false := by simp; omega
  have e12 : ((op : Int) == 12) = false := by simp; omega
  have e13 : ((op : Int) == 13) = false := by simp; omega
  have e14 : ((op : Int) == 14) = false := by simp; omega
  have e15 : ((op : Int) == 15) = false := by simp; omega
  have e16 : ((op : Int) == 16) = false := by simp; omega
  have e17 : ((op : Int) == 17) = false := by simp; omega
  have e26 : ((op : Int) == 26) = false := by simp; omega
  have e27 : ((op : Int) == 27) = false := by simp; omega
  have e63 : ((op : Int) == 63) = false := by simp; omega
  have e64 : ((op : Int) == 64) = false := by simp; omega
  have e65 : ((op : Int) == 65) = false := by simp; omega
  have e66 : ((op : Int) == 66) = false := by simp; omega
  have g2e : (2 : Int) ≤ op := by omega
  have k4e : ¬ (op : Int) ≤ 4 := by omega
  have g32e : (32 : Int) ≤ op := by omega
  have k36e : ¬ (op : Int) ≤ 36 := by omega
  have HW := hid (rwidth_any op hop w hM)
  have hp : 0 < tW op := (by decide +kernel : ∀ x, x < 256 → 48 ≤ x ∧ x ≤ 53 → 0 < tW x) op hop hr
  have hp2 : (0 : Int) < (tW op : Nat) := by omega
  generalize tW op = W at *
  go_enter Tryz.func162, Tryz.ntmps162
  go_wp2_with (first | (go_at_call 171; refine HW.out.mono ?_; rintro r w1 ⟨rfl, hb1⟩; have B1 := hid hb1; clear hb1) | (go_at_call 172; refine (HT.out _).mono ?_; rintro r w2 ⟨rfl, rfl⟩))
  go_ret
  exact ⟨rfl, B1.out⟩
 ·have t_tB : tB op = 6 := (by decide +kernel : ∀ x, x < 256 → 54 ≤ x ∧ x ≤ 54 → tB x = 6) op hop hr
  rw [t_tB]
  obtain rfl : op = 54 := by omega
  have HW := hid (rwidth_any 54 (by decide) w hM)
  rw [show tW 54 = 4 from rfl] at HW
  go_enter Tryz.func162, Tryz.ntmps162
  go_wp2_with (first | (go_at_call 171; refine HW.out.mono ?_; rintro r w1 ⟨rfl, hb1⟩; have B1 := hid hb1; clear hb1) | (go_at_call 172; refine (HT.out _).mono ?_; rintro r w2 ⟨rfl, rfl⟩))
  go_ret
  exact ⟨rfl, B1.out⟩
 ·have t_tB : tB op = 6 := (by decide +kernel : ∀ x, x < 256 → 55 ≤ x ∧ x ≤ 55 → tB x = 6) op hop hr
  rw [t_tB]
  obtain rfl : op = 55 := by omega
  have HW := hid (rwidth_any 55 (by decide) w hM)
  rw [show tW 55 = 8 from rfl] at HW
  go_enter Tryz.func162, Tryz.ntmps162
  go_wp2_with (first | (go_at_call 171; refine HW.out.mono ?_; rintro r w1 ⟨rfl, hb1⟩; have B1 := hid hb1; clear hb1) | (go_at_call 172; refine (HT.out _).mono ?_; rintro r w2 ⟨rfl, rfl⟩))
  go_ret
  exact ⟨rfl, B1.out⟩
 ·have t_tB : tB op = 0 := (by decide +kernel : ∀ x, x < 256 → 56 ≤ x ∧ x ≤ 57 → tB x = 0) op hop hr
  rw [t_tB]
  have e0 : ((op : Int) == 0) = false := by simp; omega
  have e1 : ((op : Int) == 1) = false := by simp; omega
  have e5 : ((op : Int) == 5) = false := by simp; omega
  have e11 : ((op : Int) == 11) = false := by simp; omega
  have e12 : ((op : Int) == 12) = false := by simp; omega
  have e13 : ((op : Int) == 13) = false := by simp; omega
  have e14 : ((op : Int) == 14) = false := by simp; omega
  have e15 : ((op : Int) == 15) = false := by simp; omega
  have e16 : ((op : Int) == 16) = false := by simp; omega
  have e17 : ((op : Int) == 17) = false := by simp; omega
  have e26 : ((op : Int) == 26) = false := by simp; omega
  have e27 : ((op : Int) == 27) = false := by simp; omega
  have e63 : ((op : Int) == 63) = false := by simp; omega
  have e64 : ((op : Int) == 64) = false := by simp; omega
  have e65 : ((op : Int) == 65) = false := by simp; omega
  have e66 : ((op : Int) == 66) = false := by simp; omega
  have g2e : (2 : Int) ≤ op := by omega
  have k4e : ¬ (op : Int) ≤ 4 := by omega
  have g32e : (32 : Int) ≤ op := by omega
  have k36e : ¬ (op : Int) ≤ 36 := by omega
  have HW := hid (rwidth_any op hop w hM)
  rw [(by decide +kernel : ∀ x, x < 256 → 56 ≤ x ∧ x ≤ 57 → tW x = 0) op hop hr] at HW
  have HT := hid (fun w2 => takes_any op hop w2)
  rw [(by decide +kernel : ∀ x, x < 256 → 56 ≤ x ∧ x ≤ 57 → tT x = 0) op hop hr, show S (tkL 0) = ⟨#[63]⟩ from rfl] at HT
  go_enter Tryz.func162, Tryz.ntmps162
  go_wp2_with (first | (go_at_call 171; refine HW.out.mono ?_; rintro r w1 ⟨rfl, hb1⟩; have B1 := hid hb1; clear hb1) | (go_at_call 172; refine (HT.out _).mono ?_; rintro r w2 ⟨rfl, rfl⟩))
  go_ret
  exact ⟨rfl, B1.out⟩
 ·have t_tB : tB op = 6 := (by decide +kernel : ∀ x, x < 256 → 58 ≤ x ∧ x ≤ 59 → tB x = 6) op hop hr
  rw [t_tB]
  have e0 : ((op : Int) == 0) = false := by simp; omega
  have e1 : ((op : Int) == 1) = false := by simp; omega
  have e5 : ((op : Int) == 5) = false := by simp; omega
  have e11 : ((op : Int) == 11) = false := by simp; omega
  have e12 : ((op : Int) == 12) = false := by simp; omega
  have e13 : ((op : Int) == 13) = false := by simp; omega
  have e14 : ((op : Int) == 14) = false := by simp; omega
  have e15 : ((op : Int) == 15) = false := by simp; omega
  have e16 : ((op : Int) == 16) = false := by simp; omega
  have e17 : ((op : Int) == 17) = false := by simp; omega
  have e26 : ((op : Int) == 26) = false := by simp; omega
  have e27 : ((op : Int) == 27) = false := by simp; omega
  have e63 : ((op : Int) == 63) = false := by simp; omega
  have e64 : ((op : Int) == 64) = false := by simp; omega
  have e65 : ((op : Int) == 65) = false := by simp; omega
  have e66 : ((op : Int) == 66) = false := by simp; omega
  have g2e : (2 : Int) ≤ op := by omega
  have k4e : ¬ (op : Int) ≤ 4 := by omega
  have g32e : (32 : Int) ≤ op := by omega
  have k36e : ¬ (op : Int) ≤ 36 := by omega
  have HW := hid (rwidth_any op hop w hM)
  have hp : 0 < tW op := (by decide +kernel : ∀ x, x < 256 → 58 ≤ x ∧ x ≤ 59 → 0 < tW x) op hop hr
  have hp2 : (0 : Int) < (tW op : Nat) := by omega
  generalize tW op = W at *
  go_enter Tryz.func162, Tryz.ntmps162
  go_wp2_with (first | (go_at_call 171; refine HW.out.mono ?_; rintro r w1 ⟨rfl, hb1⟩; have B1 := hid hb1; clear hb1) | (go_at_call 172; refine (HT.out _).mono ?_; rintro r w2 ⟨rfl, rfl⟩))
  go_ret
  exact ⟨rfl, B1.out⟩
 ·have t_tB : tB op = 6 := (by decide +kernel : ∀ x, x < 256 → 60 ≤ x ∧ x ≤ 62 → tB x = 6) op hop hr
  rw [t_tB]
  have e0 : ((op : Int) == 0) = false := by simp; omega
  have e1 : ((op : Int) == 1) = false := by simp; omega
  have e5 : ((op : Int) == 5) = false := by simp; omega
  have e11 : ((op : Int) == 11) = false := by simp; omega
  have e12 : ((op : Int) == 12) = false := by simp; omega
  have e13 : ((op : Int) == 13) = false := by simp; omega
  have e14 : ((op : Int) == 14) = false := by simp; omega
  have e15 : ((op : Int) == 15) = false := by simp; omega
  have e16 : ((op : Int) == 16) = false := by simp; omega
  have e17 : ((op : Int) == 17) = false := by simp; omega
  have e26 : ((op : Int) == 26) = false := by simp; omega
  have e27 : ((op : Int) == 27) = false := by simp; omega
  have e63 : ((op : Int) == 63) = false := by simp; omega
  have e64 : ((op : Int) == 64) = false := by simp; omega
  have e65 : ((op : Int) == 65) = false := by simp; omega
  have e66 : ((op : Int) == 66) = false := by simp; omega
  have g2e : (2 : Int) ≤ op := by omega
  have k4e : ¬ (op : Int) ≤ 4 := by omega
  have g32e : (32 : Int) ≤ op := by omega
  have k36e : ¬ (op : Int) ≤ 36 := by omega
  have HW := hid (rwidth_any op hop w hM)
  have hp : 0 < tW op := (by decide +kernel : ∀ x, x < 256 → 60 ≤ x ∧ x ≤ 62 → 0 < tW x) op hop hr
  have hp2 : (0 : Int) < (tW op : Nat) := by omega
  generalize tW op = W at *
  go_enter Tryz.func162, Tryz.ntmps162
  go_wp2_with (first | (go_at_call 171; refine HW.out.mono ?_; rintro r w1 ⟨rfl, hb1⟩; have B1 := hid hb1; clear hb1) | (go_at_call 172; refine (HT.out _).mono ?_; rintro r w2 ⟨rfl, rfl⟩))
  go_ret
  exact ⟨rfl, B1.out⟩
 ·have t_tB : tB op = 7 := (by decide +kernel : ∀ x, x < 256 → 63 ≤ x ∧ x ≤ 63 → tB x = 7) op hop hr
  rw [t_tB]
  obtain rfl : op = 63 := by omega
  have HW := hid (rwidth_any 63 (by decide) w hM)
  rw [show tW 63 = 0 from rfl] at HW
  go_enter Tryz.func162, Tryz.ntmps162
  go_wp2_with (first | (go_at_call 171; refine HW.out.mono ?_; rintro r w1 ⟨rfl, hb1⟩; have B1 := hid hb1; clear hb1) | (go_at_call 172; refine (HT.out _).mono ?_; rintro r w2 ⟨rfl, rfl⟩))
  go_ret
  exact ⟨rfl, B1.out⟩
 ·have t_tB : tB op = 7 := (by decide +kernel : ∀ x, x < 256 → 64 ≤ x ∧ x ≤ 64 → tB x = 7) op hop hr
  rw [t_tB]
  obtain rfl : op = 64 := by omega
  have HW := hid (rwidth_any 64 (by decide) w hM)
  rw [show tW 64 = 0 from rfl] at HW
  go_enter Tryz.func162, Tryz.ntmps162
  go_wp2_with (first | (go_at_call 171; refine HW.out.mono ?_; rintro r w1 ⟨rfl, hb1⟩; have B1 := hid hb1; clear hb1) | (go_at_call 172; refine (HT.out _).mono ?_; rintro r w2 ⟨rfl, rfl⟩))
  go_ret
  exact ⟨rfl, B1.out⟩
 ·have t_tB : tB op = 8 := (by decide +kernel : ∀ x, x < 256 → 65 ≤ x ∧ x ≤ 65 → tB x = 8) op hop hr
  rw [t_tB]
  obtain rfl : op = 65 := by omega
  have HW := hid (rwidth_any 65 (by decide) w hM)
  rw [show tW 65 = 0 from rfl] at HW
  go_enter Tryz.func162, Tryz.ntmps162
  go_wp2_with (first | (go_at_call 171; refine HW.out.mono ?_; rintro r w1 ⟨rfl, hb1⟩; have B1 := hid hb1; clear hb1) | (go_at_call 172; refine (HT.out _).mono ?_; rintro r w2 ⟨rfl, rfl⟩))
  go_ret
  exact ⟨rfl, B1.out⟩
 ·have t_tB : tB op = 9 := (by decide +kernel : ∀ x, x < 256 → 66 ≤ x ∧ x ≤ 66 → tB x = 9) op hop hr
  rw [t_tB]
  obtain rfl : op = 66 := by omega
  have HW := hid (rwidth_any 66 (by decide) w hM)
  rw [show tW 66 = 0 from rfl] at HW
  go_enter Tryz.func162, Tryz.ntmps162
  go_wp2_with (first | (go_at_call 171; refine HW.out.mono ?_; rintro r w1 ⟨rfl, hb1⟩; have B1 := hid hb1; clear hb1) | (go_at_call 172; refine (HT.out _).mono ?_; rintro r w2 ⟨rfl, rfl⟩))
  go_ret
  exact ⟨rfl, B1.out⟩
 ·have t_tB : tB op = 0 := (by decide +kernel : ∀ x, x < 256 → 67 ≤ x ∧ x ≤ 68 → tB x = 0) op hop hr
  rw [t_tB]
  have e0 : ((op : Int) == 0) = false := by simp; omega
  have e1 : ((op : Int) == 1) = false := by simp; omega
  have e5 : ((op : Int) == 5) = false := by simp; omega
  have e11 : ((op : Int) == 11) = false := by simp; omega
  have e12 : ((op : Int) == 12) = false := by simp; omega
  have e13 : ((op : Int) == 13) = false := by simp; omega
  have e14 : ((op : Int) == 14) = false := by simp; omega
  have e15 : ((op : Int) == 15) = false := by simp; omega
  have e16 : ((op : Int) == 16) = false := by simp; omega
  have e17 : ((op : Int) == 17) = false := by simp; omega
  have e26 : ((op : Int) == 26) = false := by simp; omega
  have e27 : ((op : Int) == 27) = false := by simp; omega
  have e63 : ((op : Int) == 63) = false := by simp; omega
  have e64 : ((op : Int) == 64) = false := by simp; omega
  have e65 : ((op : Int) == 65) = false := by simp; omega
  have e66 : ((op : Int) == 66) = false := by simp; omega
  have g2e : (2 : Int) ≤ op := by omega
  have k4e : ¬ (op : Int) ≤ 4 := by omega
  have g32e : (32 : Int) ≤ op := by omega
  have k36e : ¬ (op : Int) ≤ 36 := by omega
  have HW := hid (rwidth_any op hop w hM)
  rw [(by decide +kernel : ∀ x, x < 256 → 67 ≤ x ∧ x ≤ 68 → tW x = 0) op hop hr] at HW
  have HT := hid (fun w2 => takes_any op hop w2)
  rw [(by decide +kernel : ∀ x, x < 256 → 67 ≤ x ∧ x ≤ 68 → tT x = 0) op hop hr, show S (tkL 0) = ⟨#[63]⟩ from rfl] at HT
  go_enter Tryz.func162, Tryz.ntmps162
  go_wp2_with (first | (go_at_call 171; refine HW.out.mono ?_; rintro r w1 ⟨rfl, hb1⟩; have B1 := hid hb1; clear hb1) | (go_at_call 172; refine (HT.out _).mono ?_; rintro r w2 ⟨rfl, rfl⟩))
  go_ret
  exact ⟨rfl, B1.out⟩
 ·have t_tB : tB op = 1 := (by decide +kernel : ∀ x, x < 256 → 69 ≤ x ∧ x ≤ 69 → tB x = 1) op hop hr
  rw [t_tB]
  obtain rfl : op = 69 := by omega
  have HW := hid (rwidth_any 69 (by decide) w hM)
  rw [show tW 69 = 0 from rfl] at HW
  have HT := hid (fun w2 => takes_any 69 (by decide) w2)
  rw [show tT 69 = 1 from rfl, show S (tkL 1) = ⟨#[105, 62, 105]⟩ from rfl] at HT
  go_enter Tryz.func162, Tryz.ntmps162
  go_wp2_with (first | (go_at_call 171; refine HW.out.mono ?_; rintro r w1 ⟨rfl, hb1⟩; have B1 := hid hb1; clear hb1) | (go_at_call 172; refine (HT.out _).mono ?_; rintro r w2 ⟨rfl, rfl⟩))
  go_ret
  exact ⟨rfl, B1.out⟩
 ·have t_tB : tB op = 1 := (by decide +kernel : ∀ x, x < 256 → 70 ≤ x ∧ x ≤ 79 → tB x = 1) op hop hr
  rw [t_tB]
  have e0 : ((op : Int) == 0) = false := by simp; omega
  have e1 : ((op : Int) == 1) = false := by simp; omega
  have e5 : ((op : Int) == 5) = false := by simp; omega
  have e11 : ((op : Int) == 11) = false := by simp; omega
  have e12 : ((op : Int) == 12) = false := by simp; omega
  have e13 : ((op : Int) == 13) = false := by simp; omega
  have e14 : ((op : Int) == 14) = false := by simp; omega
  have e15 : ((op : Int) == 15) = false := by simp; omega
  have e16 : ((op : Int) == 16) = false := by simp; omega
  have e17 : ((op : Int) == 17) = false := by simp; omega
  have e26 : ((op : Int) == 26) = false := by simp; omega
  have e27 : ((op : Int) == 27) = false := by simp; omega
  have e63 : ((op : Int) == 63) = false := by simp; omega
  have e64 : ((op : Int) == 64) = false := by simp; omega
  have e65 : ((op : Int) == 65) = false := by simp; omega
  have e66 : ((op : Int) == 66) = false := by simp; omega
  have g2e : (2 : Int) ≤ op := by omega
  have k4e : ¬ (op : Int) ≤ 4 := by omega
  have g32e : (32 : Int) ≤ op := by omega
  have k36e : ¬ (op : Int) ≤ 36 := by omega
  have HW := hid (rwidth_any op hop w hM)
  rw [(by decide +kernel : ∀ x, x < 256 → 70 ≤ x ∧ x ≤ 79 → tW x = 0) op hop hr] at HW
  have HT := hid (fun w2 => takes_any op hop w2)
  rw [(by decide +kernel : ∀ x, x < 256 → 70 ≤ x ∧ x ≤ 79 → tT x = 3) op hop hr, show S (tkL 3) = ⟨#[105, 105, 62, 105]⟩ from rfl] at HT
  go_enter Tryz.func162, Tryz.ntmps162
  go_wp2_with (first | (go_at_call 171; refine HW.out.mono ?_; rintro r w1 ⟨rfl, hb1⟩; have B1 := hid hb1; clear hb1) | (go_at_call 172; refine (HT.out _).mono ?_; rintro r w2 ⟨rfl, rfl⟩))
  go_ret
  exact ⟨rfl, B1.out⟩
 ·have t_tB : tB op = 1 := (by decide +kernel : ∀ x, x < 256 → 80 ≤ x ∧ x ≤ 80 → tB x = 1) op hop hr
  rw [t_tB]
  obtain rfl : op = 80 := by omega
  have HW := hid (rwidth_any 80 (by decide) w hM)
  rw [show tW 80 = 0 from rfl] at HW
  have HT := hid (fun w2 => takes_any 80 (by decide) w2)
  rw [show tT 80 = 2 from rfl, show S (tkL 2) = ⟨#[108, 62, 105]⟩ from rfl] at HT
  go_enter Tryz.func162, Tryz.ntmps162
  go_wp2_with (first | (go_at_call 171; refine HW.out.mono ?_; rintro r w1 ⟨rfl, hb1⟩; have B1 := hid hb1; clear hb1) | (go_at_call 172; refine (HT.out _).mono ?_; rintro r w2 ⟨rfl, rfl⟩))
  go_ret
  exact ⟨rfl, B1.out⟩
 ·have t_tB : tB op = 1 := (by decide +kernel : ∀ x, x < 256 → 81 ≤ x ∧ x ≤ 90 → tB x = 1) op hop hr
  rw [t_tB]
  have e0 : ((op : Int) == 0) = false := by simp; omega
  have e1 : ((op : Int) == 1) = false := by simp; omega
  have e5 : ((op : Int) == 5) = false := by simp; omega
  have e11 : ((op : Int) == 11) = false := by simp; omega
  have e12 : ((op : Int) == 12) = false := by simp; omega
  have e13 : ((op : Int) == 13) = false := by simp; omega
  have e14 : ((op : Int) == 14) = false := by simp; omega
  have e15 : ((op : Int) == 15) = false := by simp; omega
  have e16 : ((op : Int) == 16) = false := by simp; omega
  have e17 : ((op : Int) == 17) = false := by simp; omega
  have e26 : ((op : Int) == 26) = false := by simp; omega
  have e27 : ((op : Int) == 27) = false := by simp; omega
  have e63 : ((op : Int) == 63) = false := by simp; omega
  have e64 : ((op : Int) == 64) = false := by simp; omega
  have e65 : ((op : Int) == 65) = false := by simp; omega
  have e66 : ((op : Int) == 66) = false := by simp; omega
  have g2e : (2 : Int) ≤ op := by omega
  have k4e : ¬ (op : Int) ≤ 4 := by omega
  have g32e : (32 : Int) ≤ op := by omega
  have k36e : ¬ (op : Int) ≤ 36 := by omega
  have HW := hid (rwidth_any op hop w hM)
  rw [(by decide +kernel : ∀ x, x < 256 → 81 ≤ x ∧ x ≤ 90 → tW x = 0) op hop hr] at HW
  have HT := hid (fun w2 => takes_any op hop w2)
  rw [(by decide +kernel : ∀ x, x < 256 → 81 ≤ x ∧ x ≤ 90 → tT x = 4) op hop hr, show S (tkL 4) = ⟨#[108, 108, 62, 105]⟩ from rfl] at HT
  go_enter Tryz.func162, Tryz.ntmps162
  go_wp2_with (first | (go_at_call 171; refine HW.out.mono ?_; rintro r w1 ⟨rfl, hb1⟩; have B1 := hid hb1; clear hb1) | (go_at_call 172; refine (HT.out _).mono ?_; rintro r w2 ⟨rfl, rfl⟩))
  go_ret
  exact ⟨rfl, B1.out⟩
 ·have t_tB : tB op = 0 := (by decide +kernel : ∀ x, x < 256 → 91 ≤ x ∧ x ≤ 102 → tB x = 0) op hop hr
  rw [t_tB]
  have e0 : ((op : Int) == 0) = false := by simp; omega
  have e1 : ((op : Int) == 1) = false := by simp; omega
  have e5 : ((op : Int) == 5) = false := by simp; omega
  have e11 : ((op : Int) == 11) = false := by simp; omega
  have e12 : ((op : Int) == 12) = false := by simp; omega
  have e13 : ((op : Int) == 13) = false := by simp; omega
  have e14 : ((op : Int) == 14) = false := by simp; omega
  have e15 : ((op : Int) == 15) = false := by simp; omega
  have e16 : ((op : Int) == 16) = false := by simp; omega
  have e17 : ((op : Int) == 17) = false := by simp; omega
  have e26 : ((op : Int) == 26) = false := by simp; omega
  have e27 : ((op : Int) == 27) = false := by simp; omega
  have e63 : ((op : Int) == 63) = false := by simp; omega
  have e64 : ((op : Int) == 64) = false := by simp; omega
  have e65 : ((op : Int) == 65) = false := by simp; omega
  have e66 : ((op : Int) == 66) = false := by simp; omega
  have g2e : (2 : Int) ≤ op := by omega
  have k4e : ¬ (op : Int) ≤ 4 := by omega
  have g32e : (32 : Int) ≤ op := by omega
  have k36e : ¬ (op : Int) ≤ 36 := by omega
  have HW := hid (rwidth_any op hop w hM)
  rw [(by decide +kernel : ∀ x, x < 256 → 91 ≤ x ∧ x ≤ 102 → tW x = 0) op hop hr] at HW
  have HT := hid (fun w2 => takes_any op hop w2)
  rw [(by decide +kernel : ∀ x, x < 256 → 91 ≤ x ∧ x ≤ 102 → tT x = 0) op hop hr, show S (tkL 0) = ⟨#[63]⟩ from rfl] at HT
  go_enter Tryz.func162, Tryz.ntmps162
  go_wp2_with (first | (go_at_call 171; refine HW.out.mono ?_; rintro r w1 ⟨rfl, hb1⟩; have B1 := hid hb1; clear hb1) | (go_at_call 172; refine (HT.out _).mono ?_; rintro r w2 ⟨rfl, rfl⟩))
  go_ret
  exact ⟨rfl, B1.out⟩
 ·have t_tB : tB op = 1 := (by decide +kernel : ∀ x, x < 256 → 103 ≤ x ∧ x ≤ 105 → tB x = 1) op hop hr
  rw [t_tB]
  have e0 : ((op : Int) == 0) = false := by simp; omega
  have e1 : ((op : Int) == 1) = false := by simp; omega
  have e5 : ((op : Int) == 5) = false := by simp; omega
  have e11 : ((op : Int) == 11) = false := by simp; omega
  have e12 : ((op : Int) == 12) = false := by simp; omega
  have e13 : ((op : Int) == 13) = false := by simp; omega
  have e14 : ((op : Int) == 14) = false := by simp; omega
  have e15 : ((op : Int) == 15) = false := by simp; omega
  have e16 : ((op : Int) == 16) = false := by simp; omega
  have e17 : ((op : Int) == 17) = false := by simp; omega
  have e26 : ((op : Int) == 26) = false := by simp; omega
  have e27 : ((op : Int) == 27) = false := by simp; omega
  have e63 : ((op : Int) == 63) = false := by simp; omega
  have e64 : ((op : Int) == 64) = false := by simp; omega
  have e65 : ((op : Int) == 65) = false := by simp; omega
  have e66 : ((op : Int) == 66) = false := by simp; omega
  have g2e : (2 : Int) ≤ op := by omega
  have k4e : ¬ (op : Int) ≤ 4 := by omega
  have g32e : (32 : Int) ≤ op := by omega
  have k36e : ¬ (op : Int) ≤ 36 := by omega
  have HW := hid (rwidth_any op hop w hM)
  rw [(by decide +kernel : ∀ x, x < 256 → 103 ≤ x ∧ x ≤ 105 → tW x = 0) op hop hr] at HW
  have HT := hid (fun w2 => takes_any op hop w2)
  rw [(by decide +kernel : ∀ x, x < 256 → 103 ≤ x ∧ x ≤ 105 → tT x = 1) op hop hr, show S (tkL 1) = ⟨#[105, 62, 105]⟩ from rfl] at HT
  go_enter Tryz.func162, Tryz.ntmps162
  go_wp2_with (first | (go_at_call 171; refine HW.out.mono ?_; rintro r w1 ⟨rfl, hb1⟩; have B1 := hid hb1; clear hb1) | (go_at_call 172; refine (HT.out _).mono ?_; rintro r w2 ⟨rfl, rfl⟩))
  go_ret
  exact ⟨rfl, B1.out⟩
 ·have t_tB : tB op = 1 := (by decide +kernel : ∀ x, x < 256 → 106 ≤ x ∧ x ≤ 120 → tB x = 1) op hop hr
  rw [t_tB]
  have e0 : ((op : Int) == 0) = false := by simp; omega
  have e1 : ((op : Int) == 1) = false := by simp; omega
  have e5 : ((op : Int) == 5) = false := by simp; omega
  have e11 : ((op : Int) == 11) = false := by simp; omega
  have e12 : ((op : Int) == 12) = false := by simp; omega
  have e13 : ((op : Int) == 13) = false := by simp; omega
  have e14 : ((op : Int) == 14) = false := by simp; omega
  have e15 : ((op : Int) == 15) = false := by simp; omega
  have e16 : ((op : Int) == 16) = false := by simp; omega
  have e17 : ((op : Int) == 17) = false := by simp; omega
  have e26 : ((op : Int) == 26) = false := by simp; omega
  have e27 : ((op : Int) == 27) = false := by simp; omega
  have e63 : ((op : Int) == 63) = false := by simp; omega
  have e64 : ((op : Int) == 64) = false := by simp; omega
  have e65 : ((op : Int) == 65) = false := by simp; omega
  have e66 : ((op : Int) == 66) = false := by simp; omega
  have g2e : (2 : Int) ≤ op := by omega
  have k4e : ¬ (op : Int) ≤ 4 := by omega
  have g32e : (32 : Int) ≤ op := by omega
  have k36e : ¬ (op : Int) ≤ 36 := by omega
  have HW := hid (rwidth_any op hop w hM)
  rw [(by decide +kernel : ∀ x, x < 256 → 106 ≤ x ∧ x ≤ 120 → tW x = 0) op hop hr] at HW
  have HT := hid (fun w2 => takes_any op hop w2)
  rw [(by decide +kernel : ∀ x, x < 256 → 106 ≤ x ∧ x ≤ 120 → tT x = 3) op hop hr, show S (tkL 3) = ⟨#[105, 105, 62, 105]⟩ from rfl] at HT
  go_enter Tryz.func162, Tryz.ntmps162
  go_wp2_with (first | (go_at_call 171; refine HW.out.mono ?_; rintro r w1 ⟨rfl, hb1⟩; have B1 := hid hb1; clear hb1) | (go_at_call 172; refine (HT.out _).mono ?_; rintro r w2 ⟨rfl, rfl⟩))
  go_ret
  exact ⟨rfl, B1.out⟩
 ·have t_tB : tB op = 1 := (by decide +kernel : ∀ x, x < 256 → 121 ≤ x ∧ x ≤ 123 → tB x = 1) op hop hr
  rw [t_tB]
  have e0 : ((op : Int) == 0) = false := by simp; omega
  have e1 : ((op : Int) == 1) = false := by simp; omega
  have e5 : ((op : Int) == 5) = false := by simp; omega
  have e11 : ((op : Int) == 11) = false := by simp; omega
  have e12 : ((op : Int) == 12) = false := by simp; omega
  have e13 : ((op : Int) == 13) = false := by simp; omega
  have e14 : ((op : Int) == 14) = false := by simp; omega
  have e15 : ((op : Int) == 15) = false := by simp; omega
  have e16 : ((op : Int) == 16) = false := by simp; omega
  have e17 : ((op : Int) == 17) = false := by simp; omega
  have e26 : ((op : Int) == 26) = false := by simp; omega
  have e27 : ((op : Int) == 27) = false := by simp; omega
  have e63 : ((op : Int) == 63) = false := by simp; omega
  have e64 : ((op : Int) == 64) = false := by simp; omega
  have e65 : ((op : Int) == 65) = false := by simp; omega
  have e66 : ((op : Int) == 66) = false := by simp; omega
  have g2e : (2 : Int) ≤ op := by omega
  have k4e : ¬ (op : Int) ≤ 4 := by omega
  have g32e : (32 : Int) ≤ op := by omega
  have k36e : ¬ (op : Int) ≤ 36 := by omega
  have HW := hid (rwidth_any op hop w hM)
  rw [(by decide +kernel : ∀ x, x < 256 → 121 ≤ x ∧ x ≤ 123 → tW x = 0) op hop hr] at HW
  have HT := hid (fun w2 => takes_any op hop w2)
  rw [(by decide +kernel : ∀ x, x < 256 → 121 ≤ x ∧ x ≤ 123 → tT x = 5) op hop hr, show S (tkL 5) = ⟨#[108, 62, 108]⟩ from rfl] at HT
  go_enter Tryz.func162, Tryz.ntmps162
  go_wp2_with (first | (go_at_call 171; refine HW.out.mono ?_; rintro r w1 ⟨rfl, hb1⟩; have B1 := hid hb1; clear hb1) | (go_at_call 172; refine (HT.out _).mono ?_; rintro r w2 ⟨rfl, rfl⟩))
  go_ret
  exact ⟨rfl, B1.out⟩
 ·have t_tB : tB op = 1 := (by decide +kernel : ∀ x, x < 256 → 124 ≤ x ∧ x ≤ 138 → tB x = 1) op hop hr
  rw [t_tB]
  have e0 : ((op : Int) == 0) = false := by simp; omega
  have e1 : ((op : Int) == 1) = false := by simp; omega
  have e5 : ((op : Int) == 5) = false := by simp; omega
  have e11 : ((op : Int) == 11) = false := by simp; omega
  have e12 : ((op : Int) == 12) = false := by simp; omega
  have e13 : ((op : Int) == 13) = false := by simp; omega
  have e14 : ((op : Int) == 14) = false := by simp; omega
  have e15 : ((op : Int) == 15) = false := by simp; omega
  have e16 : ((op : Int) == 16) = false := by simp; omega
  have e17 : ((op : Int) == 17) = false := by simp; omega
  have e26 : ((op : Int) == 26) = false := by simp; omega
  have e27 : ((op : Int) == 27) = false := by simp; omega
  have e63 : ((op : Int) == 63) = false := by simp; omega
  have e64 : ((op : Int) == 64) = false := by simp; omega
  have e65 : ((op : Int) == 65) = false := by simp; omega
  have e66 : ((op : Int) == 66) = false := by simp; omega
  have g2e : (2 : Int) ≤ op := by omega
  have k4e : ¬ (op : Int) ≤ 4 := by omega
  have g32e : (32 : Int) ≤ op := by omega
  have k36e : ¬ (op : Int) ≤ 36 := by omega
  have HW := hid (rwidth_any op hop w hM)
  rw [(by decide +kernel : ∀ x, x < 256 → 124 ≤ x ∧ x ≤ 138 → tW x = 0) op hop hr] at HW
  have HT := hid (fun w2 => takes_any op hop w2)
  rw [(by decide +kernel : ∀ x, x < 256 → 124 ≤ x ∧ x ≤ 138 → tT x = 6) op hop hr, show S (tkL 6) = ⟨#[108, 108, 62, 108]⟩ from rfl] at HT
  go_enter Tryz.func162, Tryz.ntmps162
  go_wp2_with (first | (go_at_call 171; refine HW.out.mono ?_; rintro r w1 ⟨rfl, hb1⟩; have B1 := hid hb1; clear hb1) | (go_at_call 172; refine (HT.out _).mono ?_; rintro r w2 ⟨rfl, rfl⟩))
  go_ret
  exact ⟨rfl, B1.out⟩
 ·have t_tB : tB op = 0 := (by decide +kernel : ∀ x, x < 256 → 139 ≤ x ∧ x ≤ 166 → tB x = 0) op hop hr
  rw [t_tB]
  have e0 : ((op : Int) == 0) = false := by simp; omega
  have e1 : ((op : Int) == 1) = false := by simp; omega
  have e5 : ((op : Int) == 5) = false := by simp; omega
  have e11 : ((op : Int) == 11) = false := by simp; omega
  have e12 : ((op : Int) == 12) = false := by simp; omega
  have e13 : ((op : Int) == 13) = false := by simp; omega
  have e14 : ((op : Int) == 14) = false := by simp; omega
  have e15 : ((op : Int) == 15) = false := by simp; omega
  have e16 : ((op : Int) == 16) = false := by simp; omega
  have e17 : ((op : Int) == 17) = false := by simp; omega
  have e26 : ((op : Int) == 26) = false := by simp; omega
  have e27 : ((op : Int) == 27) = false := by simp; omega
  have e63 : ((op : Int) == 63) = false := by simp; omega
  have e64 : ((op : Int) == 64) = false := by simp; omega
  have e65 : ((op : Int) == 65) = false := by simp; omega
  have e66 : ((op : Int) == 66) = false := by simp; omega
  have g2e : (2 : Int) ≤ op := by omega
  have k4e : ¬ (op : Int) ≤ 4 := by omega
  have g32e : (32 : Int) ≤ op := by omega
  have k36e : ¬ (op : Int) ≤ 36 := by omega
  have HW := hid (rwidth_any op hop w hM)
  rw [(by decide +kernel : ∀ x, x < 256 → 139 ≤ x ∧ x ≤ 166 → tW x = 0) op hop hr] at HW
  have HT := hid (fun w2 => takes_any op hop w2)
  rw [(by decide +kernel : ∀ x, x < 256 → 139 ≤ x ∧ x ≤ 166 → tT x = 0) op hop hr, show S (tkL 0) = ⟨#[63]⟩ from rfl] at HT
  go_enter Tryz.func162, Tryz.ntmps162
  go_wp2_with (first | (go_at_call 171; refine HW.out.mono ?_; rintro r w1 ⟨rfl, hb1⟩; have B1 := hid hb1; clear hb1) | (go_at_call 172; refine (HT.out _).mono ?_; rintro r w2 ⟨rfl, rfl⟩))
  go_ret
  exact ⟨rfl, B1.out⟩
 ·have t_tB : tB op = 1 := (by decide +kernel : ∀ x, x < 256 → 167 ≤ x ∧ x ≤ 167 → tB x = 1) op hop hr
  rw [t_tB]
  obtain rfl : op = 167 := by omega
  have HW := hid (rwidth_any 167 (by decide) w hM)
  rw [show tW 167 = 0 from rfl] at HW
  have HT := hid (fun w2 => takes_any 167 (by decide) w2)
  rw [show tT 167 = 2 from rfl, show S (tkL 2) = ⟨#[108, 62, 105]⟩ from rfl] at HT
  go_enter Tryz.func162, Tryz.ntmps162
  go_wp2_with (first | (go_at_call 171; refine HW.out.mono ?_; rintro r w1 ⟨rfl, hb1⟩; have B1 := hid hb1; clear hb1) | (go_at_call 172; refine (HT.out _).mono ?_; rintro r w2 ⟨rfl, rfl⟩))
  go_ret
  exact ⟨rfl, B1.out⟩
 ·have t_tB : tB op = 0 := (by decide +kernel : ∀ x, x < 256 → 168 ≤ x ∧ x ≤ 171 → tB x = 0) op hop hr
  rw [t_tB]
  have e0 : ((op : Int) == 0) = false := by simp; omega
  have e1 : ((op : Int) == 1) = false := by simp; omega
  have e5 : ((op : Int) == 5) = false := by simp; omega
  have e11 : ((op : Int) == 11) = false := by simp; omega
  have e12 : ((op : Int) == 12) = false := by simp; omega
  have e13 : ((op : Int) == 13) = false := by simp; omega
  have e14 : ((op : Int) == 14) = false := by simp; omega
  have e15 : ((op : Int) == 15) = false := by simp; omega
  have e16 : ((op : Int) == 16) = false := by simp; omega
  have e17 : ((op : Int) == 17) = false := by simp; omega
  have e26 : ((op : Int) == 26) = false := by simp; omega
  have e27 : ((op : Int) == 27) = false := by simp; omega
  have e63 : ((op : Int) == 63) = false := by simp; omega
  have e64 : ((op : Int) == 64) = false := by simp; omega
  have e65 : ((op : Int) == 65) = false := by simp; omega
  have e66 : ((op : Int) == 66) = false := by simp; omega
  have g2e : (2 : Int) ≤ op := by omega
  have k4e : ¬ (op : Int) ≤ 4 := by omega
  have g32e : (32 : Int) ≤ op := by omega
  have k36e : ¬ (op : Int) ≤ 36 := by omega
  have HW := hid (rwidth_any op hop w hM)
  rw [(by decide +kernel : ∀ x, x < 256 → 168 ≤ x ∧ x ≤ 171 → tW x = 0) op hop hr] at HW
  have HT := hid (fun w2 => takes_any op hop w2)
  rw [(by decide +kernel : ∀ x, x < 256 → 168 ≤ x ∧ x ≤ 171 → tT x = 0) op hop hr, show S (tkL 0) = ⟨#[63]⟩ from rfl] at HT
  go_enter Tryz.func162, Tryz.ntmps162
  go_wp2_with (first | (go_at_call 171; refine HW.out.mono ?_; rintro r w1 ⟨rfl, hb1⟩; have B1 := hid hb1; clear hb1) | (go_at_call 172; refine (HT.out _).mono ?_; rintro r w2 ⟨rfl, rfl⟩))
  go_ret
  exact ⟨rfl, B1.out⟩
 ·have t_tB : tB op = 1 := (by decide +kernel : ∀ x, x < 256 → 172 ≤ x ∧ x ≤ 173 → tB x = 1) op hop hr
  rw [t_tB]
  have e0 : ((op : Int) == 0) = false := by simp; omega
  have e1 : ((op : Int) == 1) = false := by simp; omega
  have e5 : ((op : Int) == 5) = false := by simp; omega
  have e11 : ((op : Int) == 11) = false := by simp; omega
  have e12 : ((op : Int) == 12) = false := by simp; omega
  have e13 : ((op : Int) == 13) = false := by simp; omega
  have e14 : ((op : Int) == 14) = false := by simp; omega
  have e15 : ((op : Int) == 15) = false := by simp; omega
  have e16 : ((op : Int) == 16) = false := by simp; omega
  have e17 : ((op : Int) == 17) = false := by simp; omega
  have e26 : ((op : Int) == 26) = false := by simp; omega
  have e27 : ((op : Int) == 27) = false := by simp; omega
  have e63 : ((op : Int) == 63) = false := by simp; omega
  have e64 : ((op : Int) == 64) = false := by simp; omega
  have e65 : ((op : Int) == 65) = false := by simp; omega
  have e66 : ((op : Int) == 66) = false := by simp; omega
  have g2e : (2 : Int) ≤ op := by omega
  have k4e : ¬ (op : Int) ≤ 4 := by omega
  have g32e : (32 : Int) ≤ op := by omega
  have k36e : ¬ (op : Int) ≤ 36 := by omega
  have HW := hid (rwidth_any op hop w hM)
  rw [(by decide +kernel : ∀ x, x < 256 → 172 ≤ x ∧ x ≤ 173 → tW x = 0) op hop hr] at HW
  have HT := hid (fun w2 => takes_any op hop w2)
  rw [(by decide +kernel : ∀ x, x < 256 → 172 ≤ x ∧ x ≤ 173 → tT x = 7) op hop hr, show S (tkL 7) = ⟨#[105, 62, 108]⟩ from rfl] at HT
  go_enter Tryz.func162, Tryz.ntmps162
  go_wp2_with (first | (go_at_call 171; refine HW.out.mono ?_; rintro r w1 ⟨rfl, hb1⟩; have B1 := hid hb1; clear hb1) | (go_at_call 172; refine (HT.out _).mono ?_; rintro r w2 ⟨rfl, rfl⟩))
  go_ret
  exact ⟨rfl, B1.out⟩
 ·have t_tB : tB op = 0 := (by decide +kernel : ∀ x, x < 256 → 174 ≤ x ∧ x ≤ 191 → tB x = 0) op hop hr
  rw [t_tB]
  have e0 : ((op : Int) == 0) = false := by simp; omega
  have e1 : ((op : Int) == 1) = false := by simp; omega
  have e5 : ((op : Int) == 5) = false := by simp; omega
  have e11 : ((op : Int) == 11) = false := by simp; omega
  have e12 : ((op : Int) == 12) = false := by simp; omega
  have e13 : ((op : Int) == 13) = false := by simp; omega
  have e14 : ((op : Int) == 14) = false := by simp; omega
  have e15 : ((op : Int) == 15) = false := by simp; omega
  have e16 : ((op : Int) == 16) = false := by simp; omega
  have e17 : ((op : Int) == 17) = false := by simp; omega
  have e26 : ((op : Int) == 26) = false := by simp; omega
  have e27 : ((op : Int) == 27) = false := by simp; omega
  have e63 : ((op : Int) == 63) = false := by simp; omega
  have e64 : ((op : Int) == 64) = false := by simp; omega
  have e65 : ((op : Int) == 65) = false := by simp; omega
  have e66 : ((op : Int) == 66) = false := by simp; omega
  have g2e : (2 : Int) ≤ op := by omega
  have k4e : ¬ (op : Int) ≤ 4 := by omega
  have g32e : (32 : Int) ≤ op := by omega
  have k36e : ¬ (op : Int) ≤ 36 := by omega
  have HW := hid (rwidth_any op hop w hM)
  rw [(by decide +kernel : ∀ x, x < 256 → 174 ≤ x ∧ x ≤ 191 → tW x = 0) op hop hr] at HW
  have HT := hid (fun w2 => takes_any op hop w2)
  rw [(by decide +kernel : ∀ x, x < 256 → 174 ≤ x ∧ x ≤ 191 → tT x = 0) op hop hr, show S (tkL 0) = ⟨#[63]⟩ from rfl] at HT
  go_enter Tryz.func162, Tryz.ntmps162
  go_wp2_with (first | (go_at_call 171; refine HW.out.mono ?_; rintro r w1 ⟨rfl, hb1⟩; have B1 := hid hb1; clear hb1) | (go_at_call 172; refine (HT.out _).mono ?_; rintro r w2 ⟨rfl, rfl⟩))
  go_ret
  exact ⟨rfl, B1.out⟩
 ·have t_tB : tB op = 1 := (by decide +kernel : ∀ x, x < 256 → 192 ≤ x ∧ x ≤ 193 → tB x = 1) op hop hr
  rw [t_tB]
  have e0 : ((op : Int) == 0) = false := by simp; omega
  have e1 : ((op : Int) == 1) = false := by simp; omega
  have e5 : ((op : Int) == 5) = false := by simp; omega
  have e11 : ((op : Int) == 11) = false := by simp; omega
  have e12 : ((op : Int) == 12) = false := by simp; omega
  have e13 : ((op : Int) == 13) = false := by simp; omega
  have e14 : ((op : Int) == 14) = false := by simp; omega
  have e15 : ((op : Int) == 15) = false := by simp; omega
  have e16 : ((op : Int) == 16) = false := by simp; omega
  have e17 : ((op : Int) == 17) = false := by simp; omega
  have e26 : ((op : Int) == 26) = false := by simp; omega
  have e27 : ((op : Int) == 27) = false := by simp; omega
  have e63 : ((op : Int) == 63) = false := by simp; omega
  have e64 : ((op : Int) == 64) = false := by simp; omega
  have e65 : ((op : Int) == 65) = false := by simp; omega
  have e66 : ((op : Int) == 66) = false := by simp; omega
  have g2e : (2 : Int) ≤ op := by omega
  have k4e : ¬ (op : Int) ≤ 4 := by omega
  have g32e : (32 : Int) ≤ op := by omega
  have k36e : ¬ (op : Int) ≤ 36 := by omega
  have HW := hid (rwidth_any op hop w hM)
  rw [(by decide +kernel : ∀ x, x < 256 → 192 ≤ x ∧ x ≤ 193 → tW x = 0) op hop hr] at HW
  have HT := hid (fun w2 => takes_any op hop w2)
  rw [(by decide +kernel : ∀ x, x < 256 → 192 ≤ x ∧ x ≤ 193 → tT x = 1) op hop hr, show S (tkL 1) = ⟨#[105, 62, 105]⟩ from rfl] at HT
  go_enter Tryz.func162, Tryz.ntmps162
  go_wp2_with (first | (go_at_call 171; refine HW.out.mono ?_; rintro r w1 ⟨rfl, hb1⟩; have B1 := hid hb1; clear hb1) | (go_at_call 172; refine (HT.out _).mono ?_; rintro r w2 ⟨rfl, rfl⟩))
  go_ret
  exact ⟨rfl, B1.out⟩
 ·have t_tB : tB op = 1 := (by decide +kernel : ∀ x, x < 256 → 194 ≤ x ∧ x ≤ 196 → tB x = 1) op hop hr
  rw [t_tB]
  have e0 : ((op : Int) == 0) = false := by simp; omega
  have e1 : ((op : Int) == 1) = false := by simp; omega
  have e5 : ((op : Int) == 5) = false := by simp; omega
  have e11 : ((op : Int) == 11) = false := by simp; omega
  have e12 : ((op : Int) == 12) = false := by simp; omega
  have e13 : ((op : Int) == 13) = false := by simp; omega
  have e14 : ((op : Int) == 14) = false := by simp; omega
  have e15 : ((op : Int) == 15) = false := by simp; omega
  have e16 : ((op : Int) == 16) = false := by simp; omega
  have e17 : ((op : Int) == 17) = false := by simp; omega
  have e26 : ((op : Int) == 26) = false := by simp; omega
  have e27 : ((op : Int) == 27) = false := by simp; omega
  have e63 : ((op : Int) == 63) = false := by simp; omega
  have e64 : ((op : Int) == 64) = false := by simp; omega
  have e65 : ((op : Int) == 65) = false := by simp; omega
  have e66 : ((op : Int) == 66) = false := by simp; omega
  have g2e : (2 : Int) ≤ op := by omega
  have k4e : ¬ (op : Int) ≤ 4 := by omega
  have g32e : (32 : Int) ≤ op := by omega
  have k36e : ¬ (op : Int) ≤ 36 := by omega
  have HW := hid (rwidth_any op hop w hM)
  rw [(by decide +kernel : ∀ x, x < 256 → 194 ≤ x ∧ x ≤ 196 → tW x = 0) op hop hr] at HW
  have HT := hid (fun w2 => takes_any op hop w2)
  rw [(by decide +kernel : ∀ x, x < 256 → 194 ≤ x ∧ x ≤ 196 → tT x = 5) op hop hr, show S (tkL 5) = ⟨#[108, 62, 108]⟩ from rfl] at HT
  go_enter Tryz.func162, Tryz.ntmps162
  go_wp2_with (first | (go_at_call 171; refine HW.out.mono ?_; rintro r w1 ⟨rfl, hb1⟩; have B1 := hid hb1; clear hb1) | (go_at_call 172; refine (HT.out _).mono ?_; rintro r w2 ⟨rfl, rfl⟩))
  go_ret
  exact ⟨rfl, B1.out⟩
 ·have t_tB : tB op = 0 := (by decide +kernel : ∀ x, x < 256 → 197 ≤ x ∧ x ≤ 255 → tB x = 0) op hop hr
  rw [t_tB]
  have e0 : ((op : Int) == 0) = false := by simp; omega
  have e1 : ((op : Int) == 1) = false := by simp; omega
  have e5 : ((op : Int) == 5) = false := by simp; omega
  have e11 : ((op : Int) == 11) = false := by simp; omega
  have e12 : ((op : Int) == 12) = false := by simp; omega
  have e13 : ((op : Int) == 13) = false := by simp; omega
  have e14 : ((op : Int) == 14) = false := by simp; omega
  have e15 : ((op : Int) == 15) = false := by simp; omega
  have e16 : ((op : Int) == 16) = false := by simp; omega
  have e17 : ((op : Int) == 17) = false := by simp; omega
  have e26 : ((op : Int) == 26) = false := by simp; omega
  have e27 : ((op : Int) == 27) = false := by simp; omega
  have e63 : ((op : Int) == 63) = false := by simp; omega
  have e64 : ((op : Int) == 64) = false := by simp; omega
  have e65 : ((op : Int) == 65) = false := by simp; omega
  have e66 : ((op : Int) == 66) = false := by simp; omega
  have g2e : (2 : Int) ≤ op := by omega
  have k4e : ¬ (op : Int) ≤ 4 := by omega
  have g32e : (32 : Int) ≤ op := by omega
  have k36e : ¬ (op : Int) ≤ 36 := by omega
  have HW := hid (rwidth_any op hop w hM)
  rw [(by decide +kernel : ∀ x, x < 256 → 197 ≤ x ∧ x ≤ 255 → tW x = 0) op hop hr] at HW
  have HT := hid (fun w2 => takes_any op hop w2)
  rw [(by decide +kernel : ∀ x, x < 256 → 197 ≤ x ∧ x ≤ 255 → tT x = 0) op hop hr, show S (tkL 0) = ⟨#[63]⟩ from rfl] at HT
  go_enter Tryz.func162, Tryz.ntmps162
  go_wp2_with (first | (go_at_call 171; refine HW.out.mono ?_; rintro r w1 ⟨rfl, hb1⟩; have B1 := hid hb1; clear hb1) | (go_at_call 172; refine (HT.out _).mono ?_; rintro r w2 ⟨rfl, rfl⟩))
  go_ret
  exact ⟨rfl, B1.out⟩
end Go.Proofs.YthoalneknadheaaGreatDoor
