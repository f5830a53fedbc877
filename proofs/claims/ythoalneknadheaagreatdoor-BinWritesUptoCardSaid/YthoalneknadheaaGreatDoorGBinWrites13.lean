/-
  INSTRUCTIONS: the program's numeric. Condition: the number is a byte.
-/
import Derived.Test.YthoalneknadheaaGreatDoorGBinWrites7
namespace Go.Proofs.YthoalneknadheaaGreatDoor
open Go.RowKit Go.Lib

set_option maxRecDepth 100000 in
set_option maxHeartbeats 16000000 in
theorem numeric_any (op : Nat) (hop : op < 256) (w : World) :
  Calls Tryz.prog 158 #[.int .u8 op] w fun e w' => ∃ v, e = .returned (.tuple #[v, .int .u8 (tO op : Nat), .bool (decide (tQ op = 1))]) ∧ Kinds w' v (List.replicate (tN op) (tI op : Int)) ∧ Below w.heap.size w w' := by
 rcases (by omega : (0 ≤ op ∧ op ≤ 68) ∨ (69 ≤ op ∧ op ≤ 69) ∨ (70 ≤ op ∧ op ≤ 79) ∨ (80 ≤ op ∧ op ≤ 80) ∨ (81 ≤ op ∧ op ≤ 90) ∨ (91 ≤ op ∧ op ≤ 102) ∨ (103 ≤ op ∧ op ≤ 105) ∨ (106 ≤ op ∧ op ≤ 120) ∨ (121 ≤ op ∧ op ≤ 123) ∨ (124 ≤ op ∧ op ≤ 138) ∨ (139 ≤ op ∧ op ≤ 166) ∨ (167 ≤ op ∧ op ≤ 167) ∨ (168 ≤ op ∧ op ≤ 171) ∨ (172 ≤ op ∧ op ≤ 172) ∨ (173 ≤ op ∧ op ≤ 173) ∨ (174 ≤ op ∧ op ≤ 191) ∨ (192 ≤ op ∧ op ≤ 193) ∨ (194 ≤ op ∧ op ≤ 196) ∨ (197 ≤ op ∧ op ≤ 255)) with hr | hr | hr | hr | hr | hr | hr | hr | hr | hr | hr | hr | hr | hr | hr | hr | hr | hr | hr
 ·have t_tO : tO op = 0 := (by decide +kernel : ∀ x, x < 256 → 0 ≤ x ∧ x ≤ 68 → tO x = 0) op hop hr
  have t_tQ : tQ op = 0 := (by decide +kernel : ∀ x, x < 256 → 0 ≤ x ∧ x ≤ 68 → tQ x = 0) op hop hr
  have t_tN : tN op = 0 := (by decide +kernel : ∀ x, x < 256 → 0 ≤ x ∧ x ≤ 68 → tN x = 0) op hop hr
  have t_tI : tI op = 0 := (by decide +kernel : ∀ x, x < 256 → 0 ≤ x ∧ x ≤ 68 → tI x = 0) op hop hr
  rw [t_tO, t_tQ, t_tN, t_tI]
  have e69 : ((op : Int) == 69) = false := by simp; omega
  have e80 : ((op : Int) == 80) = false := by simp; omega
  have e167 : ((op : Int) == 167) = false := by simp; omega
  have e172 : ((op : Int) == 172) = false := by simp; omega
  have e173 : ((op : Int) == 173) = false := by simp; omega
  have g69 : ¬ (69 : Int) < op := by omega
  have k90e : (op : Int) ≤ 90 := by omega
  have g103e : ¬ (103 : Int) ≤ op := by omega
  have k105e : (op : Int) ≤ 105 := by omega
  have g121e : ¬ (121 : Int) ≤ op := by omega
  have k123e : (op : Int) ≤ 123 := by omega
  have g106e : ¬ (106 : Int) ≤ op := by omega
  have k138e : (op : Int) ≤ 138 := by omega
  have g192e : ¬ (192 : Int) ≤ op := by omega
  have k196e : (op : Int) ≤ 196 := by omega
  have k80 : (op : Int) < 80 := by omega
  have k121 : (op : Int) < 121 := by omega
  have k194 : (op : Int) < 194 := by omega
  go_enter Tryz.func158, Tryz.ntmps158
  go_wp2
  go_ret3
  exact ⟨_, rfl, ⟨none, 0, rfl, by simp, by simp, by simp, .inl rfl⟩, (Below.refl _ _).alloc (Nat.le_refl _) _⟩
 ·have t_tO : tO op = 127 := (by decide +kernel : ∀ x, x < 256 → 69 ≤ x ∧ x ≤ 69 → tO x = 127) op hop hr
  have t_tQ : tQ op = 1 := (by decide +kernel : ∀ x, x < 256 → 69 ≤ x ∧ x ≤ 69 → tQ x = 1) op hop hr
  have t_tN : tN op = 1 := (by decide +kernel : ∀ x, x < 256 → 69 ≤ x ∧ x ≤ 69 → tN x = 1) op hop hr
  have t_tI : tI op = 127 := (by decide +kernel : ∀ x, x < 256 → 69 ≤ x ∧ x ≤ 69 → tI x = 127) op hop hr
  rw [t_tO, t_tQ, t_tN, t_tI]
  obtain rfl : op = 69 := by omega
  go_enter Tryz.func158, Tryz.ntmps158
  go_wp2
  go_ret3
  exact ⟨_, rfl, Ints.made' _ .u8 62 [127] _ (by simp) (by decide), ((Below.refl _ _).alloc (Nat.le_refl _) _).alloc (by simp) _⟩
 ·have t_tO : tO op = 127 := (by decide +kernel : ∀ x, x < 256 → 70 ≤ x ∧ x ≤ 79 → tO x = 127) op hop hr
  have t_tQ : tQ op = 1 := (by decide +kernel : ∀ x, x < 256 → 70 ≤ x ∧ x ≤ 79 → tQ x = 1) op hop hr
  have t_tN : tN op = 2 := (by decide +kernel : ∀ x, x < 256 → 70 ≤ x ∧ x ≤ 79 → tN x = 2) op hop hr
  have t_tI : tI op = 127 := (by decide +kernel : ∀ x, x < 256 → 70 ≤ x ∧ x ≤ 79 → tI x = 127) op hop hr
  rw [t_tO, t_tQ, t_tN, t_tI]
  have e69 : ((op : Int) == 69) = false := by simp; omega
  have e80 : ((op : Int) == 80) = false := by simp; omega
  have e167 : ((op : Int) == 167) = false := by simp; omega
  have e172 : ((op : Int) == 172) = false := by simp; omega
  have e173 : ((op : Int) == 173) = false := by simp; omega
  have g69 : (69 : Int) < op := by omega
  have k90e : (op : Int) ≤ 90 := by omega
  have g103e : ¬ (103 : Int) ≤ op := by omega
  have k105e : (op : Int) ≤ 105 := by omega
  have g121e : ¬ (121 : Int) ≤ op := by omega
  have k123e : (op : Int) ≤ 123 := by omega
  have g106e : ¬ (106 : Int) ≤ op := by omega
  have k138e : (op : Int) ≤ 138 := by omega
  have g192e : ¬ (192 : Int) ≤ op := by omega
  have k196e : (op : Int) ≤ 196 := by omega
  have k80 : (op : Int) < 80 := by omega
  have k121 : (op : Int) < 121 := by omega
  have k194 : (op : Int) < 194 := by omega
  go_enter Tryz.func158, Tryz.ntmps158
  go_wp2
  go_ret3
  exact ⟨_, rfl, Ints.made' _ .u8 62 [127, 127] _ (by simp) (by decide), ((Below.refl _ _).alloc (Nat.le_refl _) _).alloc (by simp) _⟩
 ·have t_tO : tO op = 127 := (by decide +kernel : ∀ x, x < 256 → 80 ≤ x ∧ x ≤ 80 → tO x = 127) op hop hr
  have t_tQ : tQ op = 1 := (by decide +kernel : ∀ x, x < 256 → 80 ≤ x ∧ x ≤ 80 → tQ x = 1) op hop hr
  have t_tN : tN op = 1 := (by decide +kernel : ∀ x, x < 256 → 80 ≤ x ∧ x ≤ 80 → tN x = 1) op hop hr
  have t_tI : tI op = 126 := (by decide +kernel : ∀ x, x < 256 → 80 ≤ x ∧ x ≤ 80 → tI x = 126) op hop hr
  rw [t_tO, t_tQ, t_tN, t_tI]
  obtain rfl : op = 80 := by omega
  go_enter Tryz.func158, Tryz.ntmps158
  go_wp2
  go_ret3
  exact ⟨_, rfl, Ints.made' _ .u8 62 [126] _ (by simp) (by decide), ((Below.refl _ _).alloc (Nat.le_refl _) _).alloc (by simp) _⟩
 ·have t_tO : tO op = 127 := (by decide +kernel : ∀ x, x < 256 → 81 ≤ x ∧ x ≤ 90 → tO x = 127) op hop hr
  have t_tQ : tQ op = 1 := (by decide +kernel : ∀ x, x < 256 → 81 ≤ x ∧ x ≤ 90 → tQ x = 1) op hop hr
  have t_tN : tN op = 2 := (by decide +kernel : ∀ x, x < 256 → 81 ≤ x ∧ x ≤ 90 → tN x = 2) op hop hr
  have t_tI : tI op = 126 := (by decide +kernel : ∀ x, x < 256 → 81 ≤ x ∧ x ≤ 90 → tI x = 126) op hop hr
  rw [t_tO, t_tQ, t_tN, t_tI]
  have e69 : ((op : Int) == 69) = false := by simp; omega
  have e80 : ((op : Int) == 80) = false := by simp; omega
  have e167 : ((op : Int) == 167) = false := by simp; omega
  have e172 : ((op : Int) == 172) = false := by simp; omega
  have e173 : ((op : Int) == 173) = false := by simp; omega
  have g69 : (69 : Int) < op := by omega
  have k90e : (op : Int) ≤ 90 := by omega
  have g103e : ¬ (103 : Int) ≤ op := by omega
  have k105e : (op : Int) ≤ 105 := by omega
  have g121e : ¬ (121 : Int) ≤ op := by omega
  have k123e : (op : Int) ≤ 123 := by omega
  have g106e : ¬ (106 : Int) ≤ op := by omega
  have k138e : (op : Int) ≤ 138 := by omega
  have g192e : ¬ (192 : Int) ≤ op := by omega
  have k196e : (op : Int) ≤ 196 := by omega
  have k80 : ¬ (op : Int) < 80 := by omega
  have k121 : (op : Int) < 121 := by omega
  have k194 : (op : Int) < 194 := by omega
  go_enter Tryz.func158, Tryz.ntmps158
  go_wp2
  go_ret3
  exact ⟨_, rfl, Ints.made' _ .u8 62 [126, 126] _ (by simp) (by decide), ((Below.refl _ _).alloc (Nat.le_refl _) _).alloc (by simp) _⟩
 ·have t_tO : tO op = 0 := (by decide +kernel : ∀ x, x < 256 → 91 ≤ x ∧ x ≤ 102 → tO x = 0) op hop hr
  have t_tQ : tQ op = 0 := (by decide +kernel : ∀ x, x < 256 → 91 ≤ x ∧ x ≤ 102 → tQ x = 0) op hop hr
  have t_tN : tN op = 0 := (by decide +kernel : ∀ x, x < 256 → 91 ≤ x ∧ x ≤ 102 → tN x = 0) op hop hr
  have t_tI : tI op = 0 := (by decide +kernel : ∀ x, x < 256 → 91 ≤ x ∧ x ≤ 102 → tI x = 0) op hop hr
  rw [t_tO, t_tQ, t_tN, t_tI]
  have e69 : ((op : Int) == 69) = false := by simp; omega
  have e80 : ((op : Int) == 80) = false := by simp; omega
  have e167 : ((op : Int) == 167) = false := by simp; omega
  have e172 : ((op : Int) == 172) = false := by simp; omega
  have e173 : ((op : Int) == 173) = false := by simp; omega
  have g69 : (69 : Int) < op := by omega
  have k90e : ¬ (op : Int) ≤ 90 := by omega
  have g103e : ¬ (103 : Int) ≤ op := by omega
  have k105e : (op : Int) ≤ 105 := by omega
  have g121e : ¬ (121 : Int) ≤ op := by omega
  have k123e : (op : Int) ≤ 123 := by omega
  have g106e : ¬ (106 : Int) ≤ op := by omega
  have k138e : (op : Int) ≤ 138 := by omega
  have g192e : ¬ (192 : Int) ≤ op := by omega
  have k196e : (op : Int) ≤ 196 := by omega
  have k80 : ¬ (op : Int) < 80 := by omega
  have k121 : (op : Int) < 121 := by omega
  have k194 : (op : Int) < 194 := by omega
  go_enter Tryz.func158, Tryz.ntmps158
  go_wp2
  go_ret3
  exact ⟨_, rfl, ⟨none, 0, rfl, by simp, by simp, by simp, .inl rfl⟩, (Below.refl _ _).alloc (Nat.le_refl _) _⟩
 ·have t_tO : tO op = 127 := (by decide +kernel : ∀ x, x < 256 → 103 ≤ x ∧ x ≤ 105 → tO x = 127) op hop hr
  have t_tQ : tQ op = 1 := (by decide +kernel : ∀ x, x < 256 → 103 ≤ x ∧ x ≤ 105 → tQ x = 1) op hop hr
  have t_tN : tN op = 1 := (by decide +kernel : ∀ x, x < 256 → 103 ≤ x ∧ x ≤ 105 → tN x = 1) op hop hr
  have t_tI : tI op = 127 := (by decide +kernel : ∀ x, x < 256 → 103 ≤ x ∧ x ≤ 105 → tI x = 127) op hop hr
  rw [t_tO, t_tQ, t_tN, t_tI]
  have e69 : ((op : Int) == 69) = false := by simp; omega
  have e80 : ((op : Int) == 80) = false := by simp; omega
  have e167 : ((op : Int) == 167) = false := by simp; omega
  have e172 : ((op : Int) == 172) = false := by simp; omega
  have e173 : ((op : Int) == 173) = false := by simp; omega
  have g69 : (69 : Int) < op := by omega
  have k90e : ¬ (op : Int) ≤ 90 := by omega
  have g103e : (103 : Int) ≤ op := by omega
  have k105e : (op : Int) ≤ 105 := by omega
  have g121e : ¬ (121 : Int) ≤ op := by omega
  have k123e : (op : Int) ≤ 123 := by omega
  have g106e : ¬ (106 : Int) ≤ op := by omega
  have k138e : (op : Int) ≤ 138 := by omega
  have g192e : ¬ (192 : Int) ≤ op := by omega
  have k196e : (op : Int) ≤ 196 := by omega
  have k80 : ¬ (op : Int) < 80 := by omega
  have k121 : (op : Int) < 121 := by omega
  have k194 : (op : Int) < 194 := by omega
  go_enter Tryz.func158, Tryz.ntmps158
  go_wp2
  go_ret3
  exact ⟨_, rfl, Ints.made' _ .u8 62 [127] _ (by simp) (by decide), ((Below.refl _ _).alloc (Nat.le_refl _) _).alloc (by simp) _⟩
 ·have t_tO : tO op = 127 := (by decide +kernel : ∀ x, x < 256 → 106 ≤ x ∧ x ≤ 120 → tO x = 127) op hop hr
  have t_tQ : tQ op = 1 := (by decide +kernel : ∀ x, x < 256 → 106 ≤ x ∧ x ≤ 120 → tQ x = 1) op hop hr
  have t_tN : tN op = 2 := (by decide +kernel : ∀ x, x < 256 → 106 ≤ x ∧ x ≤ 120 → tN x = 2) op hop hr
  have t_tI : tI op = 127 := (by decide +kernel : ∀ x, x < 256 → 106 ≤ x ∧ x ≤ 120 → tI x = 127) op hop hr
  rw [t_tO, t_tQ, t_tN, t_tI]
  have e69 : ((op : Int) == 69) = false := by simp; omega
  have e80 : ((op : Int) == 80) = false := by simp; omega
  have e167 : ((op : Int) == 167) = false := by simp; omega
  have e172 : ((op : Int) == 172) = false := by simp; omega
  have e173 : ((op : Int) == 173) = false := by simp; omega
  have g69 : (69 : Int) < op := by omega
  have k90e : ¬ (op : Int) ≤ 90 := by omega
  have g103e : (103 : Int) ≤ op := by omega
  have k105e : ¬ (op : Int) ≤ 105 := by omega
  have g121e : ¬ (121 : Int) ≤ op := by omega
  have k123e : (op : Int) ≤ 123 := by omega
  have g106e : (106 : Int) ≤ op := by omega
  have k138e : (op : Int) ≤ 138 := by omega
  have g192e : ¬ (192 : Int) ≤ op := by omega
  have k196e : (op : Int) ≤ 196 := by omega
  have k80 : ¬ (op : Int) < 80 := by omega
  have k121 : (op : Int) < 121 := by omega
  have k194 : (op : Int) < 194 := by omega
  go_enter Tryz.func158, Tryz.ntmps158
  go_wp2
  go_ret3
  exact ⟨_, rfl, Ints.made' _ .u8 62 [127, 127] _ (by simp) (by decide), ((Below.refl _ _).alloc (Nat.le_refl _) _).alloc (by simp) _⟩
 ·have t_tO : tO op = 126 := (by decide +kernel : ∀ x, x < 256 → 121 ≤ x ∧ x ≤ 123 → tO x = 126) op hop hr
  have t_tQ : tQ op = 1 := (by decide +kernel : ∀ x, x < 256 → 121 ≤ x ∧ x ≤ 123 → tQ x = 1) op hop hr
  have t_tN : tN op = 1 := (by decide +kernel : ∀ x, x < 256 → 121 ≤ x ∧ x ≤ 123 → tN x = 1) op hop hr
  have t_tI : tI op = 126 := (by decide +kernel : ∀ x, x < 256 → 121 ≤ x ∧ x ≤ 123 → tI x = 126) op hop hr
  rw [t_tO, t_tQ, t_tN, t_tI]
  have e69 : ((op : Int) == 69) = false := by simp; omega
  have e80 : ((op : Int) == 80) = false := by simp; omega
  have e167 : ((op : Int) == 167) = false := by simp; omega
  have e172 : ((op : Int) == 172) = false := by simp; omega
  have e173 : ((op : Int) == 173) = false := by simp; omega
  have g69 : (69 : Int) < op := by omega
  have k90e : ¬ (op : Int) ≤ 90 := by omega
  have g103e : (103 : Int) ≤ op := by omega
  have k105e : ¬ (op : Int) ≤ 105 := by omega
  have g121e : (121 : Int) ≤ op := by omega
  have k123e : (op : Int) ≤ 123 := by omega
  have g106e : (106 : Int) ≤ op := by omega
  have k138e : (op : Int) ≤ 138 := by omega
  have g192e : ¬ (192 : Int) ≤ op := by omega
  have k196e : (op : Int) ≤ 196 := by omega
  have k80 : ¬ (op : Int) < 80 := by omega
  have k121 : ¬ (op : Int) < 121 := by omega
  have k194 : (op : Int) < 194 := by omega
  go_enter Tryz.func158, Tryz.ntmps158
  go_wp2
  go_ret3
  exact ⟨_, rfl, Ints.made' _ .u8 62 [126] _ (by simp) (by decide), ((Below.refl _ _).alloc (Nat.le_refl _) _).alloc (by simp) _⟩
 ·have t_tO : tO op = 126 := (by decide +kernel : ∀ x, x < 256 → 124 ≤ x ∧ x ≤ 138 → tO x = 126) op hop hr
  have t_tQ : tQ op = 1 := (by decide +kernel : ∀ x, x < 256 → 124 ≤ x ∧ x ≤ 138 → tQ x = 1) op hop hr
  have t_tN : tN op = 2 := (by decide +kernel : ∀ x, x < 256 → 124 ≤ x ∧ x ≤ 138 → tN x = 2) op hop hr
  have t_tI : tI op = 126 := (by decide +kernel : ∀ x, x < 256 → 124 ≤ x ∧ x ≤ 138 → tI x = 126) op hop hr
  rw [t_tO, t_tQ, t_tN, t_tI]
  have e69 : ((op : Int) == 69) = false := by simp; omega
  have e80 : ((op : Int) == 80) = false := by simp; omega
  have e167 : ((op : Int) == 167) = false := by simp; omega
  have e172 : ((op : Int) == 172) = false := by simp; omega
  have e173 : ((op : Int) == 173) = false := by simp; omega
  have g69 : (69 : Int) < op := by omega
  have k90e : ¬ (op : Int) ≤ 90 := by omega
  have g103e : (103 : Int) ≤ op := by omega
  have k105e : ¬ (op : Int) ≤ 105 := by omega
  have g121e : (121 : Int) ≤ op := by omega
  have k123e : ¬ (op : Int) ≤ 123 := by omega
  have g106e : (106 : Int) ≤ op := by omega
  have k138e : (op : Int) ≤ 138 := by omega
  have g192e : ¬ (192 : Int) ≤ op := by omega
  have k196e : (op : Int) ≤ 196 := by omega
  have k80 : ¬ (op : Int) < 80 := by omega
  have k121 : ¬ (op : Int) < 121 := by omega
  have k194 : (op : Int) < 194 := by omega
  go_enter Tryz.func158, Tryz.ntmps158
  go_wp2
  go_ret3
  exact ⟨_, rfl, Ints.made' _ .u8 62 [126, 126] _ (by simp) (by decide), ((Below.refl _ _).alloc (Nat.le_refl _) _).alloc (by simp) _⟩
 ·have t_tO : tO op = 0 := (by decide +kernel : ∀ x, x < 256 → 139 ≤ x ∧ x ≤ 166 → tO x = 0) op hop hr
  have t_tQ : tQ op = 0 := (by decide +kernel : ∀ x, x < 256 → 139 ≤ x ∧ x ≤ 166 → tQ x = 0) op hop hr
  have t_tN : tN op = 0 := (by decide +kernel : ∀ x, x < 256 → 139 ≤ x ∧ x ≤ 166 → tN x = 0) op hop hr
  have t_tI : tI op = 0 := (by decide +kernel : ∀ x, x < 256 → 139 ≤ x ∧ x ≤ 166 → tI x = 0) op hop hr
  rw [t_tO, t_tQ, t_tN, t_tI]
  have e69 : ((op : Int) == 69) = false := by simp; omega
  have e80 : ((op : Int) == 80) = false := by simp; omega
  have e167 : ((op : Int) == 167) = false := by simp; omega
  have e172 : ((op : Int) == 172) = false := by simp; omega
  have e173 : ((op : Int) == 173) = false := by simp; omega
  have g69 : (69 : Int) < op := by omega
  have k90e : ¬ (op : Int) ≤ 90 := by omega
  have g103e : (103 : Int) ≤ op := by omega
  have k105e : ¬ (op : Int) ≤ 105 := by omega
  have g121e : (121 : Int) ≤ op := by omega
  have k123e : ¬ (op : Int) ≤ 123 := by omega
  have g106e : (106 : Int) ≤ op := by omega
  have k138e : ¬ (op : Int) ≤ 138 := by omega
  have g192e : ¬ (192 : Int) ≤ op := by omega
  have k196e : (op : Int) ≤ 196 := by omega
  have k80 : ¬ (op : Int) < 80 := by omega
  have k121 : ¬ (op : Int) < 121 := by omega
  have k194 : (op : Int) < 194 := by omega
  go_enter Tryz.func158, Tryz.ntmps158
  go_wp2
  go_ret3
  exact ⟨_, rfl, ⟨none, 0, rfl, by simp, by simp, by simp, .inl rfl⟩, (Below.refl _ _).alloc (Nat.le_refl _) _⟩
 ·have t_tO : tO op = 127 := (by decide +kernel : ∀ x, x < 256 → 167 ≤ x ∧ x ≤ 167 → tO x = 127) op hop hr
  have t_tQ : tQ op = 1 := (by decide +kernel : ∀ x, x < 256 → 167 ≤ x ∧ x ≤ 167 → tQ x = 1) op hop hr
  have t_tN : tN op = 1 := (by decide +kernel : ∀ x, x < 256 → 167 ≤ x ∧ x ≤ 167 → tN x = 1) op hop hr
  have t_tI : tI op = 126 := (by decide +kernel : ∀ x, x < 256 → 167 ≤ x ∧ x ≤ 167 → tI x = 126) op hop hr
  rw [t_tO, t_tQ, t_tN, t_tI]
  obtain rfl : op = 167 := by omega
  go_enter Tryz.func158, Tryz.ntmps158
  go_wp2
  go_ret3
  exact ⟨_, rfl, Ints.made' _ .u8 62 [126] _ (by simp) (by decide), ((Below.refl _ _).alloc (Nat.le_refl _) _).alloc (by simp) _⟩
 ·have t_tO : tO op = 0 := (by decide +kernel : ∀ x, x < 256 → 168 ≤ x ∧ x ≤ 171 → tO x = 0) op hop hr
  have t_tQ : tQ op = 0 := (by decide +kernel : ∀ x, x < 256 → 168 ≤ x ∧ x ≤ 171 → tQ x = 0) op hop hr
  have t_tN : tN op = 0 := (by decide +kernel : ∀ x, x < 256 → 168 ≤ x ∧ x ≤ 171 → tN x = 0) op hop hr
  have t_tI : tI op = 0 := (by decide +kernel : ∀ x, x < 256 → 168 ≤ x ∧ x ≤ 171 → tI x = 0) op hop hr
  rw [t_tO, t_tQ, t_tN, t_tI]
  have e69 : ((op : Int) == 69) = false := by simp; omega
  have e80 : ((op : Int) == 80) = false := by simp; omega
  have e167 : ((op : Int) == 167) = false := by simp; omega
  have e172 : ((op : Int) == 172) = false := by simp; omega
  have e173 : ((op : Int) == 173) = false := by simp; omega
  have g69 : (69 : Int) < op := by omega
  have k90e : ¬ (op : Int) ≤ 90 := by omega
  have g103e : (103 : Int) ≤ op := by omega
  have k105e : ¬ (op : Int) ≤ 105 := by omega
  have g121e : (121 : Int) ≤ op := by omega
  have k123e : ¬ (op : Int) ≤ 123 := by omega
  have g106e : (106 : Int) ≤ op := by omega
  have k138e : ¬ (op : Int) ≤ 138 := by omega
  have g192e : ¬ (192 : Int) ≤ op := by omega
  have k196e : (op : Int) ≤ 196 := by omega
  have k80 : ¬ (op : Int) < 80 := by omega
  have k121 : ¬ (op : Int) < 121 := by omega
  have k194 : (op : Int) < 194 := by omega
  go_enter Tryz.func158, Tryz.ntmps158
  go_wp2
  go_ret3
  exact ⟨_, rfl, ⟨none, 0, rfl, by simp, by simp, by simp, .inl rfl⟩, (Below.refl _ _).alloc (Nat.le_refl _) _⟩
 ·have t_tO : tO op = 126 := (by decide +kernel : ∀ x, x < 256 → 172 ≤ x ∧ x ≤ 172 → tO x = 126) op hop hr
  have t_tQ : tQ op = 1 := (by decide +kernel : ∀ x, x < 256 → 172 ≤ x ∧ x ≤ 172 → tQ x = 1) op hop hr
  have t_tN : tN op = 1 := (by decide +kernel : ∀ x, x < 256 → 172 ≤ x ∧ x ≤ 172 → tN x = 1) op hop hr
  have t_tI : tI op = 127 := (by decide +kernel : ∀ x, x < 256 → 172 ≤ x ∧ x ≤ 172 → tI x = 127) op hop hr
  rw [t_tO, t_tQ, t_tN, t_tI]
  obtain rfl : op = 172 := by omega
  go_enter Tryz.func158, Tryz.ntmps158
  go_wp2
  go_ret3
  exact ⟨_, rfl, Ints.made' _ .u8 62 [127] _ (by simp) (by decide), ((Below.refl _ _).alloc (Nat.le_refl _) _).alloc (by simp) _⟩
 ·have t_tO : tO op = 126 := (by decide +kernel : ∀ x, x < 256 → 173 ≤ x ∧ x ≤ 173 → tO x = 126) op hop hr
  have t_tQ : tQ op = 1 := (by decide +kernel : ∀ x, x < 256 → 173 ≤ x ∧ x ≤ 173 → tQ x = 1) op hop hr
  have t_tN : tN op = 1 := (by decide +kernel : ∀ x, x < 256 → 173 ≤ x ∧ x ≤ 173 → tN x = 1) op hop hr
  have t_tI : tI op = 127 := (by decide +kernel : ∀ x, x < 256 → 173 ≤ x ∧ x ≤ 173 → tI x = 127) op hop hr
  rw [t_tO, t_tQ, t_tN, t_tI]
  obtain rfl : op = 173 := by omega
  go_enter Tryz.func158, Tryz.ntmps158
  go_wp2
  go_ret3
  exact ⟨_, rfl, Ints.made' _ .u8 62 [127] _ (by simp) (by decide), ((Below.refl _ _).alloc (Nat.le_refl _) _).alloc (by simp) _⟩
 ·have t_tO : tO op = 0 := (by decide +kernel : ∀ x, x < 256 → 174 ≤ x ∧ x ≤ 191 → tO x = 0) op hop hr
  have t_tQ : tQ op = 0 := (by decide +kernel : ∀ x, x < 256 → 174 ≤ x ∧ x ≤ 191 → tQ x = 0) op hop hr
  have t_tN : tN op = 0 := (by decide +kernel : ∀ x, x < 256 → 174 ≤ x ∧ x ≤ 191 → tN x = 0) op hop hr
  have t_tI : tI op = 0 := (by decide +kernel : ∀ x, x < 256 → 174 ≤ x ∧ x ≤ 191 → tI x = 0) op hop hr
  rw [t_tO, t_tQ, t_tN, t_tI]
  have e69 : ((op : Int) == 69) = false := by simp; omega
  have e80 : ((op : Int) == 80) = false := by simp; omega
  have e167 : ((op : Int) == 167) = false := by simp; omega
  have e172 : ((op : Int) == 172) = false := by simp; omega
  have e173 : ((op : Int) == 173) = false := by simp; omega
  have g69 : (69 : Int) < op := by omega
  have k90e : ¬ (op : Int) ≤ 90 := by omega
  have g103e : (103 : Int) ≤ op := by omega
  have k105e : ¬ (op : Int) ≤ 105 := by omega
  have g121e : (121 : Int) ≤ op := by omega
  have k123e : ¬ (op : Int) ≤ 123 := by omega
  have g106e : (106 : Int) ≤ op := by omega
  have k138e : ¬ (op : Int) ≤ 138 := by omega
  have g192e : ¬ (192 : Int) ≤ op := by omega
  have k196e : (op : Int) ≤ 196 := by omega
  have k80 : ¬ (op : Int) < 80 := by omega
  have k121 : ¬ (op : Int) < 121 := by omega
  have k194 : (op : Int) < 194 := by omega
  go_enter Tryz.func158, Tryz.ntmps158
  go_wp2
  go_ret3
  exact ⟨_, rfl, ⟨none, 0, rfl, by simp, by simp, by simp, .inl rfl⟩, (Below.refl _ _).alloc (Nat.le_refl _) _⟩
 ·have t_tO : tO op = 127 := (by decide +kernel : ∀ x, x < 256 → 192 ≤ x ∧ x ≤ 193 → tO x = 127) op hop hr
  have t_tQ : tQ op = 1 := (by decide +kernel : ∀ x, x < 256 → 192 ≤ x ∧ x ≤ 193 → tQ x = 1) op hop hr
  have t_tN : tN op = 1 := (by decide +kernel : ∀ x, x < 256 → 192 ≤ x ∧ x ≤ 193 → tN x = 1) op hop hr
  have t_tI : tI op = 127 := (by decide +kernel : ∀ x, x < 256 → 192 ≤ x ∧ x ≤ 193 → tI x = 127) op hop hr
  rw [t_tO, t_tQ, t_tN, t_tI]
  have e69 : ((op : Int) == 69) = false := by simp; omega
  have e80 : ((op : Int) == 80) = false := by simp; omega
  have e167 : ((op : Int) == 167) = false := by simp; omega
  have e172 : ((op : Int) == 172) = false := by simp; omega
  have e173 : ((op : Int) == 173) = false := by simp; omega
  have g69 : (69 : Int) < op := by omega
  have k90e : ¬ (op : Int) ≤ 90 := by omega
  have g103e : (103 : Int) ≤ op := by omega
  have k105e : ¬ (op : Int) ≤ 105 := by omega
  have g121e : (121 : Int) ≤ op := by omega
  have k123e : ¬ (op : Int) ≤ 123 := by omega
  have g106e : (106 : Int) ≤ op := by omega
  have k138e : ¬ (op : Int) ≤ 138 := by omega
  have g192e : (192 : Int) ≤ op := by omega
  have k196e : (op : Int) ≤ 196 := by omega
  have k80 : ¬ (op : Int) < 80 := by omega
  have k121 : ¬ (op : Int) < 121 := by omega
  have k194 : (op : Int) < 194 := by omega
  go_enter Tryz.func158, Tryz.ntmps158
  go_wp2
  go_ret3
  exact ⟨_, rfl, Ints.made' _ .u8 62 [127] _ (by simp) (by decide), ((Below.refl _ _).alloc (Nat.le_refl _) _).alloc (by simp) _⟩
 ·have t_tO : tO op = 126 := (by decide +kernel : ∀ x, x < 256 → 194 ≤ x ∧ x ≤ 196 → tO x = 126) op hop hr
  have t_tQ : tQ op = 1 := (by decide +kernel : ∀ x, x < 256 → 194 ≤ x ∧ x ≤ 196 → tQ x = 1) op hop hr
  have t_tN : tN op = 1 := (by decide +kernel : ∀ x, x < 256 → 194 ≤ x ∧ x ≤ 196 → tN x = 1) op hop hr
  have t_tI : tI op = 126 := (by decide +kernel : ∀ x, x < 256 → 194 ≤ x ∧ x ≤ 196 → tI x = 126) op hop hr
  rw [t_tO, t_tQ, t_tN, t_tI]
  have e69 : ((op : Int) == 69) = false := by simp; omega
  have e80 : ((op : Int) == 80) = false := by simp; omega
  have e167 : ((op : Int) == 167) = false := by simp; omega
  have e172 : ((op : Int) == 172) = false := by simp; omega
  have e173 : ((op : Int) == 173) = false := by simp; omega
  have g69 : (69 : Int) < op := by omega
  have k90e : ¬ (op : Int) ≤ 90 := by omega
  have g103e : (103 : Int) ≤ op := by omega
  have k105e : ¬ (op : Int) ≤ 105 := by omega
  have g121e : (121 : Int) ≤ op := by omega
  have k123e : ¬ (op : Int) ≤ 123 := by omega
  have g106e : (106 : Int) ≤ op := by omega
  have k138e : ¬ (op : Int) ≤ 138 := by omega
  have g192e : (192 : Int) ≤ op := by omega
  have k196e : (op : Int) ≤ 196 := by omega
  have k80 : ¬ (op : Int) < 80 := by omega
  have k121 : ¬ (op : Int) < 121 := by omega
  have k194 : ¬ (op : Int) < 194 := by omega
  go_enter Tryz.func158, Tryz.ntmps158
  go_wp2
  go_ret3
  exact ⟨_, rfl, Ints.made' _ .u8 62 [126] _ (by simp) (by decide), ((Below.refl _ _).alloc (Nat.le_refl _) _).alloc (by simp) _⟩
 ·have t_tO : tO op = 0 := (by decide +kernel : ∀ x, x < 256 → 197 ≤ x ∧ x ≤ 255 → tO x = 0) op hop hr
  have t_tQ : tQ op = 0 := (by decide +kernel : ∀ x, x < 256 → 197 ≤ x ∧ x ≤ 255 → tQ x = 0) op hop hr
  have t_tN : tN op = 0 := (by decide +kernel : ∀ x, x < 256 → 197 ≤ x ∧ x ≤ 255 → tN x = 0) op hop hr
  have t_tI : tI op = 0 := (by decide +kernel : ∀ x, x < 256 → 197 ≤ x ∧ x ≤ 255 → tI x = 0) op hop hr
  rw [t_tO, t_tQ, t_tN, t_tI]
  have e69 : ((op : Int) == 69) = false := by simp; omega
  have e80 : ((op : Int) == 80) = false := by simp; omega
  have e167 : ((op : Int) == 167) = false := by simp; omega
  have e172 : ((op : Int) == 172) = false := by simp; omega
  have e173 : ((op : Int) == 173) = false := by simp; omega
  have g69 : (69 : Int) < op := by omega
  have k90e : ¬ (op : Int) ≤ 90 := by omega
  have g103e : (103 : Int) ≤ op := by omega
  have k105e : ¬ (op : Int) ≤ 105 := by omega
  have g121e : (121 : Int) ≤ op := by omega
  have k123e : ¬ (op : Int) ≤ 123 := by omega
  have g106e : (106 : Int) ≤ op := by omega
  have k138e : ¬ (op : Int) ≤ 138 := by omega
  have g192e : (192 : Int) ≤ op := by omega
  have k196e : ¬ (op : Int) ≤ 196 := by omega
  have k80 : ¬ (op : Int) < 80 := by omega
  have k121 : ¬ (op : Int) < 121 := by omega
  have k194 : ¬ (op : Int) < 194 := by omega
  go_enter Tryz.func158, Tryz.ntmps158
  go_wp2
  go_ret3
  exact ⟨_, rfl, ⟨none, 0, rfl, by simp, by simp, by simp, .inl rfl⟩, (Below.refl _ _).alloc (Nat.le_refl _) _⟩

set_option maxRecDepth 100000 in
set_option maxHeartbeats 16000000 in
theorem besides_any (op : Nat) (hop : op < 256) (w : World) :
  Calls Tryz.prog 147 #[.int .u8 op] w fun e w' => e = .returned (.int .i64 (tB op : Nat)) ∧ Below w.heap.size w w' := by
 rcases (by omega : (0 ≤ op ∧ op ≤ 1) ∨ (2 ≤ op ∧ op ≤ 2) ∨ (3 ≤ op ∧ op ≤ 3) ∨ (4 ≤ op ∧ op ≤ 4) ∨ (5 ≤ op ∧ op ≤ 5) ∨ (6 ≤ op ∧ op ≤ 10) ∨ (11 ≤ op ∧ op ≤ 11) ∨ (12 ≤ op ∧ op ≤ 12) ∨ (13 ≤ op ∧ op ≤ 13) ∨ (14 ≤ op ∧ op ≤ 14) ∨ (15 ≤ op ∧ op ≤ 15) ∨ (16 ≤ op ∧ op ≤ 16) ∨ (17 ≤ op ∧ op ≤ 17) ∨ (18 ≤ op ∧ op ≤ 25) ∨ (26 ≤ op ∧ op ≤ 26) ∨ (27 ≤ op ∧ op ≤ 27) ∨ (28 ≤ op ∧ op ≤ 31) ∨ (32 ≤ op ∧ op ≤ 36) ∨ (37 ≤ op ∧ op ≤ 39) ∨ (40 ≤ op ∧ op ≤ 41) ∨ (42 ≤ op ∧ op ≤ 43) ∨ (44 ≤ op ∧ op ≤ 55) ∨ (56 ≤ op ∧ op ≤ 57) ∨ (58 ≤ op ∧ op ≤ 62) ∨ (63 ≤ op ∧ op ≤ 63) ∨ (64 ≤ op ∧ op ≤ 64) ∨ (65 ≤ op ∧ op ≤ 65) ∨ (66 ≤ op ∧ op ≤ 66) ∨ (67 ≤ op ∧ op ≤ 68) ∨ (69 ≤ op ∧ op ≤ 90) ∨ (91 ≤ op ∧ op ≤ 102) ∨ (103 ≤ op ∧ op ≤ 138) ∨ (139 ≤ op ∧ op ≤ 166) ∨ (167 ≤ op ∧ op ≤ 167) ∨ (168 ≤ op ∧ op ≤ 171) ∨ (172 ≤ op ∧ op ≤ 173) ∨ (174 ≤ op ∧ op ≤ 191) ∨ (192 ≤ op ∧ op ≤ 196) ∨ (197 ≤ op ∧ op ≤ 255)) with hr | hr | hr | hr | hr | hr | hr | hr | hr | hr | hr | hr | hr | hr | hr | hr | hr | hr | hr | hr | hr | hr | hr | hr | hr | hr | hr | hr | hr | hr | hr | hr | hr | hr | hr | hr | hr | hr | hr
 ·have t_tB : tB op = 1 := (by decide +kernel : ∀ x, x < 256 → 0 ≤ x ∧ x ≤ 1 → tB x = 1) op hop hr
  rw [t_tB]
  have e2 : ((op : Int) == 2) = false := by simp; omega
  have e3 : ((op : Int) == 3) = false := by simp; omega
  have e4 : ((op : Int) == 4) = false := by simp; omega
  have e5 : ((op : Int) == 5) = false := by simp; omega
  have e11 : ((op : Int) == 11) = false := by simp; omega
  have e12 : ((op : Int) == 12) = false := by simp; omega
  have e13 : ((op : Int) == 13) = false := by simp; omega
  have e14 : ((op : Int) == 14) = false := by simp; omega
  have e15 : ((op : Int) == 15) = false := by simp; omega
  have e16 : ((op : Int) == 16) = false := by simp; omega
  have e17 : ((op : Int) == 17) = false := by simp; omega
  have e26 : ((op : Int) == 26) = false := by simp; omega
  have e27 : ((op : Int) == 27) = false := by simp; omega
  have e63 : ((op : Int) == 63) = false := by simp; omega
  have e64 : ((op : Int) == 64) = false := by simp; omega
  have e65 : ((op : Int) == 65) = false := by simp; omega
  have e66 : ((op : Int) == 66) = false := by simp; omega
  have g32e : ¬ (32 : Int) ≤ op := by omega
  have k36e : (op : Int) ≤ 36 := by omega
  have k1e : (op : Int) ≤ 1 := by omega
  have HW := hid (fun w2 => width_any op hop w2)
  rw [(by decide +kernel : ∀ x, x < 256 → 0 ≤ x ∧ x ≤ 1 → tW x = 0) op hop hr] at HW
  go_enter Tryz.func147, Tryz.ntmps147
  go_wp2_with (first | (go_at_call 157; refine (HW.out _).mono ?_; rintro r w1 ⟨rfl, rfl⟩) | (go_at_call 158; refine (HN.out _).mono ?_; rintro r w2 ⟨v, rfl, hk, hb⟩; have B2 := hid hb; clear hk hb))
  go_ret
  exact ⟨rfl, Below.refl _ _⟩
 ·have t_tB : tB op = 2 := (by decide +kernel : ∀ x, x < 256 → 2 ≤ x ∧ x ≤ 2 → tB x = 2) op hop hr
  rw [t_tB]
  obtain rfl : op = 2 := by omega
  go_enter Tryz.func147, Tryz.ntmps147
  go_wp2_with (first | (go_at_call 157; refine (HW.out _).mono ?_; rintro r w1 ⟨rfl, rfl⟩) | (go_at_call 158; refine (HN.out _).mono ?_; rintro r w2 ⟨v, rfl, hk, hb⟩; have B2 := hid hb; clear hk hb))
  go_ret
  exact ⟨rfl, Below.refl _ _⟩
 ·have t_tB : tB op = 2 := (by decide +kernel : ∀ x, x < 256 → 3 ≤ x ∧ x ≤ 3 → tB x = 2) op hop hr
  rw [t_tB]
  obtain rfl : op = 3 := by omega
  go_enter Tryz.func147, Tryz.ntmps147
  go_wp2_with (first | (go_at_call 157; refine (HW.out _).mono ?_; rintro r w1 ⟨rfl, rfl⟩) | (go_at_call 158; refine (HN.out _).mono ?_; rintro r w2 ⟨v, rfl, hk, hb⟩; have B2 := hid hb; clear hk hb))
  go_ret
  exact ⟨rfl, Below.refl _ _⟩
 ·have t_tB : tB op = 2 := (by decide +kernel : ∀ x, x < 256 → 4 ≤ x ∧ x ≤ 4 → tB x = 2) op hop hr
  rw [t_tB]
  obtain rfl : op = 4 := by omega
  go_enter Tryz.func147, Tryz.ntmps147
  go_wp2_with (first | (go_at_call 157; refine (HW.out _).mono ?_; rintro r w1 ⟨rfl, rfl⟩) | (go_at_call 158; refine (HN.out _).mono ?_; rintro r w2 ⟨v, rfl, hk, hb⟩; have B2 := hid hb; clear hk hb))
  go_ret
  exact ⟨rfl, Below.refl _ _⟩
 ·have t_tB : tB op = 1 := (by decide +kernel : ∀ x, x < 256 → 5 ≤ x ∧ x ≤ 5 → tB x = 1) op hop hr
  rw [t_tB]
  obtain rfl : op = 5 := by omega
  have HW := hid (fun w2 => width_any 5 (by decide) w2)
  rw [show tW 5 = 0 from rfl] at HW
  go_enter Tryz.func147, Tryz.ntmps147
  go_wp2_with (first | (go_at_call 157; refine (HW.out _).mono ?_; rintro r w1 ⟨rfl, rfl⟩) | (go_at_call 158; refine (HN.out _).mono ?_; rintro r w2 ⟨v, rfl, hk, hb⟩; have B2 := hid hb; clear hk hb))
  go_ret
  exact ⟨rfl, Below.refl _ _⟩
 ·have t_tB : tB op = 0 := (by decide +kernel : ∀ x, x < 256 → 6 ≤ x ∧ x ≤ 10 → tB x = 0) op hop hr
  rw [t_tB]
  have e2 : ((op : Int) == 2) = false := by simp; omega
  have e3 : ((op : Int) == 3) = false := by simp; omega
  have e4 : ((op : Int) == 4) = false := by simp; omega
  have e5 : ((op : Int) == 5) = false := by simp; omega
  have e11 : ((op : Int) == 11) = false := by simp; omega
  have e12 : ((op : Int) == 12) = false := by simp; omega
  have e13 : ((op : Int) == 13) = false := by simp; omega
  have e14 : ((op : Int) == 14) = false := by simp; omega
  have e15 : ((op : Int) == 15) = false := by simp; omega
  have e16 : ((op : Int) == 16) = false := by simp; omega
  have e17 : ((op : Int) == 17) = false := by simp; omega
  have e26 : ((op : Int) == 26) = false := by simp; omega
  have e27 : ((op : Int) == 27) = false := by simp; omega
  have e63 : ((op : Int) == 63) = false := by simp; omega
  have e64 : ((op : Int) == 64) = false := by simp; omega
  have e65 : ((op : Int) == 65) = false := by simp; omega
  have e66 : ((op : Int) == 66) = false := by simp; omega
  have g32e : ¬ (32 : Int) ≤ op := by omega
  have k36e : (op : Int) ≤ 36 := by omega
  have k1e : ¬ (op : Int) ≤ 1 := by omega
  have HW := hid (fun w2 => width_any op hop w2)
  rw [(by decide +kernel : ∀ x, x < 256 → 6 ≤ x ∧ x ≤ 10 → tW x = 0) op hop hr] at HW
  have HN := hid (fun w2 => numeric_any op hop w2)
  rw [show decide (tQ op = 1) = false from by rw [(by decide +kernel : ∀ x, x < 256 → 6 ≤ x ∧ x ≤ 10 → tQ x = 0) op hop hr]; rfl] at HN
  go_enter Tryz.func147, Tryz.ntmps147
  go_wp2_with (first | (go_at_call 157; refine (HW.out _).mono ?_; rintro r w1 ⟨rfl, rfl⟩) | (go_at_call 158; refine (HN.out _).mono ?_; rintro r w2 ⟨v, rfl, hk, hb⟩; have B2 := hid hb; clear hk hb))
  go_ret
  exact ⟨rfl, B2.out⟩
 ·have t_tB : tB op = 1 := (by decide +kernel : ∀ x, x < 256 → 11 ≤ x ∧ x ≤ 11 → tB x = 1) op hop hr
  rw [t_tB]
  obtain rfl : op = 11 := by omega
  have HW := hid (fun w2 => width_any 11 (by decide) w2)
  rw [show tW 11 = 0 from rfl] at HW
  go_enter Tryz.func147, Tryz.ntmps147
  go_wp2_with (first | (go_at_call 157; refine (HW.out _).mono ?_; rintro r w1 ⟨rfl, rfl⟩) | (go_at_call 158; refine (HN.out _).mono ?_; rintro r w2 ⟨v, rfl, hk, hb⟩; have B2 := hid hb; clear hk hb))
  go_ret
  exact ⟨rfl, Below.refl _ _⟩
 ·have t_tB : tB op = 3 := (by decide +kernel : ∀ x, x < 256 → 12 ≤ x ∧ x ≤ 12 → tB x = 3) op hop hr
  rw [t_tB]
  obtain rfl : op = 12 := by omega
  go_enter Tryz.func147, Tryz.ntmps147
  go_wp2_with (first | (go_at_call 157; refine (HW.out _).mono ?_; rintro r w1 ⟨rfl, rfl⟩) | (go_at_call 158; refine (HN.out _).mono ?_; rintro r w2 ⟨v, rfl, hk, hb⟩; have B2 := hid hb; clear hk hb))
  go_ret
  exact ⟨rfl, Below.refl _ _⟩
 ·have t_tB : tB op = 3 := (by decide +kernel : ∀ x, x < 256 → 13 ≤ x ∧ x ≤ 13 → tB x = 3) op hop hr
  rw [t_tB]
  obtain rfl : op = 13 := by omega
  go_enter Tryz.func147, Tryz.ntmps147
  go_wp2_with (first | (go_at_call 157; refine (HW.out _).mono ?_; rintro r w1 ⟨rfl, rfl⟩) | (go_at_call 158; refine (HN.out _).mono ?_; rintro r w2 ⟨v, rfl, hk, hb⟩; have B2 := hid hb; clear hk hb))
  go_ret
  exact ⟨rfl, Below.refl _ _⟩
 ·have t_tB : tB op = 4 := (by decide +kernel : ∀ x, x < 256 → 14 ≤ x ∧ x ≤ 14 → tB x = 4) op hop hr
  rw [t_tB]
  obtain rfl : op = 14 := by omega
  go_enter Tryz.func147, Tryz.ntmps147
  go_wp2_with (first | (go_at_call 157; refine (HW.out _).mono ?_; rintro r w1 ⟨rfl, rfl⟩) | (go_at_call 158; refine (HN.out _).mono ?_; rintro r w2 ⟨v, rfl, hk, hb⟩; have B2 := hid hb; clear hk hb))
  go_ret
  exact ⟨rfl, Below.refl _ _⟩
 ·have t_tB : tB op = 1 := (by decide +kernel : ∀ x, x < 256 → 15 ≤ x ∧ x ≤ 15 → tB x = 1) op hop hr
  rw [t_tB]
  obtain rfl : op = 15 := by omega
  have HW := hid (fun w2 => width_any 15 (by decide) w2)
  rw [show tW 15 = 0 from rfl] at HW
  go_enter Tryz.func147, Tryz.ntmps147
  go_wp2_with (first | (go_at_call 157; refine (HW.out _).mono ?_; rintro r w1 ⟨rfl, rfl⟩) | (go_at_call 158; refine (HN.out _).mono ?_; rintro r w2 ⟨v, rfl, hk, hb⟩; have B2 := hid hb; clear hk hb))
  go_ret
  exact ⟨rfl, Below.refl _ _⟩
 ·have t_tB : tB op = 3 := (by decide +kernel : ∀ x, x < 256 → 16 ≤ x ∧ x ≤ 16 → tB x = 3) op hop hr
  rw [t_tB]
  obtain rfl : op = 16 := by omega
  go_enter Tryz.func147, Tryz.ntmps147
  go_wp2_with (first | (go_at_call 157; refine (HW.out _).mono ?_; rintro r w1 ⟨rfl, rfl⟩) | (go_at_call 158; refine (HN.out _).mono ?_; rintro r w2 ⟨v, rfl, hk, hb⟩; have B2 := hid hb; clear hk hb))
  go_ret
  exact ⟨rfl, Below.refl _ _⟩
 ·have t_tB : tB op = 5 := (by decide +kernel : ∀ x, x < 256 → 17 ≤ x ∧ x ≤ 17 → tB x = 5) op hop hr
  rw [t_tB]
  obtain rfl : op = 17 := by omega
  go_enter Tryz.func147, Tryz.ntmps147
  go_wp2_with (first | (go_at_call 157; refine (HW.out _).mono ?_; rintro r w1 ⟨rfl, rfl⟩) | (go_at_call 158; refine (HN.out _).mono ?_; rintro r w2 ⟨v, rfl, hk, hb⟩; have B2 := hid hb; clear hk hb))
  go_ret
  exact ⟨rfl, Below.refl _ _⟩
 ·have t_tB : tB op = 0 := (by decide +kernel : ∀ x, x < 256 → 18 ≤ x ∧ x ≤ 25 → tB x = 0) op hop hr
  rw [t_tB]
  have e2 : ((op : Int) == 2) = false := by simp; omega
  have e3 : ((op : Int) == 3) = false := by simp; omega
  have e4 : ((op : Int) == 4) = false := by simp; omega
  have e5 : ((op : Int) == 5) = false := by simp; omega
  have e11 : ((op : Int) == 11) = false := by simp; omega
  have e12 : ((op : Int) == 12) = false := by simp; omega
  have e13 : ((op : Int) == 13) = false := by simp; omega
  have e14 : ((op : Int) == 14) = false := by simp; omega
  have e15 : ((op : Int) == 15) = false := by simp; omega
  have e16 : ((op : Int) == 16) = false := by simp; omega
  have e17 : ((op : Int) == 17) = false := by simp; omega
  have e26 : ((op : Int) == 26) = false := by simp; omega
  have e27 : ((op : Int) == 27) = false := by simp; omega
  have e63 : ((op : Int) == 63) = false := by simp; omega
  have e64 : ((op : Int) == 64) = false := by simp; omega
  have e65 : ((op : Int) == 65) = false := by simp; omega
  have e66 : ((op : Int) == 66) = false := by simp; omega
  have g32e : ¬ (32 : Int) ≤ op := by omega
  have k36e : (op : Int) ≤ 36 := by omega
  have k1e : ¬ (op : Int) ≤ 1 := by omega
  have HW := hid (fun w2 => width_any op hop w2)
  rw [(by decide +kernel : ∀ x, x < 256 → 18 ≤ x ∧ x ≤ 25 → tW x = 0) op hop hr] at HW
  have HN := hid (fun w2 => numeric_any op hop w2)
  rw [show decide (tQ op = 1) = false from by rw [(by decide +kernel : ∀ x, x < 256 → 18 ≤ x ∧ x ≤ 25 → tQ x = 0) op hop hr]; rfl] at HN
  go_enter Tryz.func147, Tryz.ntmps147
  go_wp2_with (first | (go_at_call 157; refine (HW.out _).mono ?_; rintro r w1 ⟨rfl, rfl⟩) | (go_at_call 158; refine (HN.out _).mono ?_; rintro r w2 ⟨v, rfl, hk, hb⟩; have B2 := hid hb; clear hk hb))
  go_ret
  exact ⟨rfl, B2.out⟩
 ·have t_tB : tB op = 1 := (by decide +kernel : ∀ x, x < 256 → 26 ≤ x ∧ x ≤ 26 → tB x = 1) op hop hr
  rw [t_tB]
  obtain rfl : op = 26 := by omega
  have HW := hid (fun w2 => width_any 26 (by decide) w2)
  rw [show tW 26 = 0 from rfl] at HW
  go_enter Tryz.func147, Tryz.ntmps147
  go_wp2_with (first | (go_at_call 157; refine (HW.out _).mono ?_; rintro r w1 ⟨rfl, rfl⟩) | (go_at_call 158; refine (HN.out _).mono ?_; rintro r w2 ⟨v, rfl, hk, hb⟩; have B2 := hid hb; clear hk hb))
  go_ret
  exact ⟨rfl, Below.refl _ _⟩
 ·have t_tB : tB op = 1 := (by decide +kernel : ∀ x, x < 256 → 27 ≤ x ∧ x ≤ 27 → tB x = 1) op hop hr
  rw [t_tB]
  obtain rfl : op = 27 := by omega
  have HW := hid (fun w2 => width_any 27 (by decide) w2)
  rw [show tW 27 = 0 from rfl] at HW
  go_enter Tryz.func147, Tryz.ntmps147
  go_wp2_with (first | (go_at_call 157; refine (HW.out _).mono ?_; rintro r w1 ⟨rfl, rfl⟩) | (go_at_call 158; refine (HN.out _).mono ?_; rintro r w2 ⟨v, rfl, hk, hb⟩; have B2 := hid hb; clear hk hb))
  go_ret
  exact ⟨rfl, Below.refl _ _⟩
 ·have t_tB : tB op = 0 := (by decide +kernel : ∀ x, x < 256 → 28 ≤ x ∧ x ≤ 31 → tB x = 0) op hop hr
  rw [t_tB]
  have e2 : ((op : Int) == 2) = false := by simp; omega
  have e3 : ((op : Int) == 3) = false := by simp; omega
  have e4 : ((op : Int) == 4) = false := by simp; omega
  have e5 : ((op : Int) == 5) = false := by simp; omega
  have e11 : ((op : Int) == 11) = false := by simp; omega
  have e12 : ((op : Int) == 12) = false := by simp; omega
  have e13 : ((op : Int) == 13) = false := by simp; omega
  have e14 : ((op : Int) == 14) = false := by simp; omega
  have e15 : ((op : Int) == 15) = false := by simp; omega
  have e16 : ((op : Int) == 16) = false := by simp; omega
  have e17 : ((op : Int) == 17) = false := by simp; omega
  have e26 : ((op : Int) == 26) = false := by simp; omega
  have e27 : ((op : Int) == 27) = false := by simp; omega
  have e63 : ((op : Int) == 63) = false := by simp; omega
  have e64 : ((op : Int) == 64) = false := by simp; omega
  have e65 : ((op : Int) == 65) = false := by simp; omega
  have e66 : ((op : Int) == 66) = false := by simp; omega
  have g32e : ¬ (32 : Int) ≤ op := by omega
  have k36e : (op : Int) ≤ 36 := by omega
  have k1e : ¬ (op : Int) ≤ 1 := by omega
  have HW := hid (fun w2 => width_any op hop w2)
  rw [(by decide +kernel : ∀ x, x < 256 → 28 ≤ x ∧ x ≤ 31 → tW x = 0) op hop hr] at HW
  have HN := hid (fun w2 => numeric_any op hop w2)
  rw [show decide (tQ op = 1) = false from by rw [(by decide +kernel : ∀ x, x < 256 → 28 ≤ x ∧ x ≤ 31 → tQ x = 0) op hop hr]; rfl] at HN
  go_enter Tryz.func147, Tryz.ntmps147
  go_wp2_with (first | (go_at_call 157; refine (HW.out _).mono ?_; rintro r w1 ⟨rfl, rfl⟩) | (go_at_call 158; refine (HN.out _).mono ?_; rintro r w2 ⟨v, rfl, hk, hb⟩; have B2 := hid hb; clear hk hb))
  go_ret
  exact ⟨rfl, B2.out⟩
 ·have t_tB : tB op = 3 := (by decide +kernel : ∀ x, x < 256 → 32 ≤ x ∧ x ≤ 36 → tB x = 3) op hop hr
  rw [t_tB]
  have e2 : ((op : Int) == 2) = false := by simp; omega
  have e3 : ((op : Int) == 3) = false := by simp; omega
  have e4 : ((op : Int) == 4) = false := by simp; omega
  have e5 : ((op : Int) == 5) = false := by simp; omega
  have e11 : ((op : Int) == 11) = false := by simp; omega
  have e12 : ((op : Int) == 12) = false := by simp; omega
  have e13 : ((op : Int) == 13) = false := by simp; omega
  have e14 : ((op : Int) == 14) = false := by simp; omega
  have e15 : ((op : Int) == 15) = false := by simp; omega
  have e16 : ((op : Int) == 16) = false := by simp; omega
  have e17 : ((op : Int) == 17) = false := by simp; omega
  have e26 : ((op : Int) == 26) = false := by simp; omega
  have e27 : ((op : Int) == 27) = false := by simp; omega
  have e63 : ((op : Int) == 63) = false := by simp; omega
  have e64 : ((op : Int) == 64) = false := by simp; omega
  have e65 : ((op : Int) == 65) = false := by simp; omega
  have e66 : ((op : Int) == 66) = false := by simp; omega
  have g32e : (32 : Int) ≤ op := by omega
  have k36e : (op : Int) ≤ 36 := by omega
  have k1e : ¬ (op : Int) ≤ 1 := by omega
  go_enter Tryz.func147, Tryz.ntmps147
  go_wp2_with (first | (go_at_call 157; refine (HW.out _).mono ?_; rintro r w1 ⟨rfl, rfl⟩) | (go_at_call 158; refine (HN.out _).mono ?_; rintro r w2 ⟨v, rfl, hk, hb⟩; have B2 := hid hb; clear hk hb))
  go_ret
  exact ⟨rfl, Below.refl _ _⟩
 ·have t_tB : tB op = 0 := (by decide +kernel : ∀ x, x < 256 → 37 ≤ x ∧ x ≤ 39 → tB x = 0) op hop hr
  rw [t_tB]
  have e2 : ((op : Int) == 2) = false := by simp; omega
  have e3 : ((op : Int) == 3) = false := by simp; omega
  have e4 : ((op : Int) == 4) = false := by simp; omega
  have e5 : ((op : Int) == 5) = false := by simp; omega
  have e11 : ((op : Int) == 11) = false := by simp; omega
  have e12 : ((op : Int) == 12) = false := by simp; omega
  have e13 : ((op : Int) == 13) = false := by simp; omega
  have e14 : ((op : Int) == 14) = false := by simp; omega
  have e15 : ((op : Int) == 15) = false := by simp; omega
  have e16 : ((op : Int) == 16) = false := by simp; omega
  have e17 : ((op : Int) == 17) = false := by simp; omega
  have e26 : ((op : Int) == 26) = false := by simp; omega
  have e27 : ((op : Int) == 27) = false := by simp; omega
  have e63 : ((op : Int) == 63) = false := by simp; omega
  have e64 : ((op : Int) == 64) = false := by simp; omega
  have e65 : ((op : Int) == 65) = false := by simp; omega
  have e66 : ((op : Int) == 66) = false := by simp; omega
  have g32e : (32 : Int) ≤ op := by omega
  have k36e : ¬ (op : Int) ≤ 36 := by omega
  have k1e : ¬ (op : Int) ≤ 1 := by omega
  have HW := hid (fun w2 => width_any op hop w2)
  rw [(by decide +kernel : ∀ x, x < 256 → 37 ≤ x ∧ x ≤ 39 → tW x = 0) op hop hr] at HW
  have HN := hid (fun w2 => numeric_any op hop w2)
  rw [show decide (tQ op = 1) = false from by rw [(by decide +kernel : ∀ x, x < 256 → 37 ≤ x ∧ x ≤ 39 → tQ x = 0) op hop hr]; rfl] at HN
  go_enter Tryz.func147, Tryz.ntmps147
  go_wp2_with (first | (go_at_call 157; refine (HW.out _).mono ?_; rintro r w1 ⟨rfl, rfl⟩) | (go_at_call 158; refine (HN.out _).mono ?_; rintro r w2 ⟨v, rfl, hk, hb⟩; have B2 := hid hb; clear hk hb))
  go_ret
  exact ⟨rfl, B2.out⟩
 ·have t_tB : tB op = 6 := (by decide +kernel : ∀ x, x < 256 → 40 ≤ x ∧ x ≤ 41 → tB x = 6) op hop hr
  rw [t_tB]
  have e2 : ((op : Int) == 2) = false := by simp; omega
  have e3 : ((op : Int) == 3) = false := by simp; omega
  have e4 : ((op : Int) == 4) = false := by simp; omega
  have e5 : ((op : Int) == 5) = false := by simp; omega
  have e11 : ((op : Int) == 11) = false := by simp; omega
  have e12 : ((op : Int) == 12) = false := by simp; omega
  have e13 : ((op : Int) == 13) = false := by simp; omega
  have e14 : ((op : Int) == 14) = false := by simp; omega
  have e15 : ((op : Int) == 15) = false := by simp; omega
  have e16 : ((op : Int) == 16) = false := by simp; omega
  have e17 : ((op : Int) == 17) = false := by simp; omega
  have e26 : ((op : Int) == 26) = false := by simp; omega
  have e27 : ((op : Int) == 27) = false := by simp; omega
  have e63 : ((op : Int) == 63) = false := by simp; omega
  have e64 : ((op : Int) == 64) = false := by simp; omega
  have e65 : ((op : Int) == 65) = false := by simp; omega
  have e66 : ((op : Int) == 66) = false := by simp; omega
  have g32e : (32 : Int) ≤ op := by omega
  have k36e : ¬ (op : Int) ≤ 36 := by omega
  have k1e : ¬ (op : Int) ≤ 1 := by omega
  have HW := hid (fun w2 => width_any op hop w2)
  have hp : 0 < tW op := (by decide +kernel : ∀ x, x < 256 → 40 ≤ x ∧ x ≤ 41 → 0 < tW x) op hop hr
  have hp2 : (0 : Int) < (tW op : Nat) := by omega
  generalize tW op = W at *
  go_enter Tryz.func147, Tryz.ntmps147
  go_wp2_with (first | (go_at_call 157; refine (HW.out _).mono ?_; rintro r w1 ⟨rfl, rfl⟩) | (go_at_call 158; refine (HN.out _).mono ?_; rintro r w2 ⟨v, rfl, hk, hb⟩; have B2 := hid hb; clear hk hb))
  go_ret
  exact ⟨rfl, Below.refl _ _⟩
 ·have t_tB : tB op = 0 := (by decide +kernel : ∀ x, x < 256 → 42 ≤ x ∧ x ≤ 43 → tB x = 0) op hop hr
  rw [t_tB]
  have e2 : ((op : Int) == 2) = false := by simp; omega
  have e3 : ((op : Int) == 3) = false := by simp; omega
  have e4 : ((op : Int) == 4) = false := by simp; omega
  have e5 : ((op : Int) == 5) = false := by simp; omega
  have e11 : ((op : Int) == 11) = false := by simp; omega
  have e12 : ((op : Int) == 12) = false := by simp; omega
  have e13 : ((op : Int) == 13) = false := by simp; omega
  have e14 : ((op : Int) == 14) = false := by simp; omega
  have e15 : ((op : Int) == 15) = false := by simp; omega
  have e16 : ((op : Int) == 16) = false := by simp; omega
  have e17 : ((op : Int) == 17) = false := by simp; omega
  have e26 : ((op : Int) == 26) = false := by simp; omega
  have e27 : ((op : Int) == 27) = false := by simp; omega
  have e63 : ((op : Int) == 63) = false := by simp; omega
  have e64 : ((op : Int) == 64) = false := by simp; omega
  have e65 : ((op : Int) == 65) = false := by simp; omega
  have e66 : ((op : Int) == 66) = false := by simp; omega
  have g32e : (32 : Int) ≤ op := by omega
  have k36e : ¬ (op : Int) ≤ 36 := by omega
  have k1e : ¬ (op : Int) ≤ 1 := by omega
  have HW := hid (fun w2 => width_any op hop w2)
  rw [(by decide +kernel : ∀ x, x < 256 → 42 ≤ x ∧ x ≤ 43 → tW x = 0) op hop hr] at HW
  have HN := hid (fun w2 => numeric_any op hop w2)
  rw [show decide (tQ op = 1) = false from by rw [(by decide +kernel : ∀ x, x < 256 → 42 ≤ x ∧ x ≤ 43 → tQ x = 0) op hop hr]; rfl] at HN
  go_enter Tryz.func147, Tryz.ntmps147
  go_wp2_with (first | (go_at_call 157; refine (HW.out _).mono ?_; rintro r w1 ⟨rfl, rfl⟩) | (go_at_call 158; refine (HN.out _).mono ?_; rintro r w2 ⟨v, rfl, hk, hb⟩; have B2 := hid hb; clear hk hb))
  go_ret
  exact ⟨rfl, B2.out⟩
 ·have t_tB : tB op = 6 := (by decide +kernel : ∀ x, x < 256 → 44 ≤ x ∧ x ≤ 55 → tB x = 6) op hop hr
  rw [t_tB]
  have e2 : ((op : Int) == 2) = false := by simp; omega
  have e3 : ((op : Int) == 3) = false := by simp; omega
  have e4 : ((op : Int) == 4) = false := by simp; omega
  have e5 : ((op : Int) == 5) = false := by simp; omega
  have e11 : ((op : Int) == 11) = false := by simp; omega
  have e12 : ((op : Int) == 12) = false := by simp; omega
  have e13 : ((op : Int) == 13) = false := by simp; omega
  have e14 : ((op : Int) == 14) = false := by simp; omega
  have e15 : ((op : Int) == 15) = false := by simp; omega
  have e16 : ((op : Int) == 16) = false := by simp; omega
  have e17 : ((op : Int) == 17) = false := by simp; omega
  have e26 : ((op : Int) == 26) = false := by simp; omega
  have e27 : ((op : Int) == 27) = false := by simp; omega
  have e63 : ((op : Int) == 63) = false := by simp; omega
  have e64 : ((op : Int) == 64) = false := by simp; omega
  have e65 : ((op : Int) == 65) = false := by simp; omega
  have e66 : ((op : Int) == 66) = false := by simp; omega
  have g32e : (32 : Int) ≤ op := by omega
  have k36e : ¬ (op : Int) ≤ 36 := by omega
  have k1e : ¬ (op : Int) ≤ 1 := by omega
  have HW := hid (fun w2 => width_any op hop w2)
  have hp : 0 < tW op := (by decide +kernel : ∀ x, x < 256 → 44 ≤ x ∧ x ≤ 55 → 0 < tW x) op hop hr
  have hp2 : (0 : Int) < (tW op : Nat) := by omega
  generalize tW op = W at *
  go_enter Tryz.func147, Tryz.ntmps147
  go_wp2_with (first | (go_at_call 157; refine (HW.out _).mono ?_; rintro r w1 ⟨rfl, rfl⟩) | (go_at_call 158; refine (HN.out _).mono ?_; rintro r w2 ⟨v, rfl, hk, hb⟩; have B2 := hid hb; clear hk hb))
  go_ret
  exact ⟨rfl, Below.refl _ _⟩
 ·have t_tB : tB op = 0 := (by decide +kernel : ∀ x, x < 256 → 56 ≤ x ∧ x ≤ 57 → tB x = 0) op hop hr
  rw [t_tB]
  have e2 : ((op : Int) == 2) = false := by simp; omega
  have e3 : ((op : Int) == 3) = false := by simp; omega
  have e4 : ((op : Int) == 4) = false := by simp; omega
  have e5 : ((op : Int) == 5) = false := by simp; omega
  have e11 : ((op : Int) == 11) = false := by simp; omega
  have e12 : ((op : Int) == 12) = false := by simp; omega
  have e13 : ((op : Int) == 13) = false := by simp; omega
  have e14 : ((op : Int) == 14) = false := by simp; omega
  have e15 : ((op : Int) == 15) = false := by simp; omega
  have e16 : ((op : Int) == 16) = false := by simp; omega
  have e17 : ((op : Int) == 17) = false := by simp; omega
  have e26 : ((op : Int) == 26) = false := by simp; omega
  have e27 : ((op : Int) == 27) = false := by simp; omega
  have e63 : ((op : Int) == 63) = false := by simp; omega
  have e64 : ((op : Int) == 64) = false := by simp; omega
  have e65 : ((op : Int) == 65) = false := by simp; omega
  have e66 : ((op : Int) == 66) = false := by simp; omega
  have g32e : (32 : Int) ≤ op := by omega
  have k36e : ¬ (op : Int) ≤ 36 := by omega
  have k1e : ¬ (op : Int) ≤ 1 := by omega
  have HW := hid (fun w2 => width_any op hop w2)
  rw [(by decide +kernel : ∀ x, x < 256 → 56 ≤ x ∧ x ≤ 57 → tW x = 0) op hop hr] at HW
  have HN := hid (fun w2 => numeric_any op hop w2)
  rw [show decide (tQ op = 1) = false from by rw [(by decide +kernel : ∀ x, x < 256 → 56 ≤ x ∧ x ≤ 57 → tQ x = 0) op hop hr]; rfl] at HN
  go_enter Tryz.func147, Tryz.ntmps147
  go_wp2_with (first | (go_at_call 157; refine (HW.out _).mono ?_; rintro r w1 ⟨rfl, rfl⟩) | (go_at_call 158; refine (HN.out _).mono ?_; rintro r w2 ⟨v, rfl, hk, hb⟩; have B2 := hid hb; clear hk hb))
  go_ret
  exact ⟨rfl, B2.out⟩
 ·have t_tB : tB op = 6 := (by decide +kernel : ∀ x, x < 256 → 58 ≤ x ∧ x ≤ 62 → tB x = 6) op hop hr
  rw [t_tB]
  have e2 : ((op : Int) == 2) = false := by simp; omega
  have e3 : ((op : Int) == 3) = false := by simp; omega
  have e4 : ((op : Int) == 4) = false := by simp; omega
  have e5 : ((op : Int) == 5) = false := by simp; omega
  have e11 : ((op : Int) == 11) = false := by simp; omega
  have e12 : ((op : Int) == 12) = false := by simp; omega
  have e13 : ((op : Int) == 13) = false := by simp; omega
  have e14 : ((op : Int) == 14) = false := by simp; omega
  have e15 : ((op : Int) == 15) = false := by simp; omega
  have e16 : ((op : Int) == 16) = false := by simp; omega
  have e17 : ((op : Int) == 17) = false := by simp; omega
  have e26 : ((op : Int) == 26) = false := by simp; omega
  have e27 : ((op : Int) == 27) = false := by simp; omega
  have e63 : ((op : Int) == 63) = false := by simp; omega
  have e64 : ((op : Int) == 64) = false := by simp; omega
  have e65 : ((op : Int) == 65) = false := by simp; omega
  have e66 : ((op : Int) == 66) = false := by simp; omega
  have g32e : (32 : Int) ≤ op := by omega
  have k36e : ¬ (op : Int) ≤ 36 := by omega
  have k1e : ¬ (op : Int) ≤ 1 := by omega
  have HW := hid (fun w2 => width_any op hop w2)
  have hp : 0 < tW op := (by decide +kernel : ∀ x, x < 256 → 58 ≤ x ∧ x ≤ 62 → 0 < tW x) op hop hr
  have hp2 : (0 : Int) < (tW op : Nat) := by omega
  generalize tW op = W at *
  go_enter Tryz.func147, Tryz.ntmps147
  go_wp2_with (first | (go_at_call 157; refine (HW.out _).mono ?_; rintro r w1 ⟨rfl, rfl⟩) | (go_at_call 158; refine (HN.out _).mono ?_; rintro r w2 ⟨v, rfl, hk, hb⟩; have B2 := hid hb; clear hk hb))
  go_ret
  exact ⟨rfl, Below.refl _ _⟩
 ·have t_tB : tB op = 7 := (by decide +kernel : ∀ x, x < 256 → 63 ≤ x ∧ x ≤ 63 → tB x = 7) op hop hr
  rw [t_tB]
  obtain rfl : op = 63 := by omega
  have HW := hid (fun w2 => width_any 63 (by decide) w2)
  rw [show tW 63 = 0 from rfl] at HW
  go_enter Tryz.func147, Tryz.ntmps147
  go_wp2_with (first | (go_at_call 157; refine (HW.out _).mono ?_; rintro r w1 ⟨rfl, rfl⟩) | (go_at_call 158; refine (HN.out _).mono ?_; rintro r w2 ⟨v, rfl, hk, hb⟩; have B2 := hid hb; clear hk hb))
  go_ret
  exact ⟨rfl, Below.refl _ _⟩
 ·have t_tB : tB op = 7 := (by decide +kernel : ∀ x, x < 256 → 64 ≤ x ∧ x ≤ 64 → tB x = 7) op hop hr
  rw [t_tB]
  obtain rfl : op = 64 := by omega
  have HW := hid (fun w2 => width_any 64 (by decide) w2)
  rw [show tW 64 = 0 from rfl] at HW
  go_enter Tryz.func147, Tryz.ntmps147
  go_wp2_with (first | (go_at_call 157; refine (HW.out _).mono ?_; rintro r w1 ⟨rfl, rfl⟩) | (go_at_call 158; refine (HN.out _).mono ?_; rintro r w2 ⟨v, rfl, hk, hb⟩; have B2 := hid hb; clear hk hb))
  go_ret
  exact ⟨rfl, Below.refl _ _⟩
 ·have t_tB : tB op = 8 := (by decide +kernel : ∀ x, x < 256 → 65 ≤ x ∧ x ≤ 65 → tB x = 8) op hop hr
  rw [t_tB]
  obtain rfl : op = 65 := by omega
  have HW := hid (fun w2 => width_any 65 (by decide) w2)
  rw [show tW 65 = 0 from rfl] at HW
  go_enter Tryz.func147, Tryz.ntmps147
  go_wp2_with (first | (go_at_call 157; refine (HW.out _).mono ?_; rintro r w1 ⟨rfl, rfl⟩) | (go_at_call 158; refine (HN.out _).mono ?_; rintro r w2 ⟨v, rfl, hk, hb⟩; have B2 := hid hb; clear hk hb))
  go_ret
  exact ⟨rfl, Below.refl _ _⟩
 ·have t_tB : tB op = 9 := (by decide +kernel : ∀ x, x < 256 → 66 ≤ x ∧ x ≤ 66 → tB x = 9) op hop hr
  rw [t_tB]
  obtain rfl : op = 66 := by omega
  have HW := hid (fun w2 => width_any 66 (by decide) w2)
  rw [show tW 66 = 0 from rfl] at HW
  go_enter Tryz.func147, Tryz.ntmps147
  go_wp2_with (first | (go_at_call 157; refine (HW.out _).mono ?_; rintro r w1 ⟨rfl, rfl⟩) | (go_at_call 158; refine (HN.out _).mono ?_; rintro r w2 ⟨v, rfl, hk, hb⟩; have B2 := hid hb; clear hk hb))
  go_ret
  exact ⟨rfl, Below.refl _ _⟩
 ·have t_tB : tB op = 0 := (by decide +kernel : ∀ x, x < 256 → 67 ≤ x ∧ x ≤ 68 → tB x = 0) op hop hr
  rw [t_tB]
  have e2 : ((op : Int) == 2) = false := by simp; omega
  have e3 : ((op : Int) == 3) = false := by simp; omega
  have e4 : ((op : Int) == 4) = false := by simp; omega
  have e5 : ((op : Int) == 5) = false := by simp; omega
  have e11 : ((op : Int) == 11) = false := by simp; omega
  have e12 : ((op : Int) == 12) = false := by simp; omega
  have e13 : ((op : Int) == 13) = false := by simp; omega
  have e14 : ((op : Int) == 14) = false := by simp; omega
  have e15 : ((op : Int) == 15) = false := by simp; omega
  have e16 : ((op : Int) == 16) = false := by simp; omega
  have e17 : ((op : Int) == 17) = false := by simp; omega
  have e26 : ((op : Int) == 26) = false := by simp; omega
  have e27 : ((op : Int) == 27) = false := by simp; omega
  have e63 : ((op : Int) == 63) = false := by simp; omega
  have e64 : ((op : Int) == 64) = false := by simp; omega
  have e65 : ((op : Int) == 65) = false := by simp; omega
  have e66 : ((op : Int) == 66) = false := by simp; omega
  have g32e : (32 : Int) ≤ op := by omega
  have k36e : ¬ (op : Int) ≤ 36 := by omega
  have k1e : ¬ (op : Int) ≤ 1 := by omega
  have HW := hid (fun w2 => width_any op hop w2)
  rw [(by decide +kernel : ∀ x, x < 256 → 67 ≤ x ∧ x ≤ 68 → tW x = 0) op hop hr] at HW
  have HN := hid (fun w2 => numeric_any op hop w2)
  rw [show decide (tQ op = 1) = false from by rw [(by decide +kernel : ∀ x, x < 256 → 67 ≤ x ∧ x ≤ 68 → tQ x = 0) op hop hr]; rfl] at HN
  go_enter Tryz.func147, Tryz.ntmps147
  go_wp2_with (first | (go_at_call 157; refine (HW.out _).mono ?_; rintro r w1 ⟨rfl, rfl⟩) | (go_at_call 158; refine (HN.out _).mono ?_; rintro r w2 ⟨v, rfl, hk, hb⟩; have B2 := hid hb; clear hk hb))
  go_ret
  exact ⟨rfl, B2.out⟩
 ·have t_tB : tB op = 1 := (by decide +kernel : ∀ x, x < 256 → 69 ≤ x ∧ x ≤ 90 → tB x = 1) op hop hr
  rw [t_tB]
  have e2 : ((op : Int) == 2) = false := by simp; omega
  have e3 : ((op : Int) == 3) = false := by simp; omega
  have e4 : ((op : Int) == 4) = false := by simp; omega
  have e5 : ((op : Int) == 5) = false := by simp; omega
  have e11 : ((op : Int) == 11) = false := by simp; omega
  have e12 : ((op : Int) == 12) = false := by simp; omega
  have e13 : ((op : Int) == 13) = false := by simp; omega
  have e14 : ((op : Int) == 14) = false := by simp; omega
  have e15 : ((op : Int) == 15) = false := by simp; omega
  have e16 : ((op : Int) == 16) = false := by simp; omega
  have e17 : ((op : Int) == 17) = false := by simp; omega
  have e26 : ((op : Int) == 26) = false := by simp; omega
  have e27 : ((op : Int) == 27) = false := by simp; omega
  have e63 : ((op : Int) == 63) = false := by simp; omega
  have e64 : ((op : Int) == 64) = false := by simp; omega
  have e65 : ((op : Int) == 65) = false := by simp; omega
  have e66 : ((op : Int) == 66) = false := by simp; omega
  have g32e : (32 : Int) ≤ op := by omega
  have k36e : ¬ (op : Int) ≤ 36 := by omega
  have k1e : ¬ (op : Int) ≤ 1 := by omega
  have HW := hid (fun w2 => width_any op hop w2)
  rw [(by decide +kernel : ∀ x, x < 256 → 69 ≤ x ∧ x ≤ 90 → tW x = 0) op hop hr] at HW
  have HN := hid (fun w2 => numeric_any op hop w2)
  rw [show decide (tQ op = 1) = true from by rw [(by decide +kernel : ∀ x, x < 256 → 69 ≤ x ∧ x ≤ 90 → tQ x = 1) op hop hr]; rfl] at HN
  go_enter Tryz.func147, Tryz.ntmps147
  go_wp2_with (first | (go_at_call 157; refine (HW.out _).mono ?_; rintro r w1 ⟨rfl, rfl⟩) | (go_at_call 158; refine (HN.out _).mono ?_; rintro r w2 ⟨v, rfl, hk, hb⟩; have B2 := hid hb; clear hk hb))
  go_ret
  exact ⟨rfl, B2.out⟩
 ·have t_tB : tB op = 0 := (by decide +kernel : ∀ x, x < 256 → 91 ≤ x ∧ x ≤ 102 → tB x = 0) op hop hr
  rw [t_tB]
  have e2 : ((op : Int) == 2) = false := by simp; omega
  have e3 : ((op : Int) == 3) = false := by simp; omega
  have e4 : ((op : Int) == 4) = false := by simp; omega
  have e5 : ((op : Int) == 5) = false := by simp; omega
  have e11 : ((op : Int) == 11) = false := by simp; omega
  have e12 : ((op : Int) == 12) = false := by simp; omega
  have e13 : ((op : Int) == 13) = false := by simp; omega
  have e14 : ((op : Int) == 14) = false := by simp; omega
  have e15 : ((op : Int) == 15) = false := by simp; omega
  have e16 : ((op : Int) == 16) = false := by simp; omega
  have e17 : ((op : Int) == 17) = false := by simp; omega
  have e26 : ((op : Int) == 26) = false := by simp; omega
  have e27 : ((op : Int) == 27) = false := by simp; omega
  have e63 : ((op : Int) == 63) = false := by simp; omega
  have e64 : ((op : Int) == 64) = false := by simp; omega
  have e65 : ((op : Int) == 65) = false := by simp; omega
  have e66 : ((op : Int) == 66) = false := by simp; omega
  have g32e : (32 : Int) ≤ op := by omega
  have k36e : ¬ (op : Int) ≤ 36 := by omega
  have k1e : ¬ (op : Int) ≤ 1 := by omega
  have HW := hid (fun w2 => width_any op hop w2)
  rw [(by decide +kernel : ∀ x, x < 256 → 91 ≤ x ∧ x ≤ 102 → tW x = 0) op hop hr] at HW
  have HN := hid (fun w2 => numeric_any op hop w2)
  rw [show decide (tQ op = 1) = false from by rw [(by decide +kernel : ∀ x, x < 256 → 91 ≤ x ∧ x ≤ 102 → tQ x = 0) op hop hr]; rfl] at HN
  go_enter Tryz.func147, Tryz.ntmps147
  go_wp2_with (first | (go_at_call 157; refine (HW.out _).mono ?_; rintro r w1 ⟨rfl, rfl⟩) | (go_at_call 158; refine (HN.out _).mono ?_; rintro r w2 ⟨v, rfl, hk, hb⟩; have B2 := hid hb; clear hk hb))
  go_ret
  exact ⟨rfl, B2.out⟩
 ·have t_tB : tB op = 1 := (by decide +kernel : ∀ x, x < 256 → 103 ≤ x ∧ x ≤ 138 → tB x = 1) op hop hr
  rw [t_tB]
  have e2 : ((op : Int) == 2) = false := by simp; omega
  have e3 : ((op : Int) == 3) = false := by simp; omega
  have e4 : ((op : Int) == 4) = false := by simp; omega
  have e5 : ((op : Int) == 5) = false := by simp; omega
  have e11 : ((op : Int) == 11) = false := by simp; omega
  have e12 : ((op : Int) == 12) = false := by simp; omega
  have e13 : ((op : Int) == 13) = false := by simp; omega
  have e14 : ((op : Int) == 14) = false := by simp; omega
  have e15 : ((op : Int) == 15) = false := by simp; omega
  have e16 : ((op : Int) == 16) = false := by simp; omega
  have e17 : ((op : Int) == 17) = false := by simp; omega
  have e26 : ((op : Int) == 26) = false := by simp; omega
  have e27 : ((op : Int) == 27) = false := by simp; omega
  have e63 : ((op : Int) == 63) = false := by simp; omega
  have e64 : ((op : Int) == 64) = false := by simp; omega
  have e65 : ((op : Int) == 65) = false := by simp; omega
  have e66 : ((op : Int) == 66) = false := by simp; omega
  have g32e : (32 : Int) ≤ op := by omega
  have k36e : ¬ (op : Int) ≤ 36 := by omega
  have k1e : ¬ (op : Int) ≤ 1 := by omega
  have HW := hid (fun w2 => width_any op hop w2)
  rw [(by decide +kernel : ∀ x, x < 256 → 103 ≤ x ∧ x ≤ 138 → tW x = 0) op hop hr] at HW
  have HN := hid (fun w2 => numeric_any op hop w2)
  rw [show decide (tQ op = 1) = true from by rw [(by decide +kernel : ∀ x, x < 256 → 103 ≤ x ∧ x ≤ 138 → tQ x = 1) op hop hr]; rfl] at HN
  go_enter Tryz.func147, Tryz.ntmps147
  go_wp2_with (first | (go_at_call 157; refine (HW.out _).mono ?_; rintro r w1 ⟨rfl, rfl⟩) | (go_at_call 158; refine (HN.out _).mono ?_; rintro r w2 ⟨v, rfl, hk, hb⟩; have B2 := hid hb; clear hk hb))
  go_ret
  exact ⟨rfl, B2.out⟩
 ·have t_tB : tB op = 0 := (by decide +kernel : ∀ x, x < 256 → 139 ≤ x ∧ x ≤ 166 → tB x = 0) op hop hr
  rw [t_tB]
  have e2 : ((op : Int) == 2) = false := by simp; omega
  have e3 : ((op : Int) == 3) = false := by simp; omega
  have e4 : ((op : Int) == 4) = false := by simp; omega
  have e5 : ((op : Int) == 5) = false := by simp; omega
  have e11 : ((op : Int) == 11) = false := by simp; omega
  have e12 : ((op : Int) == 12) = false := by simp; omega
  have e13 : ((op : Int) == 13) = false := by simp; omega
  have e14 : ((op : Int) == 14) = false := by simp; omega
  have e15 : ((op : Int) == 15) = false := by simp; omega
  have e16 : ((op : Int) == 16) = false := by simp; omega
  have e17 : ((op : Int) == 17) = false := by simp; omega
  have e26 : ((op : Int) == 26) = false := by simp; omega
  have e27 : ((op : Int) == 27) = false := by simp; omega
  have e63 : ((op : Int) == 63) = false := by simp; omega
  have e64 : ((op : Int) == 64) = false := by simp; omega
  have e65 : ((op : Int) == 65) = false := by simp; omega
  have e66 : ((op : Int) == 66) = false := by simp; omega
  have g32e : (32 : Int) ≤ op := by omega
  have k36e : ¬ (op : Int) ≤ 36 := by omega
  have k1e : ¬ (op : Int) ≤ 1 := by omega
  have HW := hid (fun w2 => width_any op hop w2)
  rw [(by decide +kernel : ∀ x, x < 256 → 139 ≤ x ∧ x ≤ 166 → tW x = 0) op hop hr] at HW
  have HN := hid (fun w2 => numeric_any op hop w2)
  rw [show decide (tQ op = 1) = false from by rw [(by decide +kernel : ∀ x, x < 256 → 139 ≤ x ∧ x ≤ 166 → tQ x = 0) op hop hr]; rfl] at HN
  go_enter Tryz.func147, Tryz.ntmps147
  go_wp2_with (first | (go_at_call 157; refine (HW.out _).mono ?_; rintro r w1 ⟨rfl, rfl⟩) | (go_at_call 158; refine (HN.out _).mono ?_; rintro r w2 ⟨v, rfl, hk, hb⟩; have B2 := hid hb; clear hk hb))
  go_ret
  exact ⟨rfl, B2.out⟩
 ·have t_tB : tB op = 1 := (by decide +kernel : ∀ x, x < 256 → 167 ≤ x ∧ x ≤ 167 → tB x = 1) op hop hr
  rw [t_tB]
  obtain rfl : op = 167 := by omega
  have HW := hid (fun w2 => width_any 167 (by decide) w2)
  rw [show tW 167 = 0 from rfl] at HW
  have HN := hid (fun w2 => numeric_any 167 (by decide) w2)
  rw [show decide (tQ 167 = 1) = true from by rw [show tQ 167 = 1 from rfl]; rfl] at HN
  go_enter Tryz.func147, Tryz.ntmps147
  go_wp2_with (first | (go_at_call 157; refine (HW.out _).mono ?_; rintro r w1 ⟨rfl, rfl⟩) | (go_at_call 158; refine (HN.out _).mono ?_; rintro r w2 ⟨v, rfl, hk, hb⟩; have B2 := hid hb; clear hk hb))
  go_ret
  exact ⟨rfl, B2.out⟩
 ·have t_tB : tB op = 0 := (by decide +kernel : ∀ x, x < 256 → 168 ≤ x ∧ x ≤ 171 → tB x = 0) op hop hr
  rw [t_tB]
  have e2 : ((op : Int) == 2) = false := by simp; omega
  have e3 : ((op : Int) == 3) = false := by simp; omega
  have e4 : ((op : Int) == 4) = false := by simp; omega
  have e5 : ((op : Int) == 5) = false := by simp; omega
  have e11 : ((op : Int) == 11) = false := by simp; omega
  have e12 : ((op : Int) == 12) = false := by simp; omega
  have e13 : ((op : Int) == 13) = false := by simp; omega
  have e14 : ((op : Int) == 14) = false := by simp; omega
  have e15 : ((op : Int) == 15) = false := by simp; omega
  have e16 : ((op : Int) == 16) = false := by simp; omega
  have e17 : ((op : Int) == 17) = false := by simp; omega
  have e26 : ((op : Int) == 26) = false := by simp; omega
  have e27 : ((op : Int) == 27) = false := by simp; omega
  have e63 : ((op : Int) == 63) = false := by simp; omega
  have e64 : ((op : Int) == 64) = false := by simp; omega
  have e65 : ((op : Int) == 65) = false := by simp; omega
  have e66 : ((op : Int) == 66) = false := by simp; omega
  have g32e : (32 : Int) ≤ op := by omega
  have k36e : ¬ (op : Int) ≤ 36 := by omega
  have k1e : ¬ (op : Int) ≤ 1 := by omega
  have HW := hid (fun w2 => width_any op hop w2)
  rw [(by decide +kernel : ∀ x, x < 256 → 168 ≤ x ∧ x ≤ 171 → tW x = 0) op hop hr] at HW
  have HN := hid (fun w2 => numeric_any op hop w2)
  rw [show decide (tQ op = 1) = false from by rw [(by decide +kernel : ∀ x, x < 256 → 168 ≤ x ∧ x ≤ 171 → tQ x = 0) op hop hr]; rfl] at HN
  go_enter Tryz.func147, Tryz.ntmps147
  go_wp2_with (first | (go_at_call 157; refine (HW.out _).mono ?_; rintro r w1 ⟨rfl, rfl⟩) | (go_at_call 158; refine (HN.out _).mono ?_; rintro r w2 ⟨v, rfl, hk, hb⟩; have B2 := hid hb; clear hk hb))
  go_ret
  exact ⟨rfl, B2.out⟩
 ·have t_tB : tB op = 1 := (by decide +kernel : ∀ x, x < 256 → 172 ≤ x ∧ x ≤ 173 → tB x = 1) op hop hr
  rw [t_tB]
  have e2 : ((op : Int) == 2) = false := by simp; omega
  have e3 : ((op : Int) == 3) = false := by simp; omega
  have e4 : ((op : Int) == 4) = false := by simp; omega
  have e5 : ((op : Int) == 5) = false := by simp; omega
  have e11 : ((op : Int) == 11) = false := by simp; omega
  have e12 : ((op : Int) == 12) = false := by simp; omega
  have e13 : ((op : Int) == 13) = false := by simp; omega
  have e14 : ((op : Int) == 14) = false := by simp; omega
  have e15 : ((op : Int) == 15) = false := by simp; omega
  have e16 : ((op : Int) == 16) = false := by simp; omega
  have e17 : ((op : Int) == 17) = false := by simp; omega
  have e26 : ((op : Int) == 26) = false := by simp; omega
  have e27 : ((op : Int) == 27) = false := by simp; omega
  have e63 : ((op : Int) == 63) = false := by simp; omega
  have e64 : ((op : Int) == 64) = false := by simp; omega
  have e65 : ((op : Int) == 65) = false := by simp; omega
  have e66 : ((op : Int) == 66) = false := by simp; omega
  have g32e : (32 : Int) ≤ op := by omega
  have k36e : ¬ (op : Int) ≤ 36 := by omega
  have k1e : ¬ (op : Int) ≤ 1 := by omega
  have HW := hid (fun w2 => width_any op hop w2)
  rw [(by decide +kernel : ∀ x, x < 256 → 172 ≤ x ∧ x ≤ 173 → tW x = 0) op hop hr] at HW
  have HN := hid (fun w2 => numeric_any op hop w2)
  rw [show decide (tQ op = 1) = true from by rw [(by decide +kernel : ∀ x, x < 256 → 172 ≤ x ∧ x ≤ 173 → tQ x = 1) op hop hr]; rfl] at HN
  go_enter Tryz.func147, Tryz.ntmps147
  go_wp2_with (first | (go_at_call 157; refine (HW.out _).mono ?_; rintro r w1 ⟨rfl, rfl⟩) | (go_at_call 158; refine (HN.out _).mono ?_; rintro r w2 ⟨v, rfl, hk, hb⟩; have B2 := hid hb; clear hk hb))
  go_ret
  exact ⟨rfl, B2.out⟩
 ·have t_tB : tB op = 0 := (by decide +kernel : ∀ x, x < 256 → 174 ≤ x ∧ x ≤ 191 → tB x = 0) op hop hr
  rw [t_tB]
  have e2 : ((op : Int) == 2) = false := by simp; omega
  have e3 : ((op : Int) == 3) = false := by simp; omega
  have e4 : ((op : Int) == 4) = false := by simp; omega
  have e5 : ((op : Int) == 5) = false := by simp; omega
  have e11 : ((op : Int) == 11) = false := by simp; omega
  have e12 : ((op : Int) == 12) = false := by simp; omega
  have e13 : ((op : Int) == 13) = false := by simp; omega
  have e14 : ((op : Int) == 14) = false := by simp; omega
  have e15 : ((op : Int) == 15) = false := by simp; omega
  have e16 : ((op : Int) == 16) = false := by simp; omega
  have e17 : ((op : Int) == 17) = false := by simp; omega
  have e26 : ((op : Int) == 26) = false := by simp; omega
  have e27 : ((op : Int) == 27) = false := by simp; omega
  have e63 : ((op : Int) == 63) = false := by simp; omega
  have e64 : ((op : Int) == 64) = false := by simp; omega
  have e65 : ((op : Int) == 65) = false := by simp; omega
  have e66 : ((op : Int) == 66) = false := by simp; omega
  have g32e : (32 : Int) ≤ op := by omega
  have k36e : ¬ (op : Int) ≤ 36 := by omega
  have k1e : ¬ (op : Int) ≤ 1 := by omega
  have HW := hid (fun w2 => width_any op hop w2)
  rw [(by decide +kernel : ∀ x, x < 256 → 174 ≤ x ∧ x ≤ 191 → tW x = 0) op hop hr] at HW
  have HN := hid (fun w2 => numeric_any op hop w2)
  rw [show decide (tQ op = 1) = false from by rw [(by decide +kernel : ∀ x, x < 256 → 174 ≤ x ∧ x ≤ 191 → tQ x = 0) op hop hr]; rfl] at HN
  go_enter Tryz.func147, Tryz.ntmps147
  go_wp2_with (first | (go_at_call 157; refine (HW.out _).mono ?_; rintro r w1 ⟨rfl, rfl⟩) | (go_at_call 158; refine (HN.out _).mono ?_; rintro r w2 ⟨v, rfl, hk, hb⟩; have B2 := hid hb; clear hk hb))
  go_ret
  exact ⟨rfl, B2.out⟩
 ·have t_tB : tB op = 1 := (by decide +kernel : ∀ x, x < 256 → 192 ≤ x ∧ x ≤ 196 → tB x = 1) op hop hr
  rw [t_tB]
  have e2 : ((op : Int) == 2) = false := by simp; omega
  have e3 : ((op : Int) == 3) = false := by simp; omega
  have e4 : ((op : Int) == 4) = false := by simp; omega
  have e5 : ((op : Int) == 5) = false := by simp; omega
  have e11 : ((op : Int) == 11) = false := by simp; omega
  have e12 : ((op : Int) == 12) = false := by simp; omega
  have e13 : ((op : Int) == 13) = false := by simp; omega
  have e14 : ((op : Int) == 14) = false := by simp; omega
  have e15 : ((op : Int) == 15) = false := by simp; omega
  have e16 : ((op : Int) == 16) = false := by simp; omega
  have e17 : ((op : Int) == 17) = false := by simp; omega
  have e26 : ((op : Int) == 26) = false := by simp; omega
  have e27 : ((op : Int) == 27) = false := by simp; omega
  have e63 : ((op : Int) == 63) = false := by simp; omega
  have e64 : ((op : Int) == 64) = false := by simp; omega
  have e65 : ((op : Int) == 65) = false := by simp; omega
  have e66 : ((op : Int) == 66) = false := by simp; omega
  have g32e : (32 : Int) ≤ op := by omega
  have k36e : ¬ (op : Int) ≤ 36 := by omega
  have k1e : ¬ (op : Int) ≤ 1 := by omega
  have HW := hid (fun w2 => width_any op hop w2)
  rw [(by decide +kernel : ∀ x, x < 256 → 192 ≤ x ∧ x ≤ 196 → tW x = 0) op hop hr] at HW
  have HN := hid (fun w2 => numeric_any op hop w2)
  rw [show decide (tQ op = 1) = true from by rw [(by decide +kernel : ∀ x, x < 256 → 192 ≤ x ∧ x ≤ 196 → tQ x = 1) op hop hr]; rfl] at HN
  go_enter Tryz.func147, Tryz.ntmps147
  go_wp2_with (first | (go_at_call 157; refine (HW.out _).mono ?_; rintro r w1 ⟨rfl, rfl⟩) | (go_at_call 158; refine (HN.out _).mono ?_; rintro r w2 ⟨v, rfl, hk, hb⟩; have B2 := hid hb; clear hk hb))
  go_ret
  exact ⟨rfl, B2.out⟩
 ·have t_tB : tB op = 0 := (by decide +kernel : ∀ x, x < 256 → 197 ≤ x ∧ x ≤ 255 → tB x = 0) op hop hr
  rw [t_tB]
  have e2 : ((op : Int) == 2) = false := by simp; omega
  have e3 : ((op : Int) == 3) = false := by simp; omega
  have e4 : ((op : Int) == 4) = false := by simp; omega
  have e5 : ((op : Int) == 5) = false := by simp; omega
  have e11 : ((op : Int) == 11) = false := by simp; omega
  have e12 : ((op : Int) == 12) = false := by simp; omega
  have e13 : ((op : Int) == 13) = false := by simp; omega
  have e14 : ((op : Int) == 14) = false := by simp; omega
  have e15 : ((op : Int) == 15) = false := by simp; omega
  have e16 : ((op : Int) == 16) = false := by simp; omega
  have e17 : ((op : Int) == 17) = false := by simp; omega
  have e26 : ((op : Int) == 26) = false := by simp; omega
  have e27 : ((op : Int) == 27) = false := by simp; omega
  have e63 : ((op : Int) == 63) = false := by simp; omega
  have e64 : ((op : Int) == 64) = false := by simp; omega
  have e65 : ((op : Int) == 65) = false := by simp; omega
  have e66 : ((op : Int) == 66) = false := by simp; omega
  have g32e : (32 : Int) ≤ op := by omega
  have k36e : ¬ (op : Int) ≤ 36 := by omega
  have k1e : ¬ (op : Int) ≤ 1 := by omega
  have HW := hid (fun w2 => width_any op hop w2)
  rw [(by decide +kernel : ∀ x, x < 256 → 197 ≤ x ∧ x ≤ 255 → tW x = 0) op hop hr] at HW
  have HN := hid (fun w2 => numeric_any op hop w2)
  rw [show decide (tQ op = 1) = false from by rw [(by decide +kernel : ∀ x, x < 256 → 197 ≤ x ∧ x ≤ 255 → tQ x = 0) op hop hr]; rfl] at HN
  go_enter Tryz.func147, Tryz.ntmps147
  go_wp2_with (first | (go_at_call 157; refine (HW.out _).mono ?_; rintro r w1 ⟨rfl, rfl⟩) | (go_at_call 158; refine (HN.out _).mono ?_; rintro r w2 ⟨v, rfl, hk, hb⟩; have B2 := hid hb; clear hk hb))
  go_ret
  exact ⟨rfl, B2.out⟩
end Go.Proofs.YthoalneknadheaaGreatDoor
