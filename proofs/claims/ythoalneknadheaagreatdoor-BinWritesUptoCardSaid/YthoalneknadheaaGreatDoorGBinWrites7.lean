/-
  INSTRUCTIONS: tables, and the program's Width, kindAt, numeric and besides over them. Condition: the number is a byte.
-/
import Derived.Test.YthoalneknadheaaGreatDoorGBinWrites3
import Derived.Test.YthoalneknadheaaGreatDoorGBinWrites4
namespace Go.Proofs.YthoalneknadheaaGreatDoor
open Go.RowKit Go.Lib

def tW (op : Nat) : Nat := [0, 0, 0, 0, 0, 0, 0, 0, 0, 0, 0, 0, 0, 0, 0, 0, 0, 0, 0, 0, 0, 0, 0, 0, 0, 0, 0, 0, 0, 0, 0, 0, 0, 0, 0, 0, 0, 0, 0, 0, 4, 8, 0, 0, 1, 1, 2, 2, 1, 1, 2, 2, 4, 4, 4, 8, 0, 0, 1, 2, 1, 2, 4, 0, 0, 0, 0, 0, 0, 0, 0, 0, 0, 0, 0, 0, 0, 0, 0, 0, 0, 0, 0, 0, 0, 0, 0, 0, 0, 0, 0, 0, 0, 0, 0, 0, 0, 0, 0, 0, 0, 0, 0, 0, 0, 0, 0, 0, 0, 0, 0, 0, 0, 0, 0, 0, 0, 0, 0, 0, 0, 0, 0, 0, 0, 0, 0, 0, 0, 0, 0, 0, 0, 0, 0, 0, 0, 0, 0, 0, 0, 0, 0, 0, 0, 0, 0, 0, 0, 0, 0, 0, 0, 0, 0, 0, 0, 0, 0, 0, 0, 0, 0, 0, 0, 0, 0, 0, 0, 0, 0, 0, 0, 0, 0, 0, 0, 0, 0, 0, 0, 0, 0, 0, 0, 0, 0, 0, 0, 0, 0, 0, 0, 0, 0, 0, 0, 0, 0, 0, 0, 0, 0, 0, 0, 0, 0, 0, 0, 0, 0, 0, 0, 0, 0, 0, 0, 0, 0, 0, 0, 0, 0, 0, 0, 0, 0, 0, 0, 0, 0, 0, 0, 0, 0, 0, 0, 0, 0, 0, 0, 0, 0, 0, 0, 0, 0, 0, 0, 0, 0, 0, 0, 0, 0, 0].getD op 0
def tB (op : Nat) : Nat := [1, 1, 2, 2, 2, 1, 0, 0, 0, 0, 0, 1, 3, 3, 4, 1, 3, 5, 0, 0, 0, 0, 0, 0, 0, 0, 1, 1, 0, 0, 0, 0, 3, 3, 3, 3, 3, 0, 0, 0, 6, 6, 0, 0, 6, 6, 6, 6, 6, 6, 6, 6, 6, 6, 6, 6, 0, 0, 6, 6, 6, 6, 6, 7, 7, 8, 9, 0, 0, 1, 1, 1, 1, 1, 1, 1, 1, 1, 1, 1, 1, 1, 1, 1, 1, 1, 1, 1, 1, 1, 1, 0, 0, 0, 0, 0, 0, 0, 0, 0, 0, 0, 0, 1, 1, 1, 1, 1, 1, 1, 1, 1, 1, 1, 1, 1, 1, 1, 1, 1, 1, 1, 1, 1, 1, 1, 1, 1, 1, 1, 1, 1, 1, 1, 1, 1, 1, 1, 1, 0, 0, 0, 0, 0, 0, 0, 0, 0, 0, 0, 0, 0, 0, 0, 0, 0, 0, 0, 0, 0, 0, 0, 0, 0, 0, 0, 0, 1, 0, 0, 0, 0, 1, 1, 0, 0, 0, 0, 0, 0, 0, 0, 0, 0, 0, 0, 0, 0, 0, 0, 0, 0, 1, 1, 1, 1, 1, 0, 0, 0, 0, 0, 0, 0, 0, 0, 0, 0, 0, 0, 0, 0, 0, 0, 0, 0, 0, 0, 0, 0, 0, 0, 0, 0, 0, 0, 0, 0, 0, 0, 0, 0, 0, 0, 0, 0, 0, 0, 0, 0, 0, 0, 0, 0, 0, 0, 0, 0, 0, 0, 0, 0, 0, 0, 0, 0].getD op 0
def tN (op : Nat) : Nat := [0, 0, 0, 0, 0, 0, 0, 0, 0, 0, 0, 0, 0, 0, 0, 0, 0, 0, 0, 0, 0, 0, 0, 0, 0, 0, 0, 0, 0, 0, 0, 0, 0, 0, 0, 0, 0, 0, 0, 0, 0, 0, 0, 0, 0, 0, 0, 0, 0, 0, 0, 0, 0, 0, 0, 0, 0, 0, 0, 0, 0, 0, 0, 0, 0, 0, 0, 0, 0, 1, 2, 2, 2, 2, 2, 2, 2, 2, 2, 2, 1, 2, 2, 2, 2, 2, 2, 2, 2, 2, 2, 0, 0, 0, 0, 0, 0, 0, 0, 0, 0, 0, 0, 1, 1, 1, 2, 2, 2, 2, 2, 2, 2, 2, 2, 2, 2, 2, 2, 2, 2, 1, 1, 1, 2, 2, 2, 2, 2, 2, 2, 2, 2, 2, 2, 2, 2, 2, 2, 0, 0, 0, 0, 0, 0, 0, 0, 0, 0, 0, 0, 0, 0, 0, 0, 0, 0, 0, 0, 0, 0, 0, 0, 0, 0, 0, 0, 1, 0, 0, 0, 0, 1, 1, 0, 0, 0, 0, 0, 0, 0, 0, 0, 0, 0, 0, 0, 0, 0, 0, 0, 0, 1, 1, 1, 1, 1, 0, 0, 0, 0, 0, 0, 0, 0, 0, 0, 0, 0, 0, 0, 0, 0, 0, 0, 0, 0, 0, 0, 0, 0, 0, 0, 0, 0, 0, 0, 0, 0, 0, 0, 0, 0, 0, 0, 0, 0, 0, 0, 0, 0, 0, 0, 0, 0, 0, 0, 0, 0, 0, 0, 0, 0, 0, 0, 0].getD op 0
def tI (op : Nat) : Nat := [0, 0, 0, 0, 0, 0, 0, 0, 0, 0, 0, 0, 0, 0, 0, 0, 0, 0, 0, 0, 0, 0, 0, 0, 0, 0, 0, 0, 0, 0, 0, 0, 0, 0, 0, 0, 0, 0, 0, 0, 0, 0, 0, 0, 0, 0, 0, 0, 0, 0, 0, 0, 0, 0, 0, 0, 0, 0, 0, 0, 0, 0, 0, 0, 0, 0, 0, 0, 0, 127, 127, 127, 127, 127, 127, 127, 127, 127, 127, 127, 126, 126, 126, 126, 126, 126, 126, 126, 126, 126, 126, 0, 0, 0, 0, 0, 0, 0, 0, 0, 0, 0, 0, 127, 127, 127, 127, 127, 127, 127, 127, 127, 127, 127, 127, 127, 127, 127, 127, 127, 127, 126, 126, 126, 126, 126, 126, 126, 126, 126, 126, 126, 126, 126, 126, 126, 126, 126, 126, 0, 0, 0, 0, 0, 0, 0, 0, 0, 0, 0, 0, 0, 0, 0, 0, 0, 0, 0, 0, 0, 0, 0, 0, 0, 0, 0, 0, 126, 0, 0, 0, 0, 127, 127, 0, 0, 0, 0, 0, 0, 0, 0, 0, 0, 0, 0, 0, 0, 0, 0, 0, 0, 127, 127, 126, 126, 126, 0, 0, 0, 0, 0, 0, 0, 0, 0, 0, 0, 0, 0, 0, 0, 0, 0, 0, 0, 0, 0, 0, 0, 0, 0, 0, 0, 0, 0, 0, 0, 0, 0, 0, 0, 0, 0, 0, 0, 0, 0, 0, 0, 0, 0, 0, 0, 0, 0, 0, 0, 0, 0, 0, 0, 0, 0, 0, 0].getD op 0
def tO (op : Nat) : Nat := [0, 0, 0, 0, 0, 0, 0, 0, 0, 0, 0, 0, 0, 0, 0, 0, 0, 0, 0, 0, 0, 0, 0, 0, 0, 0, 0, 0, 0, 0, 0, 0, 0, 0, 0, 0, 0, 0, 0, 0, 0, 0, 0, 0, 0, 0, 0, 0, 0, 0, 0, 0, 0, 0, 0, 0, 0, 0, 0, 0, 0, 0, 0, 0, 0, 0, 0, 0, 0, 127, 127, 127, 127, 127, 127, 127, 127, 127, 127, 127, 127, 127, 127, 127, 127, 127, 127, 127, 127, 127, 127, 0, 0, 0, 0, 0, 0, 0, 0, 0, 0, 0, 0, 127, 127, 127, 127, 127, 127, 127, 127, 127, 127, 127, 127, 127, 127, 127, 127, 127, 127, 126, 126, 126, 126, 126, 126, 126, 126, 126, 126, 126, 126, 126, 126, 126, 126, 126, 126, 0, 0, 0, 0, 0, 0, 0, 0, 0, 0, 0, 0, 0, 0, 0, 0, 0, 0, 0, 0, 0, 0, 0, 0, 0, 0, 0, 0, 127, 0, 0, 0, 0, 126, 126, 0, 0, 0, 0, 0, 0, 0, 0, 0, 0, 0, 0, 0, 0, 0, 0, 0, 0, 127, 127, 126, 126, 126, 0, 0, 0, 0, 0, 0, 0, 0, 0, 0, 0, 0, 0, 0, 0, 0, 0, 0, 0, 0, 0, 0, 0, 0, 0, 0, 0, 0, 0, 0, 0, 0, 0, 0, 0, 0, 0, 0, 0, 0, 0, 0, 0, 0, 0, 0, 0, 0, 0, 0, 0, 0, 0, 0, 0, 0, 0, 0, 0].getD op 0
def tQ (op : Nat) : Nat := [0, 0, 0, 0, 0, 0, 0, 0, 0, 0, 0, 0, 0, 0, 0, 0, 0, 0, 0, 0, 0, 0, 0, 0, 0, 0, 0, 0, 0, 0, 0, 0, 0, 0, 0, 0, 0, 0, 0, 0, 0, 0, 0, 0, 0, 0, 0, 0, 0, 0, 0, 0, 0, 0, 0, 0, 0, 0, 0, 0, 0, 0, 0, 0, 0, 0, 0, 0, 0, 1, 1, 1, 1, 1, 1, 1, 1, 1, 1, 1, 1, 1, 1, 1, 1, 1, 1, 1, 1, 1, 1, 0, 0, 0, 0, 0, 0, 0, 0, 0, 0, 0, 0, 1, 1, 1, 1, 1, 1, 1, 1, 1, 1, 1, 1, 1, 1, 1, 1, 1, 1, 1, 1, 1, 1, 1, 1, 1, 1, 1, 1, 1, 1, 1, 1, 1, 1, 1, 1, 0, 0, 0, 0, 0, 0, 0, 0, 0, 0, 0, 0, 0, 0, 0, 0, 0, 0, 0, 0, 0, 0, 0, 0, 0, 0, 0, 0, 1, 0, 0, 0, 0, 1, 1, 0, 0, 0, 0, 0, 0, 0, 0, 0, 0, 0, 0, 0, 0, 0, 0, 0, 0, 1, 1, 1, 1, 1, 0, 0, 0, 0, 0, 0, 0, 0, 0, 0, 0, 0, 0, 0, 0, 0, 0, 0, 0, 0, 0, 0, 0, 0, 0, 0, 0, 0, 0, 0, 0, 0, 0, 0, 0, 0, 0, 0, 0, 0, 0, 0, 0, 0, 0, 0, 0, 0, 0, 0, 0, 0, 0, 0, 0, 0, 0, 0, 0].getD op 0
abbrev Kinds (w : World) (v : Value) (xs : List Int) : Prop := L1 (Value.int .u8) w v xs

set_option maxRecDepth 100000 in
set_option maxHeartbeats 16000000 in
theorem width_any (op : Nat) (hop : op < 256) (w : World) :
    Calls Tryz.prog 157 #[.int .u8 op] w fun e w' => e = .returned (.int .i64 (tW op : Nat)) ∧ w = w' := by
  rcases (by omega : (0 ≤ op ∧ op ≤ 39) ∨ (40 ≤ op ∧ op ≤ 40) ∨ (41 ≤ op ∧ op ≤ 41) ∨ (42 ≤ op ∧ op ≤ 43) ∨ (44 ≤ op ∧ op ≤ 44) ∨ (45 ≤ op ∧ op ≤ 45) ∨ (46 ≤ op ∧ op ≤ 46) ∨ (47 ≤ op ∧ op ≤ 47) ∨ (48 ≤ op ∧ op ≤ 48) ∨ (49 ≤ op ∧ op ≤ 49) ∨ (50 ≤ op ∧ op ≤ 50) ∨ (51 ≤ op ∧ op ≤ 51) ∨ (52 ≤ op ∧ op ≤ 52) ∨ (53 ≤ op ∧ op ≤ 53) ∨ (54 ≤ op ∧ op ≤ 54) ∨ (55 ≤ op ∧ op ≤ 55) ∨ (56 ≤ op ∧ op ≤ 57) ∨ (58 ≤ op ∧ op ≤ 58) ∨ (59 ≤ op ∧ op ≤ 59) ∨ (60 ≤ op ∧ op ≤ 60) ∨ (61 ≤ op ∧ op ≤ 61) ∨ (62 ≤ op ∧ op ≤ 62) ∨ (63 ≤ op ∧ op ≤ 255)) with hr | hr | hr | hr | hr | hr | hr | hr | hr | hr | hr | hr | hr | hr | hr | hr | hr | hr | hr | hr | hr | hr | hr
  · have t_tW : tW op = 0 := (by decide +kernel : ∀ x, x < 256 → 0 ≤ x ∧ x ≤ 39 → tW x = 0) op hop hr
    rw [t_tW]
    have e40 : ((op : Int) == 40) = false := by simp; omega
    have e41 : ((op : Int) == 41) = false := by simp; omega
    have e44 : ((op : Int) == 44) = false := by simp; omega
    have e45 : ((op : Int) == 45) = false := by simp; omega
    have e46 : ((op : Int) == 46) = false := by simp; omega
    have e47 : ((op : Int) == 47) = false := by simp; omega
    have e48 : ((op : Int) == 48) = false := by simp; omega
    have e49 : ((op : Int) == 49) = false := by simp; omega
    have e50 : ((op : Int) == 50) = false := by simp; omega
    have e51 : ((op : Int) == 51) = false := by simp; omega
    have e52 : ((op : Int) == 52) = false := by simp; omega
    have e53 : ((op : Int) == 53) = false := by simp; omega
    have e54 : ((op : Int) == 54) = false := by simp; omega
    have e55 : ((op : Int) == 55) = false := by simp; omega
    have e58 : ((op : Int) == 58) = false := by simp; omega
    have e59 : ((op : Int) == 59) = false := by simp; omega
    have e60 : ((op : Int) == 60) = false := by simp; omega
    have e61 : ((op : Int) == 61) = false := by simp; omega
    have e62 : ((op : Int) == 62) = false := by simp; omega
    go_enter Tryz.func157, Tryz.ntmps157
    go_wp2_with fail
    go_ret
    exact ⟨rfl, rfl⟩
  · have t_tW : tW op = 4 := (by decide +kernel : ∀ x, x < 256 → 40 ≤ x ∧ x ≤ 40 → tW x = 4) op hop hr
    rw [t_tW]
    obtain rfl : op = 40 := by omega
    go_enter Tryz.func157, Tryz.ntmps157
    go_wp2_with fail
    go_ret
    exact ⟨rfl, rfl⟩
  · have t_tW : tW op = 8 := (by decide +kernel : ∀ x, x < 256 → 41 ≤ x ∧ x ≤ 41 → tW x = 8) op hop hr
    rw [t_tW]
    obtain rfl : op = 41 := by omega
    go_enter Tryz.func157, Tryz.ntmps157
    go_wp2_with fail
    go_ret
    exact ⟨rfl, rfl⟩
  · have t_tW : tW op = 0 := (by decide +kernel : ∀ x, x < 256 → 42 ≤ x ∧ x ≤ 43 → tW x = 0) op hop hr
    rw [t_tW]
    have e40 : ((op : Int) == 40) = false := by simp; omega
    have e41 : ((op : Int) == 41) = false := by simp; omega
    have e44 : ((op : Int) == 44) = false := by simp; omega
    have e45 : ((op : Int) == 45) = false := by simp; omega
    have e46 : ((op : Int) == 46) = false := by simp; omega
    have e47 : ((op : Int) == 47) = false := by simp; omega
    have e48 : ((op : Int) == 48) = false := by simp; omega
    have e49 : ((op : Int) == 49) = false := by simp; omega
    have e50 : ((op : Int) == 50) = false := by simp; omega
    have e51 : ((op : Int) == 51) = false := by simp; omega
    have e52 : ((op : Int) == 52) = false := by simp; omega
    have e53 : ((op : Int) == 53) = false := by simp; omega
    have e54 : ((op : Int) == 54) = false := by simp; omega
    have e55 : ((op : Int) == 55) = false := by simp; omega
    have e58 : ((op : Int) == 58) = false := by simp; omega
    have e59 : ((op : Int) == 59) = false := by simp; omega
    have e60 : ((op : Int) == 60) = false := by simp; omega
    have e61 : ((op : Int) == 61) = false := by simp; omega
    have e62 : ((op : Int) == 62) = false := by simp; omega
    go_enter Tryz.func157, Tryz.ntmps157
    go_wp2_with fail
    go_ret
    exact ⟨rfl, rfl⟩
  · have t_tW : tW op = 1 := (by decide +kernel : ∀ x, x < 256 → 44 ≤ x ∧ x ≤ 44 → tW x = 1) op hop hr
    rw [t_tW]
    obtain rfl : op = 44 := by omega
    go_enter Tryz.func157, Tryz.ntmps157
    go_wp2_with fail
    go_ret
    exact ⟨rfl, rfl⟩
  · have t_tW : tW op = 1 := (by decide +kernel : ∀ x, x < 256 → 45 ≤ x ∧ x ≤ 45 → tW x = 1) op hop hr
    rw [t_tW]
    obtain rfl : op = 45 := by omega
    go_enter Tryz.func157, Tryz.ntmps157
    go_wp2_with fail
    go_ret
    exact ⟨rfl, rfl⟩
  · have t_tW : tW op = 2 := (by decide +kernel : ∀ x, x < 256 → 46 ≤ x ∧ x ≤ 46 → tW x = 2) op hop hr
    rw [t_tW]
    obtain rfl : op = 46 := by omega
    go_enter Tryz.func157, Tryz.ntmps157
    go_wp2_with fail
    go_ret
    exact ⟨rfl, rfl⟩
  · have t_tW : tW op = 2 := (by decide +kernel : ∀ x, x < 256 → 47 ≤ x ∧ x ≤ 47 → tW x = 2) op hop hr
    rw [t_tW]
    obtain rfl : op = 47 := by omega
    go_enter Tryz.func157, Tryz.ntmps157
    go_wp2_with fail
    go_ret
    exact ⟨rfl, rfl⟩
  · have t_tW : tW op = 1 := (by decide +kernel : ∀ x, x < 256 → 48 ≤ x ∧ x ≤ 48 → tW x = 1) op hop hr
    rw [t_tW]
    obtain rfl : op = 48 := by omega
    go_enter Tryz.func157, Tryz.ntmps157
    go_wp2_with fail
    go_ret
    exact ⟨rfl, rfl⟩
  · have t_tW : tW op = 1 := (by decide +kernel : ∀ x, x < 256 → 49 ≤ x ∧ x ≤ 49 → tW x = 1) op hop hr
    rw [t_tW]
    obtain rfl : op = 49 := by omega
    go_enter Tryz.func157, Tryz.ntmps157
    go_wp2_with fail
    go_ret
    exact ⟨rfl, rfl⟩
  · have t_tW : tW op = 2 := (by decide +kernel : ∀ x, x < 256 → 50 ≤ x ∧ x ≤ 50 → tW x = 2) op hop hr
    rw [t_tW]
    obtain rfl : op = 50 := by omega
    go_enter Tryz.func157, Tryz.ntmps157
    go_wp2_with fail
    go_ret
    exact ⟨rfl, rfl⟩
  · have t_tW : tW op = 2 := (by decide +kernel : ∀ x, x < 256 → 51 ≤ x ∧ x ≤ 51 → tW x = 2) op hop hr
    rw [t_tW]
    obtain rfl : op = 51 := by omega
    go_enter Tryz.func157, Tryz.ntmps157
    go_wp2_with fail
    go_ret
    exact ⟨rfl, rfl⟩
  · have t_tW : tW op = 4 := (by decide +kernel : ∀ x, x < 256 → 52 ≤ x ∧ x ≤ 52 → tW x = 4) op hop hr
    rw [t_tW]
    obtain rfl : op = 52 := by omega
    go_enter Tryz.func157, Tryz.ntmps157
    go_wp2_with fail
    go_ret
    exact ⟨rfl, rfl⟩
  · have t_tW : tW op = 4 := (by decide +kernel : ∀ x, x < 256 → 53 ≤ x ∧ x ≤ 53 → tW x = 4) op hop hr
    rw [t_tW]
    obtain rfl : op = 53 := by omega
    go_enter Tryz.func157, Tryz.ntmps157
    go_wp2_with fail
    go_ret
    exact ⟨rfl, rfl⟩
  · have t_tW : tW op = 4 := (by decide +kernel : ∀ x, x < 256 → 54 ≤ x ∧ x ≤ 54 → tW x = 4) op hop hr
    rw [t_tW]
    obtain rfl : op = 54 := by omega
    go_enter Tryz.func157, Tryz.ntmps157
    go_wp2_with fail
    go_ret
    exact ⟨rfl, rfl⟩
  · have t_tW : tW op = 8 := (by decide +kernel : ∀ x, x < 256 → 55 ≤ x ∧ x ≤ 55 → tW x = 8) op hop hr
    rw [t_tW]
    obtain rfl : op = 55 := by omega
    go_enter Tryz.func157, Tryz.ntmps157
    go_wp2_with fail
    go_ret
    exact ⟨rfl, rfl⟩
  · have t_tW : tW op = 0 := (by decide +kernel : ∀ x, x < 256 → 56 ≤ x ∧ x ≤ 57 → tW x = 0) op hop hr
    rw [t_tW]
    have e40 : ((op : Int) == 40) = false := by simp; omega
    have e41 : ((op : Int) == 41) = false := by simp; omega
    have e44 : ((op : Int) == 44) = false := by simp; omega
    have e45 : ((op : Int) == 45) = false := by simp; omega
    have e46 : ((op : Int) == 46) = false := by simp; omega
    have e47 : ((op : Int) == 47) = false := by simp; omega
    have e48 : ((op : Int) == 48) = false := by simp; omega
    have e49 : ((op : Int) == 49) = false := by simp; omega
    have e50 : ((op : Int) == 50) = false := by simp; omega
    have e51 : ((op : Int) == 51) = false := by simp; omega
    have e52 : ((op : Int) == 52) = false := by simp; omega
    have e53 : ((op : Int) == 53) = false := by simp; omega
    have e54 : ((op : Int) == 54) = false := by simp; omega
    have e55 : ((op : Int) == 55) = false := by simp; omega
    have e58 : ((op : Int) == 58) = false := by simp; omega
    have e59 : ((op : Int) == 59) = false := by simp; omega
    have e60 : ((op : Int) == 60) = false := by simp; omega
    have e61 : ((op : Int) == 61) = false := by simp; omega
    have e62 : ((op : Int) == 62) = false := by simp; omega
    go_enter Tryz.func157, Tryz.ntmps157
    go_wp2_with fail
    go_ret
    exact ⟨rfl, rfl⟩
  · have t_tW : tW op = 1 := (by decide +kernel : ∀ x, x < 256 → 58 ≤ x ∧ x ≤ 58 → tW x = 1) op hop hr
    rw [t_tW]
    obtain rfl : op = 58 := by omega
    go_enter Tryz.func157, Tryz.ntmps157
    go_wp2_with fail
    go_ret
    exact ⟨rfl, rfl⟩
  · have t_tW : tW op = 2 := (by decide +kernel : ∀ x, x < 256 → 59 ≤ x ∧ x ≤ 59 → tW x = 2) op hop hr
    rw [t_tW]
    obtain rfl : op = 59 := by omega
    go_enter Tryz.func157, Tryz.ntmps157
    go_wp2_with fail
    go_ret
    exact ⟨rfl, rfl⟩
  · have t_tW : tW op = 1 := (by decide +kernel : ∀ x, x < 256 → 60 ≤ x ∧ x ≤ 60 → tW x = 1) op hop hr
    rw [t_tW]
    obtain rfl : op = 60 := by omega
    go_enter Tryz.func157, Tryz.ntmps157
    go_wp2_with fail
    go_ret
    exact ⟨rfl, rfl⟩
  · have t_tW : tW op = 2 := (by decide +kernel : ∀ x, x < 256 → 61 ≤ x ∧ x ≤ 61 → tW x = 2) op hop hr
    rw [t_tW]
    obtain rfl : op = 61 := by omega
    go_enter Tryz.func157, Tryz.ntmps157
    go_wp2_with fail
    go_ret
    exact ⟨rfl, rfl⟩
  · have t_tW : tW op = 4 := (by decide +kernel : ∀ x, x < 256 → 62 ≤ x ∧ x ≤ 62 → tW x = 4) op hop hr
    rw [t_tW]
    obtain rfl : op = 62 := by omega
    go_enter Tryz.func157, Tryz.ntmps157
    go_wp2_with fail
    go_ret
    exact ⟨rfl, rfl⟩
  · have t_tW : tW op = 0 := (by decide +kernel : ∀ x, x < 256 → 63 ≤ x ∧ x ≤ 255 → tW x = 0) op hop hr
    rw [t_tW]
    have e40 : ((op : Int) == 40) = false := by simp; omega
    have e41 : ((op : Int) == 41) = false := by simp; omega
    have e44 : ((op : Int) == 44) = false := by simp; omega
    have e45 : ((op : Int) == 45) = false := by simp; omega
    have e46 : ((op : Int) == 46) = false := by simp; omega
    have e47 : ((op : Int) == 47) = false := by simp; omega
    have e48 : ((op : Int) == 48) = false := by simp; omega
    have e49 : ((op : Int) == 49) = false := by simp; omega
    have e50 : ((op : Int) == 50) = false := by simp; omega
    have e51 : ((op : Int) == 51) = false := by simp; omega
    have e52 : ((op : Int) == 52) = false := by simp; omega
    have e53 : ((op : Int) == 53) = false := by simp; omega
    have e54 : ((op : Int) == 54) = false := by simp; omega
    have e55 : ((op : Int) == 55) = false := by simp; omega
    have e58 : ((op : Int) == 58) = false := by simp; omega
    have e59 : ((op : Int) == 59) = false := by simp; omega
    have e60 : ((op : Int) == 60) = false := by simp; omega
    have e61 : ((op : Int) == 61) = false := by simp; omega
    have e62 : ((op : Int) == 62) = false := by simp; omega
    go_enter Tryz.func157, Tryz.ntmps157
    go_wp2_with fail
    go_ret
    exact ⟨rfl, rfl⟩

end Go.Proofs.YthoalneknadheaaGreatDoor
