/-
  HOST: HostNumber and Tell, both sides. No condition.
-/
import Derived.Test.YtpapblahnbeccaaHop
import Derived.Deep.RegionHeld3
namespace Go.Proofs.Ytpapblahnbeccaa
open Go.RowKit Go.Lib

set_option maxRecDepth 100000 in
set_option maxHeartbeats 2000000 in
theorem hostNumber_any (a b : Int) (w : World) (ha : -9223372036854775808 ≤ a ∧ a ≤ 9223372036854775807) (hb : -9223372036854775808 ≤ b ∧ b ≤ 9223372036854775807) :
    Calls Try.prog 61 #[.agg #[.int .i64 a, .int .i64 b]] w fun e w' => e = .returned (.int .i64 (numV a b)) ∧ Below w.heap.size w w' := by
  have HA := hid (fun w' => rest_any a 256 w' ha.1 ha.2 (by decide) (by decide))
  have HB := hid (fun w' => rest_any b 256 w' hb.1 hb.2 (by decide) (by decide))
  have hv := hid (show numV a b = a % 256 * 256 + b % 256 from rfl)
  have a0 : 0 ≤ a % 256 := by omega
  have a1 : a % 256 < 256 := by omega
  have b0 : 0 ≤ b % 256 := by omega
  have b1 : b % 256 < 256 := by omega
  generalize a % 256 = p at *
  generalize b % 256 = q at *
  have m1 : IntKind.i64.wrap (256 * p) = 256 * p := by rw [IntKind.wrap_i64]; omega
  have m2 : IntKind.i64.wrap (256 * p + q) = 256 * p + q := by rw [IntKind.wrap_i64]; omega
  have x0 : (w.alloc (.cells #[.int .i64 a, .int .i64 b] 98)).drew.cell? ⟨w.heap.size, 0, none⟩ = some (.int .i64 a) := (Blk.new w #[.int .i64 a, .int .i64 b] 98 _ rfl).cell (i := 0) rfl
  have x1 : (w.alloc (.cells #[.int .i64 a, .int .i64 b] 98)).drew.cell? ⟨w.heap.size, 1, none⟩ = some (.int .i64 b) := (Blk.new w #[.int .i64 a, .int .i64 b] 98 _ rfl).cell (i := 1) rfl
  clear ha hb
  go_enter Try.func61, Try.ntmps61
  go_wp2_with fail
  go_region_held3 (fun w' => w'.cell? ⟨w.heap.size, 0, none⟩ = some (.int .i64 a) ∧ w'.cell? ⟨w.heap.size, 1, none⟩ = some (.int .i64 b)) (first | exact ⟨x0, x1⟩ | go_keep) (first | (go_at_call 88; (with_reducible refine (HA.out _).mono ?_); rintro r w1 ⟨rfl, rfl⟩) | (go_at_call 88; (with_reducible refine (HB.out _).mono ?_); rintro r w1 ⟨rfl, rfl⟩))
  all_goals
    go_wp2_with fail
    go_ret
    exact ⟨ret1 (by rw [hv.out]; omega), drew_bel' (n := 1) ((Below.refl _ _).alloc (Nat.le_refl _) _)⟩

def headL (a b t n : Int) : List UInt8 := [byteOf t, byteOf n, byteOf b, byteOf a, 0, 0]
def tellL (a b t : Int) (s : ByteArray) : List UInt8 := headL a b t s.size ++ s.data.toList
theorem head_eq (a b t n : Int) : ([t % 256, n % 256, numV a b % 256, numV a b / 256 % 256, 0, 0] : List Int).map (fun n => UInt8.ofNat n.toNat) = headL a b t n := by
  unfold headL byteOf
  have h1 : numV a b % 256 = b % 256 := by unfold numV; omega
  have h2 : numV a b / 256 % 256 = a % 256 := by unfold numV; omega
  rw [h1, h2]
  rfl
theorem head_conv {w : World} {g : Nat} {ty : TypeId} {a b t n : Int} (h : Blk w g ty [.int .u8 (t % 256), .int .u8 (n % 256), .int .u8 (numV a b % 256), .int .u8 (numV a b / 256 % 256), .int .u8 0, .int .u8 0]) : (convert 133 9 (.slice (some ⟨g, 0, none⟩) 6 6)).run Try.prog w = .ok (.string (S (headL a b t n))) w := by
  have := conv_bytes (blk_ints (k := .u8) (xs := [t % 256, n % 256, numV a b % 256, numV a b / 256 % 256, 0, 0]) h rfl (by simp))
  rw [head_eq] at this
  exact this
theorem head_len (a b t n : Int) : (S (headL a b t n)).size = 6 := by rw [S_size]; rfl
theorem S_add (l : List UInt8) (s : ByteArray) : S l ++ s = S (l ++ s.data.toList) := by
  conv => lhs; rw [← S_of s]
  rw [S_append]
set_option maxRecDepth 100000 in
set_option maxHeartbeats 2000000 in
theorem tell_any (a b t : Int) (s : ByteArray) (w : World) (hs : s.size ≤ 140737488351232) :
    Calls Try.prog 62 #[.agg #[.int .i64 a, .int .i64 b, .int .i64 t, .string s]] w fun e w' => e = .returned (.string (S (tellL a b t s))) ∧ Below w.heap.size w w' := by
  have HN := hid (fun w' => number_any a b w')
  have X0 := hid (Blk.new w #[.int .i64 a, .int .i64 b, .int .i64 t, .string s] 100 _ rfl)
  go_enter Try.func62, Try.ntmps62
  go_wp2_with fail
  refine (HN.out _).mono ?_
  rintro e w1 ⟨rfl, hb⟩
  have X1 := hid (X0.out.below hb)
  have B1 := hid (((Below.refl w.heap.size w).alloc (Nat.le_refl _) _).trans (hb.mono (by simp)))
  clear hb
  have x0 := X1.out.cell (i := 0) rfl
  have x1 := X1.out.cell (i := 1) rfl
  have x2 := X1.out.cell (i := 2) rfl
  have x3 := X1.out.cell (i := 3) rfl
  go_wp2_with fail
  have Y := hid (Blk.new w1 #[.int .u8 (t % 256), .int .u8 ((s.size : Int) % 256), .int .u8 (numV a b % 256), .int .u8 (numV a b / 256 % 256), .int .u8 0, .int .u8 0] 209 _ rfl)
  have YC := hid (head_conv (Y.out.drew 1))
  have x3 := (X1.out.alloc (.cells #[.int .u8 (t % 256), .int .u8 ((s.size : Int) % 256), .int .u8 (numV a b % 256), .int .u8 (numV a b / 256 % 256), .int .u8 0, .int .u8 0] 209)).cell (i := 3) rfl
  have hsz : (S (headL a b t s.size)).size = 6 := head_len _ _ _ _
  have hmax : ¬ (9223372036854775807 < 6 + s.size) := by omega
  have hmax2 : ¬ (281474976710656 < 6 + s.size) := by omega
  have hT := hid (show tellL a b t s = headL a b t s.size ++ s.data.toList from rfl)
  clear x0 x1 x2
  generalize headL a b t s.size = L at *
  go_region_held3 (fun w' => (convert 133 9 (.slice (some ⟨w1.heap.size, 0, none⟩) 6 6)).run Try.prog w' = .ok (.string (S L)) w' ∧ w'.cell? ⟨w.heap.size, 3, none⟩ = some (.string s)) (first | exact ⟨YC.out, x3⟩ | go_keep) (fail)
  all_goals
    go_wp2_with fail
    go_ret
    exact ⟨by rw [hT.out, ← S_add]; rfl, drew_bel' (n := 1) (B1.out.trans ((Below.refl _ _).alloc B1.out.size _))⟩
theorem byteOf_mod (n : Int) : byteOf (n % 256) = byteOf n := by unfold byteOf; rw [Int.emod_emod_of_dvd n (Int.dvd_refl 256)]
theorem byteOf_zero : byteOf 0 = 0 := rfl
set_option maxRecDepth 100000 in
set_option maxHeartbeats 4000000 in
theorem hostTell_any (a b t : Int) (s : ByteArray) (w : World) (hs : s.size ≤ 140737488351232) (ha : -9223372036854775808 ≤ a ∧ a ≤ 9223372036854775807) (hb : -9223372036854775808 ≤ b ∧ b ≤ 9223372036854775807) :
    Calls Try.prog 63 #[.agg #[.int .i64 a, .int .i64 b, .int .i64 t, .string s]] w fun e w' => e = .returned (.string (S (tellL a b t s))) ∧ Below w.heap.size w w' := by
  have RA := hid (fun w' => rest_any a 256 w' ha.1 ha.2 (by decide) (by decide))
  have RB := hid (fun w' => rest_any b 256 w' hb.1 hb.2 (by decide) (by decide))
  have X0 := hid (Blk.new w #[.int .i64 a, .int .i64 b, .int .i64 t, .string s] 100 _ rfl)
  have D0 : Hid (Below (w.alloc (.cells #[.int .i64 a, .int .i64 b, .int .i64 t, .string s] 100)).heap.size (w.alloc (.cells #[.int .i64 a, .int .i64 b, .int .i64 t, .string s] 100)) (w.alloc (.cells #[.int .i64 a, .int .i64 b, .int .i64 t, .string s] 100)).drew) := hid (drew_bel' (n := 1) (Below.refl _ _))
  have HX : Hid (∀ w', Below (w.alloc (.cells #[.int .i64 a, .int .i64 b, .int .i64 t, .string s] 100)).heap.size (w.alloc (.cells #[.int .i64 a, .int .i64 b, .int .i64 t, .string s] 100)) w' → w'.cell? ⟨w.heap.size, 0, none⟩ = some (.int .i64 a) ∧ w'.cell? ⟨w.heap.size, 0 + 1, none⟩ = some (.int .i64 b) ∧ w'.cell? ⟨w.heap.size, 1, none⟩ = some (.int .i64 b) ∧ w'.cell? ⟨w.heap.size, 2, none⟩ = some (.int .i64 t) ∧ w'.cell? ⟨w.heap.size, 3, none⟩ = some (.string s)) :=
    hid (fun w' h => ⟨(X0.out.below h).cell (i := 0) rfl, (X0.out.below h).cell (i := 1) rfl, (X0.out.below h).cell (i := 1) rfl, (X0.out.below h).cell (i := 2) rfl, (X0.out.below h).cell (i := 3) rfl⟩)
  have hT := hid (show tellL a b t s = [byteOf t] ++ [byteOf s.size] ++ [byteOf (b % 256)] ++ [byteOf (a % 256)] ++ [byteOf 0] ++ [byteOf 0] ++ s.data.toList from by unfold tellL headL; rw [byteOf_mod, byteOf_mod, byteOf_zero]; rfl)
  clear ha hb
  generalize a % 256 = p at *
  generalize b % 256 = q at *
  have hS : ∀ x : UInt8, (S [x]).size = 1 := fun x => by rw [S_size]; rfl
  have hmax : ¬ (9223372036854775807 < 6 + s.size) := by omega
  have hmax2 : 6 + s.size ≤ 9223372036854775807 := by omega
  go_enter Try.func63, Try.ntmps63
  go_wp2_with fail
  go_region_held3 (fun w' => w'.cell? ⟨w.heap.size, 0, none⟩ = some (.int .i64 a) ∧ w'.cell? ⟨w.heap.size, 0 + 1, none⟩ = some (.int .i64 b) ∧ w'.cell? ⟨w.heap.size, 1, none⟩ = some (.int .i64 b) ∧ w'.cell? ⟨w.heap.size, 2, none⟩ = some (.int .i64 t) ∧ w'.cell? ⟨w.heap.size, 3, none⟩ = some (.string s)) (first | exact HX.out _ D0.out | go_keep) (first | (go_at_call 88; (with_reducible refine (RA.out _).mono ?_); rintro r w1 ⟨rfl, rfl⟩) | (go_at_call 88; (with_reducible refine (RB.out _).mono ?_); rintro r w1 ⟨rfl, rfl⟩) | (go_at_call 79; (with_reducible refine (chr_any _ _).mono ?_); rintro r w1 ⟨rfl, hbb⟩; have D0 := hid (D0.out.trans (hbb.mono D0.out.size)); clear hbb))
  all_goals
    go_wp2_with fail
    go_ret
    exact ⟨by rw [hT.out, ← S_add, ← S_append, ← S_append, ← S_append, ← S_append, ← S_append]; rfl, ((Below.refl w.heap.size w).alloc (Nat.le_refl _) _).trans (D0.out.mono (by simp))⟩
end Go.Proofs.Ytpapblahnbeccaa
