/-
  INSTRUCTIONS, the reference's: InsWidth. Conditions: the number is a byte; the variable of the library that strings.Contains reads holds some number.
-/
import Derived.Test.YtakfineljffoaaaGreatDoorGFoldSays7
namespace Go.Proofs.YtakfineljffoaaaGreatDoor
open Go.RowKit Go.Lib

set_option maxRecDepth 100000 in
set_option maxHeartbeats 4000000 in
theorem rwidth_any (op : Nat) (hop : op < 256) (w : World) (hM : MaxL w) :
    Calls Tryz.prog 166 #[.int .u8 op] w fun e w' => e = .returned (.int .i64 (tW op : Nat)) ∧ Below w.heap.size w w' := by
  have HD := hid (fun w' => digits_any op (by omega) w')
  have hl := decN_len 20 op
  have e1 : S [44] ++ S (decN 20 op) = S (44 :: decN 20 op) := S_append _ _
  have e2 : S (44 :: decN 20 op) ++ S [44] = S (wSub op) := S_append _ _
  have hz1 : ¬ 9223372036854775807 < (S [44]).size + (S (decN 20 op)).size := by rw [S_size, S_size]; simp; omega
  have hz2 : ¬ 9223372036854775807 < (S (44 :: decN 20 op)).size + (S [44]).size := by rw [S_size, S_size]; simp; omega
  have HR := hid (fun i (hi : i < 4) => row_any op hop i hi)
  have hs0 : ((⟨#[44]⟩ : ByteArray) ++ S (decN 20 op)) ++ (⟨#[44]⟩ : ByteArray) = S (wSub op) := by
    rw [show (⟨#[44]⟩ : ByteArray) = S [44] from rfl, e1, e2]
  rw [e1.symm] at hz2
  have hz1' : ¬ 9223372036854775807 < 1 + (S (decN 20 op)).size := hz1
  have hz2' : ¬ 9223372036854775807 < 1 + (S (decN 20 op)).size + 1 := by rw [S_size] at *; omega
  clear hz1 hz2 e1 e2 hl
  generalize S (decN 20 op) = DS at *
  generalize S (wSub op) = WS at *
  have HSUB := hid hs0
  clear hs0
  have hw := w_none ⟨op, hop⟩
  simp only at hw
  go_enter Tryz.func166, Tryz.ntmps166
  go_wp2_with fail
  go_loopw [11] (fun i wr => ∃ k : Nat, k ≤ 4 ∧ i = .int .i64 k ∧ Hid (∀ i, i < 4 → wr.cell? ⟨w.heap.size, 2 * i, none⟩ = some (.int .i64 (wRow i).1) ∧ wr.cell? ⟨w.heap.size, 2 * i + 1, none⟩ = some (.string (S (wRow i).2))) ∧ Hid (Below w.heap.size w wr) ∧ Hid (∀ i, i < k → tW op ≠ (wRow i).1)) (fun i _ => 4 - (RowKit.intOf i).toNat)
  case atStart =>
    refine ⟨0, by decide, rfl, hid (fun i hi => ?_), hid ((Below.refl _ _).alloc (Nat.le_refl _) _), hid (fun i hi => by omega)⟩
    have hB := Blk.new w #[.int .i64 1, .string (S (wRow 0).2), .int .i64 2, .string (S (wRow 1).2), .int .i64 4, .string (S (wRow 2).2), .int .i64 8, .string (S (wRow 3).2)] 219 _ rfl
    rcases (by omega : i = 0 ∨ i = 1 ∨ i = 2 ∨ i = 3) with rfl | rfl | rfl | rfl
    · exact ⟨hB.cell (i := 0) rfl, hB.cell (i := 1) rfl⟩
    · exact ⟨hB.cell (i := 2) rfl, hB.cell (i := 3) rfl⟩
    · exact ⟨hB.cell (i := 4) rfl, hB.cell (i := 5) rfl⟩
    · exact ⟨hB.cell (i := 6) rfl, hB.cell (i := 7) rfl⟩
  case round =>
    obtain ⟨k, hk, rfl, HC, HB, HN⟩ := hrel
    have hsz : w.heap.size < wr.heap.size := by
      have h0 := (HC.out 0 (by decide)).1
      rcases Nat.lt_or_ge w.heap.size wr.heap.size with h' | h'
      · exact h'
      · simp [World.cell?, Array.getElem?_eq_none h'] at h0
    have HSZ := hid hsz
    clear hsz
    by_cases hlt : k < 4
    · have hMr := hid (hM.below HB.out)
      have HRK := hid (HR.out k hlt)
      have HNK := hid (fun (h : tW op ≠ (wRow k).1) i (hi : i < k + 1) => show tW op ≠ (wRow i).1 from by
        by_cases e : i = k
        · rw [e]; exact h
        · exact HN.out i (by omega))
      have y0 := (HC.out k hlt).1
      have y1 := (HC.out k hlt).2
      have hm9 : (wRow k).1 < 100 := by rcases (by omega : k = 0 ∨ k = 1 ∨ k = 2 ∨ k = 3) with rfl | rfl | rfl | rfl <;> decide
      generalize (wRow k).1 = m at *
      generalize S (wRow k).2 = ops at *
      obtain ⟨D, hD⟩ : ∃ D, decide (tW op = m) = D := ⟨_, rfl⟩
      rw [hD] at HRK
      have HDE := hid hD
      clear hD hw
      rcases (by omega : k = 0 ∨ k = 1 ∨ k = 2 ∨ k = 3) with rfl | rfl | rfl | rfl
      all_goals
        simp only [Nat.mul_zero, Nat.mul_one, Nat.zero_add, Nat.reduceMul, Nat.reduceAdd] at y0 y1
        have hblk := Blk.new wr #[.int .i64 m, .string ops] 219 _ rfl
        have b0 : (wr.alloc (.cells #[.int .i64 m, .string ops] 219)).drew.cell? ⟨wr.heap.size, 0, none⟩ = some (.int .i64 m) := hblk.cell (i := 0) rfl
        have b1 : (wr.alloc (.cells #[.int .i64 m, .string ops] 219)).drew.cell? ⟨wr.heap.size, 1, none⟩ = some (.string ops) := hblk.cell (i := 1) rfl
        have hA : Below wr.heap.size wr (wr.alloc (.cells #[.int .i64 m, .string ops] 219)).drew := ((Below.refl _ _).alloc (Nat.le_refl _) _).drew
        have HA := hid hA
        clear hblk hA
        go_wp2_with fail
        clear y0 y1
        have hwop : IntKind.i64.wrap (op : Int) = (op : Int) := IntWalk.i64_in _ (by omega)
        have HCC := hid (fun w' (hb : Below (wr.alloc (.cells #[.int .i64 m, .string ops] 219)).drew.heap.size (wr.alloc (.cells #[.int .i64 m, .string ops] 219)).drew w') => And.intro ((hb.cell (by show wr.heap.size < (wr.alloc _).heap.size; simp)).trans b0) ((hb.cell (by show wr.heap.size < (wr.alloc _).heap.size; simp)).trans b1))
        go_region_law (first | (go_simp; go_at_call 169; refine (HD.out _).mono ?_; rintro r w1 ⟨rfl, hb1⟩; obtain ⟨z0, z1⟩ := HCC.out _ hb1; have B1 := hid (HA.out.trans (hb1.mono HA.out.size)); clear hb1) | (go_simp; go_at_call 168; refine (HRK.out _ HSUB.out _ rfl _ (hMr.out.below B1.out)).mono ?_; rintro r w2 ⟨rfl, rfl⟩))
        all_goals
          have HB2 := hid (HB.out.trans (B1.out.mono (Nat.le_of_lt HSZ.out)))
          have HC2 := hid (fun i (hi : i < 4) => And.intro ((B1.out.cell HSZ.out).trans (HC.out i hi).1) ((B1.out.cell HSZ.out).trans (HC.out i hi).2))
          clear HC HCC hwop b0 b1
          cases D with
          | true =>
            have HM := hid (of_decide_eq_true HDE.out)
            go_wp2_with fail
            go_ret
            exact ⟨ret1 (by rw [HM.out]), HB2.out⟩
          | false =>
            have HM := hid (HNK.out (of_decide_eq_false HDE.out))
            go_wp2_with fail
            go_roundw
            case rel => exact ⟨_, by decide, rfl, HC2, HB2, HM⟩
            case measure => simp [RowKit.intOf]
    · obtain rfl : k = 4 := by omega
      have h0 := hw ⟨HN.out 0 (by decide), HN.out 1 (by decide), HN.out 2 (by decide), HN.out 3 (by decide)⟩
      go_wp2_with fail
      go_ret
      exact ⟨ret1 (by rw [h0]; rfl), HB.out⟩
end Go.Proofs.YtakfineljffoaaaGreatDoor
