/-
  THE REFERENCE's Pack.
-/
import Derived.Test.YtbjhedfgnocflaaPack
import Derived.Deep.QuietTactic
import Derived.BigQuiet
import Derived.IntWalk
namespace Go.Proofs.Ytbjhedfgnocflaa
open Go.RowKit Go.Lib

def rng (s : Sig) (t : Nat) : Prop := inR (lows.getD t 0) (highs.getD t 0) ((packL s).getD t 0)
theorem rng_all {s : Sig} (h : ∀ t, t < 8 → rng s t) : sigOk s :=
  ⟨h 0 (by decide), ⟨h 1 (by decide), h 2 (by decide)⟩, ⟨h 3 (by decide), h 4 (by decide)⟩, h 5 (by decide), h 6 (by decide), h 7 (by decide)⟩
theorem rng_no {s : Sig} {t : Nat} (ht : t < 8) (h : ¬ rng s t) : ¬ sigOk s := by
  rintro ⟨h0, ⟨h1, h2⟩, ⟨h3, h4⟩, h5, h6, h7⟩
  apply h
  have : t = 0 ∨ t = 1 ∨ t = 2 ∨ t = 3 ∨ t = 4 ∨ t = 5 ∨ t = 6 ∨ t = 7 := by omega
  rcases this with rfl | rfl | rfl | rfl | rfl | rfl | rfl | rfl
  all_goals assumption
theorem packF_bad {s : Sig} (h : ¬ sigOk s) : packF s = (⟨#[]⟩, 1) := by
  unfold packF chkF
  rw [if_neg h, if_neg (by decide)]
theorem packF_large {s : Sig} (h : sigOk s) (h2 : 32 < s.body.size) : packF s = (⟨#[]⟩, 2) := by
  unfold packF chkF
  rw [if_pos h, if_pos h2, if_neg (by decide)]
theorem packF_ok {s : Sig} (h : sigOk s) (h2 : ¬ 32 < s.body.size) : packF s = (S ((packL s).map byteOf ++ s.body.data.toList), 0) := by
  unfold packF chkF
  rw [if_pos h, if_neg h2, if_pos rfl]

theorem at_new (w : World) (cs : Array Value) (t : TypeId) (b : Nat) (hb : b = w.heap.size) : At (w.alloc (.cells cs t)) b 0 cs.toList := by
  subst hb
  intro j hj
  rw [World.cell?_alloc_new]
  simp
theorem at_old {w : World} {b off : Nat} {cs : List Value} (o : Obj) (h : At w b off cs) : At (w.alloc o) b off cs := h.below ((Below.refl _ _).alloc (Nat.le_refl _) _)

theorem getD_at {l : List Int} {i : Nat} (h : i < l.length) : l.getD i 0 = l[i] := by simp [h]
theorem outside_same (n lo hi : Int) (w : World) : Calls Try.prog 76 #[.int .i64 n, .int .i64 lo, .int .i64 hi] w fun e w' => e = .returned (.bool (!decide (inR lo hi n))) ∧ w' = w :=
  (outside_any n lo hi w).mono fun _ _ h => ⟨h.1, h.2.symm⟩
theorem drew_bel {W w : World} {B n : Nat} (h : Below B W w) : Below B W (w.drewN n) := ⟨h.os, h.tape, h.output, h.size, h.block⟩
/-- what the reference's loop reads -/
structure PkCells (n : Nat) (L : List Int) (body : ByteArray) (wr : World) : Prop where
  a0 : At wr (n + 1) 0 (L.map (Value.int .i64))
  a1 : At wr (n + 1 + 1) 0 (lows.map (Value.int .i64))
  a2 : At wr (n + 1 + 1 + 1) 0 (highs.map (Value.int .i64))
  c8 : wr.cell? ⟨n, 8, none⟩ = some (.string body)
theorem PkCells.below {n : Nat} {L : List Int} {body : ByteArray} {wr w' : World} (h : PkCells n L body wr) (hb : Below wr.heap.size wr w') : PkCells n L body w' :=
  ⟨h.a0.below hb, h.a1.below hb, h.a2.below hb, (hb.cell (p := ⟨n, 8, none⟩) (World.block_lt_of_cell? _ ⟨n, 8, none⟩ h.c8)).trans h.c8⟩

set_option maxRecDepth 100000 in
set_option maxHeartbeats 4000000 in
theorem refPack_any (s : Sig) (w : World) (hb : s.body.size ≤ 140737488351232) : Calls Try.prog 25 #[sigV s] w fun e w' => e = .returned (.tuple #[.string (packF s).1, .int .i64 (packF s).2]) ∧ Below w.heap.size w w' := by
  have hr1 : ∀ t, t < 8 → ¬ rng s t → packF s = (⟨#[]⟩, 1) := fun t h1 h2 => packF_bad (rng_no h1 h2)
  have hr2 : (∀ t, t < 8 → rng s t) → 32 < s.body.size → packF s = (⟨#[]⟩, 2) := fun h1 h2 => packF_large (rng_all h1) h2
  have hr3 : (∀ t, t < 8 → rng s t) → ¬ 32 < s.body.size → packF s = (S ((packL s).map byteOf ++ s.body.data.toList), 0) := fun h1 h2 => packF_ok (rng_all h1) h2
  have hrd : ∀ t, rng s t = inR (lows.getD t 0) (highs.getD t 0) ((packL s).getD t 0) := fun t => rfl
  obtain ⟨R, hR⟩ : ∃ R, packF s = R := ⟨_, rfl⟩
  obtain ⟨G, hG⟩ : ∃ G, rng s = G := ⟨_, rfl⟩
  rw [hR] at hr1 hr2 hr3 ⊢
  rw [hG] at hr1 hr2 hr3 hrd
  clear hR hG
  obtain ⟨k, fn, fm, tn, tm, r, y, g, body⟩ := s
  simp only [sigV] at *
  obtain ⟨L, hL⟩ : ∃ L, packL ⟨k, fn, fm, tn, tm, r, y, g, body⟩ = L := ⟨_, rfl⟩
  have hL2 : L = [k, fn, fm, tn, tm, r, y, g] := by rw [← hL]; rfl
  rw [hL] at hr3
  simp only [hL] at hrd
  have HL := hid hL2
  have HR1 := hid hr1
  have HR2 := hid hr2
  have HR3 := hid hr3
  have HRD := hid hrd
  have hll : L.length = 8 := by rw [hL2]; rfl
  clear hL hL2 hr1 hr2 hr3 hrd
  go_enter Try.func25, Try.ntmps25
  go_wp2_with fail
  go_loopw [7, 35] (fun o i wr => ∃ j : Nat, j ≤ 8 ∧ i = .int .i64 j ∧ o = .string (S ((L.take j).map byteOf)) ∧ PkCells w.heap.size L body wr ∧ Below w.heap.size w wr ∧ Hid (∀ t, t < j → G t)) (fun _ i _ => 8 - (intOf i).toNat)
  case atStart =>
    refine ⟨0, by omega, rfl, rfl, ⟨?_, ?_, ?_, ?_⟩, ?_, fun t h => absurd h (by omega)⟩
    · rw [HL.out]; exact at_old _ (at_old _ (at_new _ _ _ _ (by simp)))
    · exact at_old _ (at_new _ _ _ _ (by simp))
    · exact at_new _ _ _ _ (by simp)
    · exact (at_old _ (at_old _ (at_old _ (at_new w _ _ _ rfl)))) 8 (by simp)
    · repeat (first | exact Below.refl _ _ | refine Below.alloc ?_ (by simp <;> omega) _)
  case round =>
    obtain ⟨j, hj, rfl, rfl, hcl, hbel, hall⟩ := hrel
    have hsz := hbel.size
    by_cases hlt : j < 8
    · have hlL : j < L.length := by omega
      have c0 := hcl.a0 j (by simpa using hlL)
      have c1 := hcl.a1 j (by simpa [lows] using hlt)
      have c2 := hcl.a2 j (by simpa [highs] using hlt)
      rw [List.getElem_map, Nat.zero_add] at c0 c1 c2
      have htk : S ((L.take (j + 1)).map byteOf) = S ((L.take j).map byteOf) ++ S [byteOf L[j]] := by
        rw [List.take_succ_eq_append_getElem hlL, List.map_append, S_append]; rfl
      have hgj : G j = inR (lows[j]'(by simpa [lows] using hlt)) (highs[j]'(by simpa [highs] using hlt)) L[j] := by
        rw [HRD.out j, getD_at hlL, getD_at (l := lows) (by simpa [lows] using hlt), getD_at (l := highs) (by simpa [highs] using hlt)]
      have hlen2 : (S ((L.take j).map byteOf)).size = j := by rw [S_size, List.length_map, List.length_take]; omega
      have hone : ∀ n, (S [byteOf n]).size = 1 := fun n => by rw [S_size]; rfl
      have HTK := hid htk
      have HGJ := hid hgj
      clear htk hgj
      generalize L[j] = x at *
      generalize lows[j]'(by simpa [lows] using hlt) = lo at *
      generalize highs[j]'(by simpa [highs] using hlt) = hi at *
      generalize S ((L.take j).map byteOf) = acc at *
      have hou := fun w' => outside_same x lo hi w'
      by_cases hin : inR lo hi x
      · have eb : (!decide (inR lo hi x)) = false := by rw [decide_eq_true hin]; rfl
        rw [eb] at hou
        have hGj : G j := by rw [HGJ.out]; exact hin
        have hall2 : Hid (∀ t, t < j + 1 → G t) := fun t ht => by
          by_cases h : t = j
          · rw [h]; exact hGj
          · exact hall.out t (by omega)
        have HOU := hid hou
        clear hou hin hGj hall eb
        go_wp2_with fail
        go_quiet (first | (go_at_call 76; refine Calls.quiet_of_same (HOU.out _)))
        go_wp2_with fail
        refine (chr_any _ _).mono ?_
        rintro e w1 ⟨rfl, hb1⟩
        have hone' := hone x
        go_wp2_with fail
        go_roundw
        case rel => exact ⟨j + 1, by omega, by go_num, by rw [HTK.out], (hcl.below (drew_bel (Below.refl _ _))).below hb1, (drew_bel hbel).trans (hb1.mono (drew_bel hbel).size), hall2⟩
        case measure => simp [intOf]; omega
      · have eb : (!decide (inR lo hi x)) = true := by rw [decide_eq_false hin]; rfl
        rw [eb] at hou
        have hGj : ¬ G j := by rw [HGJ.out]; exact hin
        have hR := HR1.out j hlt hGj
        subst hR
        have HOU := hid hou
        clear hou hin hGj hall eb
        go_wp2_with fail
        go_quiet (first | (go_at_call 76; refine Calls.quiet_of_same (HOU.out _)))
        go_wp2_with fail
        go_ret2
        exact ⟨rfl, drew_bel hbel⟩
    · obtain rfl : j = 8 := by omega
      have c8 := hcl.c8
      have hL8 : L.take 8 = L := List.take_of_length_le (by omega)
      rw [hL8]
      have hsz2 : (S (L.map byteOf)).size = 8 := by rw [S_size, List.length_map]; exact hll
      by_cases hl : 32 < body.size
      · have hR := HR2.out hall.out hl
        subst hR
        have hl2 : (32 : Int) < (body.size : Int) := by omega
        clear hL8
        go_wp2_with fail
        go_ret2
        exact ⟨rfl, hbel⟩
      · have hR := HR3.out hall.out hl
        rw [← S_append, S_of] at hR
        obtain ⟨acc, hacc⟩ : ∃ a, S (L.map byteOf) = a := ⟨_, rfl⟩
        rw [hacc] at hR hsz2 ⊢
        clear hacc
        subst hR
        have hl2 : (body.size : Int) ≤ 32 := by omega
        clear hL8
        go_wp2_with fail
        go_ret2
        exact ⟨rfl, hbel⟩
end Go.Proofs.Ytbjhedfgnocflaa
