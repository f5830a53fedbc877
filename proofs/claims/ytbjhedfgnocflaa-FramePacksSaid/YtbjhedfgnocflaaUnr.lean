/-
  THE REFERENCE's Unpack.
-/
import Derived.Test.YtbjhedfgnocflaaUnp
import Derived.Test.YtbjhedfgnocflaaStep
namespace Go.Proofs.Ytbjhedfgnocflaa
open Go.RowKit Go.Lib

def arrL (t : ByteArray) (k : Nat) : List Value := (List.range 8).map fun i => .int .i64 (if i < k then byteAt t i else 0)
theorem arrL_step (t : ByteArray) (k : Nat) : (arrL t k).set k (.int .i64 (byteAt t k)) = arrL t (k + 1) := by
  apply List.ext_getElem
  · simp [arrL]
  · intro i h1 h2
    simp only [arrL, List.getElem_set, List.getElem_map, List.getElem_range]
    by_cases h : k = i
    · subst h; simp
    · have : (i < k + 1) ↔ (i < k) := by omega
      simp [h, this]

theorem packF_2 (s : Sig) : (packF s).2 = chkF s := by
  unfold packF
  by_cases h : chkF s = 0
  · rw [if_pos h, h]
  · rw [if_neg h]

set_option maxRecDepth 100000 in
set_option maxHeartbeats 4000000 in
theorem refUnpack_go (t : ByteArray) (w : World) (hb : t.size ≤ 140737488351232) (hs : ¬ t.size < 8) : Calls Try.prog 27 #[.string t] w fun e w' => e = .returned (.tuple #[sigV (unpF t).1, .int .i64 (unpF t).2]) ∧ Below w.heap.size w w' := by
  have h1 : (8 : Int) ≤ (t.size : Int) := by omega
  have hr0 : chkF (unS t) = 0 → unpF t = (unS t, 0) := fun h => by unfold unpF; rw [if_neg hs, if_pos h]
  have hr1 : ¬ chkF (unS t) = 0 → unpF t = (zeroSig, chkF (unS t)) := fun h => by unfold unpF; rw [if_neg hs, if_neg h]
  generalize unpF t = R at *
  have HR0 := hid hr0
  have HR1 := hid hr1
  clear hr0 hr1
  go_enter Try.func27, Try.ntmps27
  go_wp2_with fail
  go_loopw [13] (fun i wr => ∃ k : Nat, k ≤ 8 ∧ i = .int .i64 k ∧ Blk wr (w.heap.size + 1) 133 (arrL t k) ∧ Blk wr w.heap.size 40 [.int .i64 0, .int .i64 0, .int .i64 0, .int .i64 0, .int .i64 0, .int .i64 0, .int .i64 0, .int .i64 0, .string ⟨#[]⟩] ∧ Below w.heap.size w wr) (fun i _ => 8 - (intOf i).toNat)
  case atStart =>
    refine ⟨0, by omega, rfl, ?_, ?_, ((Below.refl _ _).alloc (Nat.le_refl _) _).alloc (by simp) _⟩
    · exact Blk.new _ _ _ _ (by simp)
    · exact (Blk.new w _ _ _ rfl).alloc _
  case round =>
    obtain ⟨k, hk, rfl, hblk, hres, hbel⟩ := hrel
    by_cases hlt : k < 8
    · have hkt : k < t.size := by omega
      have hg := byteAt_get t k hkt
      have hgl := (byteAt_lt t k)
      have hst := hblk.set k (.int .i64 (byteAt t k))
      rw [arrL_step t k] at hst
      have hcell : ∃ z : Int, wr.cell? ⟨w.heap.size + 1, k, none⟩ = some (.int .i64 z) := ⟨_, hblk.cell (by simp [arrL, hlt]; rfl)⟩
      obtain ⟨z, hcell⟩ := hcell
      have hfr := hblk.free k
      have hres2 := hres.other (a := ⟨w.heap.size + 1, k, none⟩) (by simp) (.int .i64 (byteAt t k))
      have HS := hid (And.intro hst hres2)
      have HG := hid hg
      clear hst hres2 hg hblk hres
      go_wp2_with fail
      go_roundw
      case rel =>
        have e : wrap64 ((t[k]'hkt).toNat : Int) = byteAt t k := by
          rw [HG.out]; unfold wrap64; omega
        rw [e]
        exact ⟨k + 1, by omega, by go_num, HS.out.1, HS.out.2, hbel.trans ((Below.refl _ _).setCell (by simp) _)⟩
      case measure => simp [intOf]; omega
    · obtain rfl : k = 8 := by omega
      have c0 := hblk.cell (i := 0) (v := .int .i64 (byteAt t 0)) rfl
      have c1 := hblk.cell (i := 1) (v := .int .i64 (byteAt t 1)) rfl
      have c2 := hblk.cell (i := 2) (v := .int .i64 (byteAt t 2)) rfl
      have c3 := hblk.cell (i := 3) (v := .int .i64 (byteAt t 3)) rfl
      have c4 := hblk.cell (i := 4) (v := .int .i64 (byteAt t 4)) rfl
      have c5 := hblk.cell (i := 5) (v := .int .i64 (byteAt t 5)) rfl
      have c6 := hblk.cell (i := 6) (v := .int .i64 (byteAt t 6)) rfl
      have c7 := hblk.cell (i := 7) (v := .int .i64 (byteAt t 7)) rfl
      go_wp2_with fail
      go_region_held3 (fun w' => w'.cell? ⟨w.heap.size + 1, 0, none⟩ = some (.int .i64 (byteAt t 0)) ∧ w'.cell? ⟨w.heap.size + 1, 1, none⟩ = some (.int .i64 (byteAt t 1)) ∧ w'.cell? ⟨w.heap.size + 1, 2, none⟩ = some (.int .i64 (byteAt t 2)) ∧ w'.cell? ⟨w.heap.size + 1, 3, none⟩ = some (.int .i64 (byteAt t 3)) ∧ w'.cell? ⟨w.heap.size + 1, 4, none⟩ = some (.int .i64 (byteAt t 4)) ∧ w'.cell? ⟨w.heap.size + 1, 5, none⟩ = some (.int .i64 (byteAt t 5)) ∧ w'.cell? ⟨w.heap.size + 1, 6, none⟩ = some (.int .i64 (byteAt t 6)) ∧ w'.cell? ⟨w.heap.size + 1, 7, none⟩ = some (.int .i64 (byteAt t 7))) (first | exact ⟨c0, c1, c2, c3, c4, c5, c6, c7⟩ | exact ⟨cell_alloc _ c0, cell_alloc _ c1, cell_alloc _ c2, cell_alloc _ c3, cell_alloc _ c4, cell_alloc _ c5, cell_alloc _ c6, cell_alloc _ c7⟩ | go_keep) (fail)
      go_wp2_with fail
      have hpk := refPack_any (unS t) (wr.alloc (.cells #[.int .i64 (byteAt t 0), .int .i64 (byteAt t 1), .int .i64 (byteAt t 2), .int .i64 (byteAt t 3), .int .i64 (byteAt t 4), .int .i64 (byteAt t 5), .int .i64 (byteAt t 6), .int .i64 (byteAt t 7), .string (t.extract 8 t.size)] 40)).drew (by show (t.extract 8 t.size).size ≤ _; rw [ByteArray.size_extract]; omega)
      refine hpk.mono ?_
      rintro e w1 ⟨rfl, hb1⟩
      have hr1 : Blk w1 w.heap.size 40 [.int .i64 0, .int .i64 0, .int .i64 0, .int .i64 0, .int .i64 0, .int .i64 0, .int .i64 0, .int .i64 0, .string ⟨#[]⟩] := Blk.below (w := (wr.alloc _).drew) (hres.alloc _) hb1
      have hs1 : Blk w1 wr.heap.size 40 [.int .i64 (byteAt t 0), .int .i64 (byteAt t 1), .int .i64 (byteAt t 2), .int .i64 (byteAt t 3), .int .i64 (byteAt t 4), .int .i64 (byteAt t 5), .int .i64 (byteAt t 6), .int .i64 (byteAt t 7), .string (t.extract 8 t.size)] := Blk.below (w := (wr.alloc _).drew) (Blk.new wr _ _ _ rfl) hb1
      have z0 := hr1.cell (i := 0) rfl
      have z1 := hr1.cell (i := 1) rfl
      have z2 := hr1.cell (i := 2) rfl
      have z3 := hr1.cell (i := 3) rfl
      have z4 := hr1.cell (i := 4) rfl
      have z5 := hr1.cell (i := 5) rfl
      have z6 := hr1.cell (i := 6) rfl
      have z7 := hr1.cell (i := 7) rfl
      have z8 := hr1.cell (i := 8) rfl
      have s0 := hs1.cell (i := 0) rfl
      have s1 := hs1.cell (i := 1) rfl
      have s2 := hs1.cell (i := 2) rfl
      have s3 := hs1.cell (i := 3) rfl
      have s4 := hs1.cell (i := 4) rfl
      have s5 := hs1.cell (i := 5) rfl
      have s6 := hs1.cell (i := 6) rfl
      have s7 := hs1.cell (i := 7) rfl
      have s8 := hs1.cell (i := 8) rfl
      have hfr := fun i => hr1.free i
      have hsz1 := hb1.size
      have hbw : Below w.heap.size w w1 := (drew_bel1 (hbel.alloc hbel.size _)).trans (hb1.mono (by show _ ≤ (wr.alloc _).heap.size; have := hbel.size; simp; omega))
      rw [packF_2]
      have HBW := hid hbw
      clear hpk hr1 hs1 hb1 hbel hbw c0 c1 c2 c3 c4 c5 c6 c7 hblk hres
      by_cases h0 : chkF (unS t) = 0
      · have hR := hid (HR0.out h0)
        rw [h0]
        clear h0
        go_wp2_with fail
        refine bodyPost_ret (v := .tuple #[(.agg #[.int .i64 (byteAt t 0), .int .i64 (byteAt t 1), .int .i64 (byteAt t 2), .int .i64 (byteAt t 3), .int .i64 (byteAt t 4), .int .i64 (byteAt t 5), .int .i64 (byteAt t 6), .int .i64 (byteAt t 7), .string (t.extract 8 t.size)]), .int .i64 0]) (by simp [results, Try.results27, go_sem, z0, z1, z2, z3, z4, z5, z6, z7, z8]) rfl ?_
        refine ⟨by rw [hR.out]; rfl, ?_⟩
        repeat (refine Below.setCell ?_ (by simp) _)
        exact HBW.out
      · have hR := hid (HR1.out h0)
        have hcc : (chkF (unS t) != 0) = true := by simp [h0]
        generalize chkF (unS t) = c at *
        clear h0
        go_wp2_with fail
        refine bodyPost_ret (v := .tuple #[(.agg #[.int .i64 0, .int .i64 0, .int .i64 0, .int .i64 0, .int .i64 0, .int .i64 0, .int .i64 0, .int .i64 0, .string ⟨#[]⟩]), .int .i64 c]) (by simp [results, Try.results27, go_sem, z0, z1, z2, z3, z4, z5, z6, z7, z8]) rfl ?_
        refine ⟨by rw [hR.out]; rfl, ?_⟩
        repeat (refine Below.setCell ?_ (by simp) _)
        exact HBW.out

set_option maxRecDepth 100000 in
set_option maxHeartbeats 1000000 in
theorem refUnpack_short (t : ByteArray) (w : World) (hs : t.size < 8) : Calls Try.prog 27 #[.string t] w fun e w' => e = .returned (.tuple #[sigV (unpF t).1, .int .i64 (unpF t).2]) ∧ Below w.heap.size w w' := by
  rw [unpF_short hs]
  have h1 : (t.size : Int) < 8 := by omega
  go_enter Try.func27, Try.ntmps27
  go_wp2_with fail
  go_returns
  exact ⟨rfl, (Below.refl _ _).alloc (Nat.le_refl _) _⟩
theorem refUnpack_any (t : ByteArray) (w : World) (hb : t.size ≤ 140737488351232) : Calls Try.prog 27 #[.string t] w fun e w' => e = .returned (.tuple #[sigV (unpF t).1, .int .i64 (unpF t).2]) ∧ Below w.heap.size w w' := by
  by_cases hs : t.size < 8
  · exact refUnpack_short t w hs
  · exact refUnpack_go t w hb hs
end Go.Proofs.Ytbjhedfgnocflaa
