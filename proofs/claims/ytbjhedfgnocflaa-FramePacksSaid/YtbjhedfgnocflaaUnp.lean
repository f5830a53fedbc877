/-
  Unpack.
-/
import Derived.Test.YtbjhedfgnocflaaPkr
import Derived.Deep.RegionWith
import Derived.BigRegion
import Derived.Handy
import Derived.Deep.RegionHeld3
import Derived.Deep.DrawnRows
import Derived.Deep.DeepCutAuto
namespace Go.Proofs.Ytbjhedfgnocflaa
open Go.RowKit Go.Lib
attribute [local go_sem ↓] Go.wp_at_zero Go.wp_at_succ

def byteAt (t : ByteArray) (x : Int) : Int := ((t.data.toList.getD x.toNat 0).toNat : Int)
theorem byteAt_lt (t : ByteArray) (x : Int) : 0 ≤ byteAt t x ∧ byteAt t x ≤ 255 := by
  have := (t.data.toList.getD x.toNat 0).toNat_lt
  unfold byteAt; omega
theorem byteAt_get (t : ByteArray) (i : Nat) (h : i < t.size) : ((t[i]'h).toNat : Int) = byteAt t i := by
  have hl : i < t.data.toList.length := by simpa using h
  unfold byteAt
  rw [Int.toNat_natCast, List.getD_eq_getElem?_getD, List.getElem?_eq_getElem hl]
  rfl

set_option maxRecDepth 100000 in
theorem at_any (t : ByteArray) (x : Int) (b : Nat) (w : World) (h0 : 0 ≤ x) (h1 : x < (t.size : Int)) (hc : w.cell? ⟨b, 0, none⟩ = some (.string t)) : Calls Try.prog 77 #[.int .i64 x, .pointer (some ⟨b, 0, none⟩)] w fun e w' => e = .returned (.int .i64 (byteAt t x)) ∧ w = w' := by
  obtain ⟨i, rfl⟩ := Int.eq_ofNat_of_zero_le h0
  have hi : i < t.size := by omega
  have hg := hid (byteAt_get t i hi)
  go_enter Try.func77, Try.ntmps77
  go_wp2_with fail
  go_ret
  refine ⟨ret1 ?_, rfl⟩
  rw [← hg.out]
  have := (t[i]'hi).toNat_lt
  unfold wrap64; omega

/-- what the bytes tell -/
def unS (t : ByteArray) : Sig := ⟨byteAt t 0, byteAt t 1, byteAt t 2, byteAt t 3, byteAt t 4, byteAt t 5, byteAt t 6, byteAt t 7, t.extract 8 t.size⟩
def zeroSig : Sig := ⟨0, 0, 0, 0, 0, 0, 0, 0, ⟨#[]⟩⟩
def unpF (t : ByteArray) : Sig × Int := if t.size < 8 then (zeroSig, 3) else if chkF (unS t) = 0 then (unS t, 0) else (zeroSig, chkF (unS t))
theorem bcell {W w1 : World} (hb : Below W.heap.size W w1) : (∀ b o, b < W.heap.size → w1.cell? ⟨b, o, none⟩ = W.cell? ⟨b, o, none⟩) ∧ (∀ b o, b < W.heap.size → w1.frozen? ⟨b, o, none⟩ = W.frozen? ⟨b, o, none⟩) :=
  ⟨fun b o h => hb.cell (p := ⟨b, o, none⟩) h, fun b o h => hb.frozen (p := ⟨b, o, none⟩) h⟩
theorem at_drew {w : World} {b off : Nat} {cs : List Value} (h : At w b off cs) : At w.drew b off cs := fun j hj => h j hj
theorem drew_bel1 {W w : World} {B : Nat} (h : Below B W w) : Below B W w.drew := ⟨h.os, h.tape, h.output, h.size, h.block⟩

set_option maxRecDepth 100000 in
set_option maxHeartbeats 20000000 in
theorem unpack_go (t : ByteArray) (w : World) (hs : ¬ t.size < 8) : Calls Try.prog 26 #[.string t] w fun e w' => e = .returned (.tuple #[sigV (unpF t).1, .int .i64 (unpF t).2]) ∧ Below w.heap.size w w' := by
  have h1 : (8 : Int) ≤ (t.size : Int) := by omega
  have hr0 : chkF (unS t) = 0 → unpF t = (unS t, 0) := fun h => by unfold unpF; rw [if_neg hs, if_pos h]
  have hr1 : ¬ chkF (unS t) = 0 → unpF t = (zeroSig, chkF (unS t)) := fun h => by unfold unpF; rw [if_neg hs, if_neg h]
  have hc := fun w' => check_any (unS t) w'
  have hu : sigV (unS t) = .agg #[.int .i64 (byteAt t 0), .int .i64 (byteAt t 1), .int .i64 (byteAt t 2), .int .i64 (byteAt t 3), .int .i64 (byteAt t 4), .int .i64 (byteAt t 5), .int .i64 (byteAt t 6), .int .i64 (byteAt t 7), .string (t.extract 8 t.size)] := rfl
  rw [hu] at hc
  generalize unpF t = R at *
  generalize chkF (unS t) = c at *
  have HR0 := hid hr0
  have HR1 := hid hr1
  have HC := hid hc
  clear hr0 hr1 hc hu
  go_enter Try.func26, Try.ntmps26
  go_upto_region 4 with fail
  go_cut [5] (fun s5 wx => s5 = .pointer (some ⟨w.heap.size + 1 + 1, 0, none⟩) ∧ wx = (((w.alloc (.cells #[.string t] 9)).alloc (.cells #[.int .i64 0, .int .i64 0, .int .i64 0, .int .i64 0, .int .i64 0, .int .i64 0, .int .i64 0, .int .i64 0, .string ⟨#[]⟩] 40)).alloc (.cells #[.int .i64 (byteAt t 0), .int .i64 (byteAt t 1), .int .i64 (byteAt t 2), .int .i64 (byteAt t 3), .int .i64 (byteAt t 4), .int .i64 (byteAt t 5), .int .i64 (byteAt t 6), .int .i64 (byteAt t 7), .string (t.extract 8 t.size)] 40)).drew)
  case first =>
    go_region_held3 (fun w' => w'.cell? ⟨w.heap.size, 0, none⟩ = some (.string t)) (go_keep) (first | (go_at_call 77; refine (at_any t _ _ _ ?_ ?_ ?_).mono ?_; omega; omega; (simp [*]); rintro e w' ⟨rfl, rfl⟩))
    all_goals (go_wp2_with fail; go_meet; exact ⟨rfl, rfl⟩)
  case rest =>
    obtain ⟨rfl, rfl⟩ := hcut
    by_cases h0 : c = 0
    · have hR := hid (HR0.out h0)
      subst h0
      go_wp2_with fail
      refine (HC.out _).mono ?_
      rintro e w1 ⟨rfl, hb1⟩
      have hat : At w1 (w.heap.size + 1) 0 [.int .i64 0, .int .i64 0, .int .i64 0, .int .i64 0, .int .i64 0, .int .i64 0, .int .i64 0, .int .i64 0, .string ⟨#[]⟩] := At.below (at_drew (at_old _ (at_new (w.alloc (.cells #[.string t] 9)) #[.int .i64 0, .int .i64 0, .int .i64 0, .int .i64 0, .int .i64 0, .int .i64 0, .int .i64 0, .int .i64 0, .string ⟨#[]⟩] 40 _ (by simp)))) hb1
      have c0 : w1.cell? ⟨w.heap.size + 1, 0, none⟩ = some (.int .i64 0) := hat 0 (by decide)
      have c1 : w1.cell? ⟨w.heap.size + 1, 1, none⟩ = some (.int .i64 0) := hat 1 (by decide)
      have c2 : w1.cell? ⟨w.heap.size + 1, 2, none⟩ = some (.int .i64 0) := hat 2 (by decide)
      have c3 : w1.cell? ⟨w.heap.size + 1, 3, none⟩ = some (.int .i64 0) := hat 3 (by decide)
      have c4 : w1.cell? ⟨w.heap.size + 1, 4, none⟩ = some (.int .i64 0) := hat 4 (by decide)
      have c5 : w1.cell? ⟨w.heap.size + 1, 5, none⟩ = some (.int .i64 0) := hat 5 (by decide)
      have c6 : w1.cell? ⟨w.heap.size + 1, 6, none⟩ = some (.int .i64 0) := hat 6 (by decide)
      have c7 : w1.cell? ⟨w.heap.size + 1, 7, none⟩ = some (.int .i64 0) := hat 7 (by decide)
      have c8 : w1.cell? ⟨w.heap.size + 1, 8, none⟩ = some (.string ⟨#[]⟩) := hat 8 (by decide)
      clear hat
      obtain ⟨hcl, hfz⟩ := bcell hb1
      have hz := hb1.size
      simp at hz hcl hfz
      go_wp2_with fail
      clear hcl hfz
      refine bodyPost_ret (v := .tuple #[(.agg #[.int .i64 (byteAt t 0), .int .i64 (byteAt t 1), .int .i64 (byteAt t 2), .int .i64 (byteAt t 3), .int .i64 (byteAt t 4), .int .i64 (byteAt t 5), .int .i64 (byteAt t 6), .int .i64 (byteAt t 7), .string (t.extract 8 t.size)]), .int .i64 0]) (by simp [results, Try.results26, go_sem, c0, c1, c2, c3, c4, c5, c6, c7, c8]) rfl ?_
      have hbw : Below w.heap.size w w1 := (drew_bel1 ((((Below.refl _ _).alloc (Nat.le_refl _) _).alloc (by simp) _).alloc (by simp; omega) _)).trans (hb1.mono (by simp; omega))
      refine ⟨by rw [hR.out]; rfl, ?_⟩
      repeat (refine Below.setCell ?_ (by simp) _)
      exact hbw
    · have hR := hid (HR1.out h0)
      have hcc : (c != 0) = true := by simp [h0]
      go_wp2_with fail
      refine (HC.out _).mono ?_
      rintro e w1 ⟨rfl, hb1⟩
      have hat : At w1 (w.heap.size + 1) 0 [.int .i64 0, .int .i64 0, .int .i64 0, .int .i64 0, .int .i64 0, .int .i64 0, .int .i64 0, .int .i64 0, .string ⟨#[]⟩] := At.below (at_drew (at_old _ (at_new (w.alloc (.cells #[.string t] 9)) #[.int .i64 0, .int .i64 0, .int .i64 0, .int .i64 0, .int .i64 0, .int .i64 0, .int .i64 0, .int .i64 0, .string ⟨#[]⟩] 40 _ (by simp)))) hb1
      have c0 : w1.cell? ⟨w.heap.size + 1, 0, none⟩ = some (.int .i64 0) := hat 0 (by decide)
      have c1 : w1.cell? ⟨w.heap.size + 1, 1, none⟩ = some (.int .i64 0) := hat 1 (by decide)
      have c2 : w1.cell? ⟨w.heap.size + 1, 2, none⟩ = some (.int .i64 0) := hat 2 (by decide)
      have c3 : w1.cell? ⟨w.heap.size + 1, 3, none⟩ = some (.int .i64 0) := hat 3 (by decide)
      have c4 : w1.cell? ⟨w.heap.size + 1, 4, none⟩ = some (.int .i64 0) := hat 4 (by decide)
      have c5 : w1.cell? ⟨w.heap.size + 1, 5, none⟩ = some (.int .i64 0) := hat 5 (by decide)
      have c6 : w1.cell? ⟨w.heap.size + 1, 6, none⟩ = some (.int .i64 0) := hat 6 (by decide)
      have c7 : w1.cell? ⟨w.heap.size + 1, 7, none⟩ = some (.int .i64 0) := hat 7 (by decide)
      have c8 : w1.cell? ⟨w.heap.size + 1, 8, none⟩ = some (.string ⟨#[]⟩) := hat 8 (by decide)
      clear hat
      obtain ⟨hcl, hfz⟩ := bcell hb1
      have hz := hb1.size
      simp at hz hcl hfz
      go_wp2_with fail
      clear hcl hfz
      refine bodyPost_ret (v := .tuple #[(.agg #[.int .i64 0, .int .i64 0, .int .i64 0, .int .i64 0, .int .i64 0, .int .i64 0, .int .i64 0, .int .i64 0, .string ⟨#[]⟩]), .int .i64 c]) (by simp [results, Try.results26, go_sem, c0, c1, c2, c3, c4, c5, c6, c7, c8]) rfl ?_
      have hbw : Below w.heap.size w w1 := (drew_bel1 ((((Below.refl _ _).alloc (Nat.le_refl _) _).alloc (by simp) _).alloc (by simp; omega) _)).trans (hb1.mono (by simp; omega))
      refine ⟨by rw [hR.out]; rfl, ?_⟩
      repeat (refine Below.setCell ?_ (by simp) _)
      exact hbw

theorem unpF_short {t : ByteArray} (h : t.size < 8) : unpF t = (zeroSig, 3) := by unfold unpF; rw [if_pos h]
set_option maxRecDepth 100000 in
set_option maxHeartbeats 1000000 in
theorem unpack_short (t : ByteArray) (w : World) (hs : t.size < 8) : Calls Try.prog 26 #[.string t] w fun e w' => e = .returned (.tuple #[sigV (unpF t).1, .int .i64 (unpF t).2]) ∧ Below w.heap.size w w' := by
  rw [unpF_short hs]
  have h1 : (t.size : Int) < 8 := by omega
  go_enter Try.func26, Try.ntmps26
  go_wp2_with fail
  go_returns
  exact ⟨rfl, ((Below.refl _ _).alloc (Nat.le_refl _) _).alloc (by simp) _⟩
theorem unpack_any (t : ByteArray) (w : World) : Calls Try.prog 26 #[.string t] w fun e w' => e = .returned (.tuple #[sigV (unpF t).1, .int .i64 (unpF t).2]) ∧ Below w.heap.size w w' := by
  by_cases hs : t.size < 8
  · exact unpack_short t w hs
  · exact unpack_go t w hs
end Go.Proofs.Ytbjhedfgnocflaa
