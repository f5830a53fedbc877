/-
  SHOTS: the reference's list closure. Conditions: lengths in the form's reach.
-/
import Derived.Test.YtpapblahnbeccaaFlt
import Derived.Test.YtpapblahnbeccaaLebE
import Derived.Test.YtpapblahnbeccaaPart
import Derived.Deep.RegionLaw
import Derived.Deep.CutBlock
namespace Go.Proofs.Ytpapblahnbeccaa
open Go.RowKit Go.Lib
attribute [local go_sem ↓] Go.wp_at_zero Go.wp_at_succ

/-- a string's own block -/
abbrev SBlk (w : World) (B : Nat) (O : List UInt8) : Prop := Blk w B 9 [.string (S O)]
abbrev TouchB (B : Nat) (w w' : World) : Prop := Touch (fun k => k = B) w w'

theorem wroteB {w w2 : World} {B : Nat} {O m : List UInt8} (h : SBlk w B O) (hb : Below w.drew.heap.size w.drew w2) : SBlk (w2.setCell ⟨B, 0, none⟩ (.string (S O ++ S m))) B (O ++ m) ∧ TouchB B w (w2.setCell ⟨B, 0, none⟩ (.string (S O ++ S m))) := by
  have hb' : Below w.heap.size w w2 := (drew_bel' (n := 1) (Below.refl _ _)).trans hb
  rw [S_append]
  exact ⟨(h.below hb').set 0 _, (Touch.of_below hb').trans (Touch.setCell (F := fun k => k = B) rfl _)⟩
theorem dcell {w : World} {B : Nat} {O : List UInt8} (h : SBlk w B O) : ∀ w', Below w.drew.heap.size w.drew w' → w'.cell? ⟨B, 0, none⟩ = some (.string (S O)) ∧ w'.frozen? ⟨B, 0, none⟩ = false := by
  intro w' hb
  have hk : SBlk w' B O := h.below ((drew_bel' (n := 1) (Below.refl _ _)).trans hb)
  exact ⟨hk.cell rfl, hk.free 0⟩

set_option maxRecDepth 100000 in
set_option maxHeartbeats 2000000 in
theorem slist_any (w : World) (B : Nat) (O : List UInt8) (vs : Value) (zs : List Int) (hB : SBlk w B O) (hz : ∀ w', TouchB B w w' → Ints w' .i64 vs zs) (hN : O.length + 10 + 10 * zs.length ≤ 70368744177664) :
    Calls Try.prog 183 #[vs, .pointer (some ⟨B, 0, none⟩)] w fun e w' => e = .returned (.tuple #[]) ∧ SBlk w' B (O ++ valO zs) ∧ TouchB B w w' := by
  have HZ := hid hz
  have HB := hid hB
  obtain ⟨ao, cap, hv, _⟩ := id (HZ.out w (Touch.refl _ _))
  subst hv
  have hlen := encU_len 9 (u64of (zs.length : Int))
  have hu := fun w' => u_any (zs.length : Int) w'
  have HU := hid hu
  have hD := dcell HB.out
  have HD := hid hD
  obtain ⟨q0, f0⟩ := hD _ (Below.refl _ _)
  unfold valO
  have hen : (encN (zs.length : Int)).length ≤ 10 := hlen
  generalize encN (zs.length : Int) = m at *
  have hs1 : (S O).size = O.length := S_size O
  have hs2 : (S m).size = m.length := S_size m
  have hs3 : ¬ (9223372036854775807 < O.length + m.length) := by omega
  clear hz hB hu hD hlen
  go_enter Try.func183, Try.ntmps183
  go_wp2_with fail
  go_cut [] (fun wx => SBlk wx B (O ++ m) ∧ TouchB B w wx)
  case first =>
   go_region_law (first | (go_simp; go_at_call 180; refine (HU.out _).mono ?_; rintro e w2 ⟨rfl, hb2⟩; obtain ⟨y0, y1⟩ := HD.out _ hb2; have HB2 := hid hb2; clear hb2))
   all_goals
     go_wp2_with fail
     go_meet
     exact wroteB HB.out HB2.out
  case rest =>
  obtain ⟨hb1, ht1⟩ := hcut
  have HB1 := hid hb1
  have HT1 := hid ht1
  clear hb1 ht1 HD q0 f0 hs1 hs2 hs3
  go_wp2_with fail
  go_loopw [12] (fun i wr => ∃ k : Nat, k ≤ zs.length ∧ i = .int .i64 k ∧ Hid (SBlk wr B (O ++ m ++ (zs.take k).flatMap (encS 9))) ∧ (O ++ m ++ (zs.take k).flatMap (encS 9)).length ≤ O.length + 10 + 10 * k ∧ Hid (TouchB B w wr)) (fun i _ => zs.length - (intOf i).toNat)
  case atStart => exact ⟨0, Nat.zero_le _, rfl, by simpa [Hid] using HB1.out, by simp; omega, HT1⟩
  case round =>
    obtain ⟨k, hk, rfl, hT, hN2, hbel⟩ := hrel
    by_cases hlt : k < zs.length
    · rcases (HZ.out wr hbel.out).open with ⟨_, _, _, e, _⟩ | ⟨lb, lo, cap', hv, _, hcap, hcap2, hcl⟩
      · rw [e] at hlt; simp at hlt
      simp only [Value.slice.injEq, true_and] at hv
      obtain ⟨rfl, rfl⟩ := hv
      have c0 := hcl k hlt
      have hst : O ++ m ++ (zs.take k).flatMap (encS 9) ++ encS 9 zs[k] = O ++ m ++ (zs.take (k + 1)).flatMap (encS 9) := by
        rw [List.take_succ_eq_append_getElem hlt, List.flatMap_append, List.append_assoc _ _ (encS 9 zs[k])]
        simp
      have hl10 := encS_length 9 zs[k]
      have hlb := fun w' => rlebS_any zs[k] w'
      have HST := hid hst
      generalize O ++ m ++ (zs.take k).flatMap (encS 9) = Q at *
      generalize zs[k] = z at *
      generalize encS 9 z = q at *
      have HLB := hid hlb
      have hD := dcell hT.out
      have HD := hid hD
      obtain ⟨q0, f0⟩ := hD _ (Below.refl _ _)
      have hs1 : (S Q).size = Q.length := S_size Q
      have hs2 : (S q).size = q.length := S_size q
      have hs3 : ¬ (9223372036854775807 < Q.length + q.length) := by omega
      have hl3 : (Q ++ q).length ≤ O.length + 10 + 10 * (k + 1) := by rw [List.length_append]; omega
      clear hst hlb hD hcl
      go_wp2_with fail
      go_region_law (first | (go_simp; go_at_call 182; refine (HLB.out _).mono ?_; rintro e w2 ⟨rfl, hb2⟩; obtain ⟨y0, y1⟩ := HD.out _ hb2; have HB2 := hid hb2; clear hb2))
      all_goals
        obtain ⟨hb1, ht1⟩ := wroteB hT.out HB2.out
        rw [HST.out] at hb1 hl3
        have HB1 := hid hb1
        have HT1 := hid ht1
        clear hb1 ht1
        go_wp2_with fail
        go_roundw
        case rel => exact ⟨k + 1, by omega, by go_num, HB1, hl3, hid (hbel.out.trans HT1.out)⟩
        case measure => simp [intOf]; omega
    · obtain rfl : k = zs.length := by omega
      go_wp2_with fail
      go_end0
      have h9 := hT.out
      rw [List.take_length] at h9
      exact ⟨rfl, by rw [← List.append_assoc]; exact h9, hbel.out⟩
end Go.Proofs.Ytpapblahnbeccaa
