/-
  SHOTS: lists of values off a text, both sides. Conditions: lengths in the form's reach.
-/
import Derived.Test.YtpapblahnbeccaaRdr
import Derived.Test.YtpapblahnbeccaaCur
namespace Go.Proofs.Ytpapblahnbeccaa
open Go.RowKit Go.Lib
attribute [local go_sem ↓] Go.wp_at_zero Go.wp_at_succ

theorem elem_int64 : Elem Try.prog 112 2 (.int .i64 0) 1 8 := ⟨Try.underlying112, by kernel_rfl, rfl, by decide⟩

set_option maxRecDepth 100000 in
set_option maxHeartbeats 2000000 in
theorem rvalues_any (w : World) (B : Nat) (s : ByteArray × Int) (most : Int) (h : RdB w B s) (hs : okSz s) (hm : 0 ≤ most ∧ most ≤ 1000000) :
    Calls Try.prog 119 #[.pointer (some ⟨B, 0, none⟩), .int .i64 most] w fun e w' => ∃ v, e = .returned v ∧ OwnI w' w.heap.size .i64 2 v (listM most s).1 ∧ RdB w' B (listM most s).2 ∧ ToB B w w' := by
  have HC := hid (rcount_any w B s most h hs)
  have hcf := cntM_facts most hm.1 s
  unfold listM
  generalize cntM most s = q at *
  obtain ⟨n, t⟩ := q
  simp only at HC hcf ⊢
  obtain ⟨N, rfl⟩ := Int.eq_ofNat_of_zero_le hcf.1
  rw [show ((N : Int)).toNat = N from rfl]
  have ht : okSz t := by unfold okSz at hs ⊢; omega
  have hBl := h.lt
  clear h hs
  go_enter Try.func119, Try.ntmps119
  go_wp2_with fail
  refine HC.out.mono ?_
  rintro r w1 ⟨rfl, h1, h2⟩
  have H1 := hid h1
  have HT1 := hid h2
  have hsz1 := h2.size
  clear h1 h2
  go_wp2_with fail
  go_loopw [9, 5] (fun i v wr => ∃ (k : Nat) (vv : Value), k ≤ N ∧ i = .int .i64 k ∧ v = vv ∧ OwnI wr w.heap.size .i64 2 vv (valsN 64 k t).1 ∧ Hid (RdB wr B (valsN 64 k t).2) ∧ Hid (ToB B w wr) ∧ w.heap.size ≤ wr.heap.size) (fun i _ _ => N - (RowKit.intOf i).toNat)
  case atStart => exact ⟨0, _, Nat.zero_le _, rfl, rfl, OwnI.nil _ _ _ _, H1, HT1, hsz1⟩
  case round =>
    obtain ⟨k, vv, hk, rfl, hvv, hown, hS, hT, hsz⟩ := hrel
    have hvv2 := hvv.symm
    subst hvv2
    clear hvv
    by_cases hlt : k < N
    · have hvf := valsN_facts (bits := 64) (.inr rfl) k t
      have HSG := hid (rsigned_any wr B _ 64 (.inr rfl) hS.out (by unfold okSz at ht ⊢; omega))
      have hst : (valsN 64 (k + 1) t) = ((valsN 64 k t).1 ++ [(sgnM 64 (valsN 64 k t).2).1], (sgnM 64 (valsN 64 k t).2).2) := rfl
      have HST := hid hst
      have hln := hvf.1
      clear hst hvf
      generalize valsN 64 k t = Q at *
      generalize sgnM 64 Q.2 = z at *
      go_wp2_with fail
      refine HSG.out.mono ?_
      rintro r w2 ⟨rfl, h1, h2⟩
      have ho2 : OwnI w2 w.heap.size .i64 2 vv Q.1 := own_touch hown h2 (fun j hj e => by have := (World.ownsRow.lt hown j hj).1; omega)
      have H2 := hid h1
      have HT2 := hid (hT.out.trans h2)
      have hsz2 : w.heap.size ≤ w2.heap.size := Nat.le_trans hsz h2.size
      clear h1 h2 hown
      go_wp2_with (at_builtin; go_loud (refine app_int elem_int64 (y := z.1) rfl _ _ rfl rfl rfl rfl ho2 (by omega) (by omega) hsz2 ?_); intro v' w' ho' hb' _; have HO := hid ho'; have HBB := hid hb'; clear ho' hb')
      go_roundw
      case rel => exact ⟨k + 1, v', by omega, by go_num, rfl, by rw [HST.out]; exact HO.out, hid (by rw [HST.out]; exact H2.out.same (HBB.out.block B hBl)), hid (HT2.out.trans' (G := fun j => w.heap.size ≤ j) ⟨HBB.out.os, HBB.out.tape, HBB.out.output, HBB.out.size, fun j hj hG => HBB.out.block j (by omega)⟩ (fun i hi hG => by omega)), Nat.le_trans hsz2 HBB.out.size⟩
      case measure => simp [RowKit.intOf]; omega
    · obtain rfl : k = N := by omega
      go_wp2_with fail
      go_ret
      exact ⟨vv, rfl, hown, hS.out, hT.out⟩

set_option maxRecDepth 100000 in
set_option maxHeartbeats 2000000 in
theorem clist_any (w : World) (B : Nat) (Bc : Nat) (all : Int) (s : ByteArray × Int) (most : Int) (h : CuB w B all s) (hs : okSc s) (hm : 0 ≤ most ∧ most ≤ 1000000) (hp : Blk w Bc 218 [.pointer (some ⟨B, 0, none⟩)]) (hne : Bc ≠ B) :
    Calls Try.prog 128 #[.int .i64 most, .pointer (some ⟨Bc, 0, none⟩)] w fun e w' => ∃ v, e = .returned v ∧ OwnI w' w.heap.size .i64 2 v (listM most s).1 ∧ CuB w' B all (listM most s).2 ∧ ToC B w w' := by
  have HC := hid (ccount_any w B all s most h hs)
  have hcf := cntM_facts most hm.1 s
  unfold listM
  generalize cntM most s = q at *
  obtain ⟨n, t⟩ := q
  simp only at HC hcf ⊢
  obtain ⟨N, rfl⟩ := Int.eq_ofNat_of_zero_le hcf.1
  rw [show ((N : Int)).toNat = N from rfl]
  have ht : okSc t := by unfold okSc at hs ⊢; omega
  have hBl := h.lt
  have c0 := hp.cell (i := 0) rfl
  have HP := hid hp
  clear hp
  clear h hs
  go_enter Try.func128, Try.ntmps128
  go_wp2_with fail
  refine HC.out.mono ?_
  rintro r w1 ⟨rfl, h1, h2⟩
  have H1 := hid h1
  have HT1 := hid h2
  have hsz1 := h2.size
  clear h1 h2
  go_wp2_with fail
  go_loopw [8, 4] (fun i v wr => ∃ (k : Nat) (vv : Value), k ≤ N ∧ i = .int .i64 k ∧ v = vv ∧ OwnI wr w.heap.size .i64 2 vv (valsN 64 k t).1 ∧ Hid (CuB wr B all (valsN 64 k t).2) ∧ Hid (ToC B w wr) ∧ w.heap.size ≤ wr.heap.size) (fun i _ _ => N - (RowKit.intOf i).toNat)
  case atStart => exact ⟨0, _, Nat.zero_le _, rfl, rfl, OwnI.nil _ _ _ _, H1, HT1, hsz1⟩
  case round =>
    obtain ⟨k, vv, hk, rfl, hvv, hown, hS, hT, hsz⟩ := hrel
    have hvv2 := hvv.symm
    subst hvv2
    clear hvv
    have hpw : Blk wr Bc 218 [.pointer (some ⟨B, 0, none⟩)] := HP.out.touch hT.out hne
    have d0 := hpw.cell (i := 0) rfl
    clear hpw
    by_cases hlt : k < N
    · have hvf := valsN_facts (bits := 64) (.inr rfl) k t
      have HSG := hid (csigned_any wr B all _ 64 (.inr rfl) hS.out (by unfold okSc at ht ⊢; omega))
      have hst : (valsN 64 (k + 1) t) = ((valsN 64 k t).1 ++ [(sgnM 64 (valsN 64 k t).2).1], (sgnM 64 (valsN 64 k t).2).2) := rfl
      have HST := hid hst
      have hln := hvf.1
      clear hst hvf
      generalize valsN 64 k t = Q at *
      generalize sgnM 64 Q.2 = z at *
      go_wp2_with fail
      refine HSG.out.mono ?_
      rintro r w2 ⟨rfl, h1, h2⟩
      have ho2 : OwnI w2 w.heap.size .i64 2 vv Q.1 := own_touch hown h2 (fun j hj e => by have := (World.ownsRow.lt hown j hj).1; omega)
      have H2 := hid h1
      have HT2 := hid (hT.out.trans h2)
      have hsz2 : w.heap.size ≤ w2.heap.size := Nat.le_trans hsz h2.size
      clear h1 h2 hown
      go_wp2_with (at_builtin; go_loud (refine app_int elem_int64 (y := z.1) rfl _ _ rfl rfl rfl rfl ho2 (by omega) (by omega) hsz2 ?_); intro v' w' ho' hb' _; have HO := hid ho'; have HBB := hid hb'; clear ho' hb')
      go_roundw
      case rel => exact ⟨k + 1, v', by omega, by go_num, rfl, by rw [HST.out]; exact HO.out, hid (by rw [HST.out]; exact H2.out.same (HBB.out.block B hBl)), hid (HT2.out.trans' (G := fun j => w.heap.size ≤ j) ⟨HBB.out.os, HBB.out.tape, HBB.out.output, HBB.out.size, fun j hj hG => HBB.out.block j (by omega)⟩ (fun i hi hG => by omega)), Nat.le_trans hsz2 HBB.out.size⟩
      case measure => simp [RowKit.intOf]; omega
    · obtain rfl : k = N := by omega
      go_wp2_with fail
      go_ret
      exact ⟨vv, rfl, hown, hS.out, hT.out⟩
end Go.Proofs.Ytpapblahnbeccaa
