/-
  MODULES READ, the program's reader: section 2. Conditions: a text in the form's reach. Printed by a program of mine.
-/
import Derived.Test.YtakfineljffoaaaGreatDoorGBinReads27
import Derived.Test.YtakfineljffoaaaGreatDoorGBinReads30
namespace Go.Proofs.YtakfineljffoaaaGreatDoor
open Go.RowKit Go.Lib

set_option maxRecDepth 100000 in
set_option maxHeartbeats 8000000 in
theorem bsec2_any (w : World) (H M B : Nat) (t : ByteArray) (a : Nat) (vt vi vf vg vx ve vd : Value) (m : Mdl) (cs : List Cd) (h : MS w w H M B t a vt vi vf vg vx ve vd m) (ha : a ≤ t.size) (hs : t.size ≤ 1000000000) (WW : World) (hT : UTabs WW) (hW : Below WW.heap.size WW w) (hWM : WW.heap.size ≤ M) (hl : m.imports.length ≤ 1000) :
    Calls Tryz.prog 16 #[.pointer (some ⟨B, 0, none⟩), .int .u8 2, .pointer (some ⟨M, 0, none⟩)] w (PSec H M B t (.int .i64 0) (secM 2 (m, cs) (left t a, 0)).1.1 (secM 2 (m, cs) (left t a, 0)).2 w) := by
  have A0 := hid h
  have HTB := hid (fun (wx : World) (hx : Touch (FS M H) w wx) => hT.below (hW.trans (hx.below hW.size (fun j hj => by rcases hj with rfl | hj; exact hWM; exact Nat.le_trans (Nat.le_trans hWM (Nat.le_of_lt A0.out.hM)) hj))))
  clear h hT hW hWM
  obtain ⟨P, hP⟩ : ∃ P, secM 2 (m, cs) (left t a, 0) = P := ⟨_, rfl⟩
  have HM0 := hid hP.symm
  rw [hP]
  clear hP
  unfold PSec
  go_enter Tryz.func16, Tryz.ntmps16
  go_wp2_with fail
  have HB0 := hid (show m.imports.length ≤ 1000 + 0 from hl)
  clear hl
  have hcf := cntM_facts 16 (by decide) (left t a, 0)
  refine (bcount_any _ B t a 16 A0.out.rd ha hs).mono ?_
  rintro r w1 ⟨ht1, hor1⟩
  have HBD1 := hid (A0.out.bad ht1)
  have HA1 := hid (fun aa hh => A0.out.read (a' := aa) ht1 hh)
  clear ht1
  obtain ⟨v1, s1, hv1⟩ : ∃ v s, cntM 16 (left t a, 0) = (v, s) := ⟨_, _, rfl⟩
  have HM1 := hid (show P = loopM 2 v1.toNat (m, cs) s1 from HM0.out.trans (by rw [secM, if_neg (by decide), show limM 2 = 16 from rfl, hv1]))
  rw [hv1] at hor1
  rw [hv1] at hcf
  clear hv1
  rcases hor1 with ⟨hz, rfl, a1, ha1, hl, hb1⟩ | ⟨hnz, rfl⟩
  case inr =>
    have HN := hid hnz
    clear hnz
    go_wp2_with fail
    exact ⟨rfl, HBD1.out.1, .inr ⟨by rw [HM1.out, loop_st HN.out]; exact HN.out, by rw [HM1.out, loop_st HN.out], HBD1.out.2⟩⟩
  have hs1 : s1 = (left t a1, 0) := Prod.ext hl hz
  subst hs1
  have A1 := hid (HA1.out a1 hb1)
  clear hz hl hb1 HA1 HBD1
  obtain ⟨N, rfl⟩ := Int.eq_ofNat_of_zero_le hcf.1
  have hN : N ≤ 16 := by have := hcf.2.1; omega
  have HM1 := hid (show P = loopM 2 N (m, cs) (left t a1, 0) from HM1.out)
  clear hcf
  go_wp2_with fail
  obtain ⟨m0, hm0⟩ : ∃ m0 : Mdl, m0 = m := ⟨_, rfl⟩
  go_loopw [35] (fun i wr => ∃ (k : Nat) (vt vi vf vg vx ve vd : Value) (mm : Mdl) (aa : Nat), k ≤ N ∧ i = .int .i64 k ∧ aa ≤ t.size ∧ Hid (mm.imports.length ≤ 1000 + k) ∧ Hid (P = loopM 2 (N - k) (mm, cs) (left t aa, 0)) ∧ Hid (MS w wr H M B t aa vt vi vf vg vx ve vd mm)) (fun i _ => N - (RowKit.intOf i).toNat)
  case atStart => exact ⟨0, _, _, _, _, _, _, _, m, a1, Nat.zero_le _, rfl, ha1, HB0, HM1, A1⟩
  case round =>
    clear A0 A1
    obtain ⟨k, vt, vi, vf, vg, vx, ve, vd, mm, a2, hk, rfl, ha2, HBN, HM2, A2⟩ := hrel
    by_cases hlt : k < N
    · have HM2 := hid (show P = LG 2 up2 (N - (k + 1)) (mm, cs) (impM (left t a2, 0)) from HM2.out.trans (by rw [show N - k = N - (k + 1) + 1 by omega]; exact loop_go rfl rfl))
      obtain ⟨n0, hn0⟩ : ∃ n, mm.imports.length = n := ⟨_, rfl⟩
      obtain ⟨css0, -, hrow⟩ := A2.out.mo.i
      rw [hn0] at hrow
      obtain ⟨ao, cap, rfl, _⟩ := own_sl hrow
      have HN0 := hid hn0
      clear hrow hn0
      go_wp2_with fail
      refine (bname_any _ B t a2 A2.out.rd ha2 hs (HTB.out _ A2.out.tt)).mono ?_
      rintro r w3 ⟨ht3, hor3⟩
      have HBD3 := hid (A2.out.bad ht3)
      have HA3 := hid (fun aa hh => A2.out.read (a' := aa) ht3 hh)
      clear ht3
      obtain ⟨v3, s3, hv3⟩ : ∃ v s, namM (left t a2, 0) = (v, s) := ⟨_, _, rfl⟩
      have HM3 := hid (show P = LG 2 up2 (N - (k + 1)) (mm, cs) (impA v3 s3) from HM2.out.trans (by unfold impM; rw [hv3]))
      rw [hv3] at hor3
      clear hv3
      rcases hor3 with ⟨hz, rfl, a3, ha3, hl, hb3⟩ | ⟨hnz, rfl⟩
      case inr =>
        have HN := hid hnz
        clear hnz
        go_wp2_with fail
        exact ⟨rfl, HBD3.out.1, .inr ⟨by rw [HM3.out, LG_st (by rw [impA_st HN.out]; exact HN.out), impA_st HN.out]; exact HN.out, by rw [HM3.out, LG_st (by rw [impA_st HN.out]; exact HN.out), impA_st HN.out], HBD3.out.2⟩⟩
      have hs3 : s3 = (left t a3, 0) := Prod.ext hl hz
      subst hs3
      have A3 := hid (HA3.out a3 hb3)
      clear hz hl hb3 HA3 HBD3
      go_wp2_with fail
      have HM3 := hid (show P = LG 2 up2 (N - (k + 1)) (mm, cs) (expM (sayM (!(v3.toList == ([104, 111, 115, 116] : List UInt8))) 6 (left t a3, 0))) from HM3.out)
      refine (throw_any _ _ _ _).mono ?_
      rintro r wt (⟨hq, rfl, hwt⟩ | ⟨hq, rfl, hwt⟩)
      case inl =>
        have hwt := hwt.symm
        subst hwt
        have HQ := hid (show P = LG 2 up2 (N - (k + 1)) (mm, cs) (expM (left t a3, 6)) from HM3.out.trans (by rw [show (!(v3.toList == ([104, 111, 115, 116] : List UInt8))) = true from hq, say_yes rfl]))
        clear hq
        go_wp2_with fail
        have HN : Hid ((6 : Int) ≠ 0) := hid (by decide)
        exact ⟨rfl, A3.out.tt, .inr ⟨by rw [HQ.out, LG_st (by rw [expM_st HN.out]; exact HN.out), expM_st HN.out]; exact HN.out, by rw [HQ.out, LG_st (by rw [expM_st HN.out]; exact HN.out), expM_st HN.out], A3.out.m11⟩⟩
      have hwt := hwt.symm
      subst hwt
      have HM3 := hid (show P = LG 2 up2 (N - (k + 1)) (mm, cs) (expM (left t a3, 0)) from HM3.out.trans (by rw [show (!(v3.toList == ([104, 111, 115, 116] : List UInt8))) = false from hq, say_no]))
      clear hq
      go_wp2_with fail
      refine (bname_any _ B t a3 A3.out.rd ha3 hs (HTB.out _ A3.out.tt)).mono ?_
      rintro r w4 ⟨ht4, hor4⟩
      have HBD4 := hid (A3.out.bad ht4)
      have HA4 := hid (fun aa hh => A3.out.read (a' := aa) ht4 hh)
      clear ht4
      obtain ⟨v4, s4, hv4⟩ : ∃ v s, namM (left t a3, 0) = (v, s) := ⟨_, _, rfl⟩
      have HM4 := hid (show P = LG 2 up2 (N - (k + 1)) (mm, cs) (expB v4 s4) from HM3.out.trans (by unfold expM; rw [hv4]))
      rw [hv4] at hor4
      clear hv4
      rcases hor4 with ⟨hz, rfl, a4, ha4, hl, hb4⟩ | ⟨hnz, rfl⟩
      case inr =>
        have HN := hid hnz
        clear hnz
        go_wp2_with fail
        exact ⟨rfl, HBD4.out.1, .inr ⟨by rw [HM4.out, LG_st (by rw [expB_st HN.out]; exact HN.out), expB_st HN.out]; exact HN.out, by rw [HM4.out, LG_st (by rw [expB_st HN.out]; exact HN.out), expB_st HN.out], HBD4.out.2⟩⟩
      have hs4 : s4 = (left t a4, 0) := Prod.ext hl hz
      subst hs4
      have A4 := hid (HA4.out a4 hb4)
      clear hz hl hb4 HA4 HBD4
      have HS4 := A4
      have A4 := hid (MX.new A4.out #[.string v4, .int .i64 0] 81)
      go_wp2_with fail
      generalize w4.heap.size = X at *
      have HRL := hid (show ∀ j, (Value.slice ao n0 cap).ownBlock = some j → j < w4.heap.size from fun j hj => by obtain ⟨css1, -, hr1⟩ := HS4.out.mo.i; exact (World.ownsRow.lt hr1 j hj).2)
      clear HS4
      refine (bfixed_any _ B t a4 0 6 (by decide) A4.out.rd ha4 hs).mono ?_
      rintro r w5 ⟨ht5, hor5⟩
      have HBD5 := hid (A4.out.bad ht5)
      have HA5 := hid (fun aa hh => A4.out.read (a' := aa) ht5 hh)
      clear ht5
      obtain ⟨s5, hv5⟩ : ∃ s, mustM 0 6 (left t a4, 0) = s := ⟨_, rfl⟩
      have HM5 := hid (show P = LG 2 up2 (N - (k + 1)) (mm, cs) (expC v4 s5) from HM4.out.trans (by unfold expB; rw [hv5]))
      rw [hv5] at hor5
      clear hv5
      rcases hor5 with ⟨hz, rfl, a5, ha5, hl, hb5⟩ | ⟨hnz, rfl⟩
      case inr =>
        have HN := hid hnz
        clear hnz
        go_wp2_with fail
        exact ⟨rfl, HBD5.out.1, .inr ⟨by rw [HM5.out, LG_st (by rw [expC_st HN.out]; exact HN.out), expC_st HN.out]; exact HN.out, by rw [HM5.out, LG_st (by rw [expC_st HN.out]; exact HN.out), expC_st HN.out], HBD5.out.2⟩⟩
      have hs5 : s5 = (left t a5, 0) := Prod.ext hl hz
      subst hs5
      have A5 := hid (HA5.out a5 hb5)
      clear hz hl hb5 HA5 HBD5
      go_wp2_with fail
      refine (bnumber_any _ B t a5 A5.out.rd ha5 hs).mono ?_
      rintro r w6 ⟨ht6, hor6⟩
      have HBD6 := hid (A5.out.bad ht6)
      have HA6 := hid (fun aa hh => A5.out.read (a' := aa) ht6 hh)
      clear ht6
      obtain ⟨v6, s6, hv6⟩ : ∃ v s, numM (left t a5, 0) = (v, s) := ⟨_, _, rfl⟩
      have HM6 := hid (show P = LG 2 up2 (N - (k + 1)) (mm, cs) ((v4, v6), s6) from HM5.out.trans (by unfold expC; rw [hv6]))
      rw [hv6] at hor6
      clear hv6
      rcases hor6 with ⟨hz, rfl, a6, ha6, hl, hb6⟩ | ⟨hnz, rfl⟩
      case inr =>
        have HN := hid hnz
        clear hnz
        go_wp2_with fail
        exact ⟨rfl, HBD6.out.1, .inr ⟨by rw [HM6.out, LG_st HN.out]; exact HN.out, by rw [HM6.out, LG_st HN.out], HBD6.out.2⟩⟩
      have hs6 : s6 = (left t a6, 0) := Prod.ext hl hz
      subst hs6
      have A6 := hid (HA6.out a6 hb6)
      clear hz hl hb6 HA6 HBD6
      have y1 := A6.out.x.cell (i := 1) rfl
      have yf := A6.out.x.free
      go_wp2_with fail
      have A7 := hid (A6.out.set 1 (.int .i64 v6))
      clear y1 yf
      have HX7 := hid (show ∀ wx, EIm wx H [.string v4, .int .i64 v6] (v4, v6) from fun _ => rfl)
      have A7 := hid A7.out.drew
      go_wp2_with fail
      refine wp_region_tail (S := (fun w' => w'.cell? ⟨M, 1, none⟩ = some (.slice ao n0 cap) ∧ w'.cell? ⟨X, 0, none⟩ = some (.string v4) ∧ w'.cell? ⟨X, 1, none⟩ = some (.int .i64 v6))) 10 (by kernel_rfl) (by kernel_rfl) ?_ (fun hHeld => ?_)
      · exact ⟨A7.out.ms.mo.blk.cell (i := 1) rfl, A7.out.x.cell (i := 0) rfl, A7.out.x.cell (i := 1) rfl⟩
      repeat ((first | refine tk 0 ?_ rfl ?_ ?_ | refine tk 1 ?_ rfl ?_ ?_ | refine tk 2 ?_ rfl ?_ ?_ | refine tk 3 ?_ rfl ?_ ?_ | refine tk 4 ?_ rfl ?_ ?_ | refine tk 5 ?_ rfl ?_ ?_ | refine tk 8 ?_ rfl ?_ ?_ | refine tk 9 ?_ rfl ?_ ?_); rotate_left; (intro wy hSw; (try dsimp only at hSw); (go_simp <;> with_reducible rfl)); (try simp only [List.getElem_toArray, List.getElem_cons_zero, List.getElem_cons_succ, Act.put, List.setIfInBounds_toArray, List.set_cons_zero, List.set_cons_succ]))
      generalize World.drew (w6.setCell ⟨X, 1, none⟩ (.int .i64 v6)) = wz at *
      refine wpT_one (k := 6) rfl (by kernel_rfl) (fun K hK => ?_)
      go_simp
      refine hK.out _ _ ?_ (fun hHeld => ?_)
      · exact ⟨cell_alloc _ (A7.out.ms.mo.blk.cell (i := 1) rfl), cell_alloc _ (A7.out.x.cell (i := 0) rfl), cell_alloc _ (A7.out.x.cell (i := 1) rfl)⟩
      clear hK K
      (try simp only [Act.put, List.setIfInBounds_toArray, List.set_cons_zero, List.set_cons_succ])
      obtain ⟨css, HC, hrow⟩ := A7.out.ms.mo.i
      have HBN2 := HBN.out
      have HN02 := HN0.out
      rw [HN02] at hrow HBN2
      refine wpT_one (k := 7) rfl (by kernel_rfl) (fun K hK => ?_)
      refine step_one1 elem_importv (cs := [.string v4, .int .i64 v6]) (by rfl) _ _ (by rfl) (by rfl) (by rfl) rfl hrow rfl (by intro c hc; simp at hc; rcases hc with rfl | rfl <;> rfl) (by omega) (by omega) A7.out.ms.size ?_
      intro v' w9 ho6 hb6 hg6
      obtain ⟨az, cz, rfl, _⟩ := own_sl ho6
      have C4 := hid (A7.out.ms.pushI HN02 HC hrow (HX7.out _) hg6.1 ho6)
      have y0 := C4.out.1.1
      have yf := C4.out.1.2
      have hxk := A7.out.xkeep HRL.out hg6.1
      refine hK.out _ _ ?_ (fun hHeld => ?_)
      · exact ⟨y0, hxk.cell (i := 0) rfl, hxk.cell (i := 1) rfl⟩
      clear hK K
      (try simp only [Act.put, List.setIfInBounds_toArray, List.set_cons_zero, List.set_cons_succ])
      repeat ((first | refine tk 8 ?_ rfl ?_ ?_ | refine tk 9 ?_ rfl ?_ ?_); rotate_left; (intro wy hSw; (try dsimp only at hSw); (go_simp <;> with_reducible rfl)); (try simp only [List.getElem_toArray, List.getElem_cons_zero, List.getElem_cons_succ, Act.put, List.setIfInBounds_toArray, List.set_cons_zero, List.set_cons_succ]))
      refine wpT_done (by kernel_rfl) ?_
      go_wp2_with fail
      go_roundw
      case rel => exact ⟨k + 1, _, _, _, _, _, _, _, _, a6, hlt, by go_num, ha6, hid (by have := HBN.out; simp; omega), hid HM6.out, hid C4.out.2⟩
      case measure => simp [RowKit.intOf]; omega
    obtain rfl : k = N := by omega
    have HM2 := hid (show P = ((mm, cs), (left t a2, 0)) from HM2.out.trans (by rw [Nat.sub_self]; rfl))
    go_wp2_with fail
    go_ret
    exact ⟨A2.out.tt, .inl ⟨by rw [HM2.out], rfl, vt, vi, vf, vg, vx, ve, vd, a2, ha2, by rw [HM2.out], by rw [HM2.out]; exact A2.out.mo, A2.out.rd⟩⟩
end Go.Proofs.YtakfineljffoaaaGreatDoor
namespace Go.Proofs.YtakfineljffoaaaGreatDoor
open Go.RowKit Go.Lib

/-- the piece's answer, and what stands behind it -/
def WB {α : Type} (z : ByteArray) (p : SB) (q : α × SB) : α × SB := (q.1, if (dneM q.2).2 ≠ 0 then (z, (dneM q.2).2) else p)
theorem LW_st {α : Type} {id : Nat} {up : MC → α → MC} {n : Nat} {x : MC} {z : ByteArray} {p : SB} {q : α × SB} {s : SB} (h : q.2 = s) (hs : s.2 ≠ 0) : (LG id up n x (WB z p q)).2.2 = s.2 := by
  have e : (WB z p q).2 = (z, s.2) := by unfold WB; rw [h, dne_st hs, if_pos hs]
  rw [LG_st (by rw [e]; exact hs), e]
theorem with_st {α : Type} {id : Nat} {up : MC → α → MC} {n : Nat} {x : MC} {F : SB → α × SB} {d : α} {s : SB} (h : (pieM s).2.2 ≠ 0) : (LG id up n x (withM F d s)).2.2 = (pieM s).2.2 := by
  have e : (withM F d s).2 = (pieM s).2 := by unfold withM; rw [if_pos h]
  rw [LG_st (by rw [e]; exact h), e]
def LB (n : Nat) (q : List Int × SB) : Cd × SB := codB n q.1 q.2
theorem LB_st {n : Nat} {q : List Int × SB} (h : q.2.2 ≠ 0) : (LB n q).2 = q.2 := codB_st n h
theorem codB_succ (n : Nat) (xs : List Int) (s : SB) : codB (n + 1) xs s = LB n (grpM xs s) := rfl
theorem pie_size (s : SB) : (pieM s).1.size ≤ s.1.size := by
  have hf := (numM_facts s).2.2.1
  unfold pieM
  split
  · exact Nat.zero_le _
  · split
    · exact Nat.zero_le _
    · simp only [ByteArray.size_extract]
      omega
/-- a function's code under way: the section's reader B, the piece's reader R, the function's block X -/
structure MY (w0 ws w : World) (H M B : Nat) (t : ByteArray) (a : Nat) (vt vi vf vg vx ve vd : Value) (m : Mdl) (R : Nat) (p : ByteArray) (b X : Nat) (cs : List Value) : Prop where
  s : MS w0 ws H M B t a vt vi vf vg vx ve vd m
  r0 : ∃ b0, BrB ws R p b0
  hR : H ≤ R
  nRB : R ≠ B
  rd : BrB w R p b
  x : Blk w X 66 cs
  tx : Touch (fun k => k = R ∨ ws.heap.size ≤ k) ws w
  hX : ws.heap.size ≤ X
  ne : X ≠ R
theorem MY.kt {w0 ws w : World} {H M B : Nat} {t : ByteArray} {a : Nat} {vt vi vf vg vx ve vd : Value} {m : Mdl} {R : Nat} {p : ByteArray} {b X : Nat} {cs : List Value} (h : MY w0 ws w H M B t a vt vi vf vg vx ve vd m R p b X cs) : KT 46 ws w := by
  obtain ⟨a0, g⟩ := h.r0
  exact KT.apart g h.tx
theorem MY.ms {w0 ws w : World} {H M B : Nat} {t : ByteArray} {a : Nat} {vt vi vf vg vx ve vd : Value} {m : Mdl} {R : Nat} {p : ByteArray} {b X : Nat} {cs : List Value} (h : MY w0 ws w H M B t a vt vi vf vg vx ve vd m R p b X cs) : MS w0 w H M B t a vt vi vf vg vx ve vd m := by
  have hz := h.s.size
  have hB : B < ws.heap.size := h.s.rd.lt
  exact ⟨h.s.rd.touch h.tx (fun e => by rcases e with e | e; exact h.nRB e.symm; omega), h.s.mo.kt h.kt noM_rd, h.s.tt.trans (h.tx.mono (fun k _ e => by rcases e with rfl | e; exact .inr h.hR; exact .inr (Nat.le_trans hz e))), h.s.hM, h.s.hB, h.s.hH⟩
theorem MY.size {w0 ws w : World} {H M B : Nat} {t : ByteArray} {a : Nat} {vt vi vf vg vx ve vd : Value} {m : Mdl} {R : Nat} {p : ByteArray} {b X : Nat} {cs : List Value} (h : MY w0 ws w H M B t a vt vi vf vg vx ve vd m R p b X cs) : ws.heap.size ≤ w.heap.size := h.tx.size
theorem MY.tt {w0 ws w : World} {H M B : Nat} {t : ByteArray} {a : Nat} {vt vi vf vg vx ve vd : Value} {m : Mdl} {R : Nat} {p : ByteArray} {b X : Nat} {cs : List Value} (h : MY w0 ws w H M B t a vt vi vf vg vx ve vd m R p b X cs) : Touch (FS M H) w0 w := h.ms.tt
theorem MY.m11 {w0 ws w : World} {H M B : Nat} {t : ByteArray} {a : Nat} {vt vi vf vg vx ve vd : Value} {m : Mdl} {R : Nat} {p : ByteArray} {b X : Nat} {cs : List Value} (h : MY w0 ws w H M B t a vt vi vf vg vx ve vd m R p b X cs) : M11 w M := h.ms.m11
theorem MY.bad {w0 ws w : World} {H M B : Nat} {t : ByteArray} {a : Nat} {vt vi vf vg vx ve vd : Value} {m : Mdl} {R : Nat} {p : ByteArray} {b X : Nat} {cs : List Value} {w' : World} (h : MY w0 ws w H M B t a vt vi vf vg vx ve vd m R p b X cs) (ht : Touch (fun k => k = R) w w') : Touch (FS M H) w0 w' ∧ M11 w' M :=
  ⟨h.tt.trans (ht.mono (fun _ _ e => .inr (e ▸ h.hR))), _, rfl, (KT.touch h.rd ht).blk h.ms.mo.blk rfl⟩
theorem MY.read {w0 ws w : World} {H M B : Nat} {t : ByteArray} {a : Nat} {vt vi vf vg vx ve vd : Value} {m : Mdl} {R : Nat} {p : ByteArray} {b X : Nat} {cs : List Value} {w' : World} {b' : Nat} (h : MY w0 ws w H M B t a vt vi vf vg vx ve vd m R p b X cs) (ht : Touch (fun k => k = R) w w') (hb : BrB w' R p b') : MY w0 ws w' H M B t a vt vi vf vg vx ve vd m R p b' X cs :=
  ⟨h.s, h.r0, h.hR, h.nRB, hb, h.x.touch ht (fun e => h.ne e), h.tx.trans' ht (fun _ _ e => .inl e), h.hX, h.ne⟩
theorem MY.below {w0 ws w : World} {H M B : Nat} {t : ByteArray} {a : Nat} {vt vi vf vg vx ve vd : Value} {m : Mdl} {R : Nat} {p : ByteArray} {b X : Nat} {cs : List Value} {w' : World} (h : MY w0 ws w H M B t a vt vi vf vg vx ve vd m R p b X cs) (hb : Below w.heap.size w w') : MY w0 ws w' H M B t a vt vi vf vg vx ve vd m R p b X cs :=
  ⟨h.s, h.r0, h.hR, h.nRB, h.rd.below hb, h.x.below hb, h.tx.trans (Touch.of_below hb), h.hX, h.ne⟩
theorem MY.drew {w0 ws w : World} {H M B : Nat} {t : ByteArray} {a : Nat} {vt vi vf vg vx ve vd : Value} {m : Mdl} {R : Nat} {p : ByteArray} {b X : Nat} {cs : List Value} (h : MY w0 ws w H M B t a vt vi vf vg vx ve vd m R p b X cs) : MY w0 ws w.drew H M B t a vt vi vf vg vx ve vd m R p b X cs := h.below (drew_bel' (n := 1) (Below.refl _ _))
theorem MY.set {w0 ws w : World} {H M B : Nat} {t : ByteArray} {a : Nat} {vt vi vf vg vx ve vd : Value} {m : Mdl} {R : Nat} {p : ByteArray} {b X : Nat} {cs : List Value} (h : MY w0 ws w H M B t a vt vi vf vg vx ve vd m R p b X cs) (i : Nat) (v : Value) : MY w0 ws (w.setCell ⟨X, i, none⟩ v) H M B t a vt vi vf vg vx ve vd m R p b X (cs.set i v) :=
  ⟨h.s, h.r0, h.hR, h.nRB, h.rd.other (a := ⟨X, i, none⟩) h.ne v, h.x.set i v, h.tx.trans (Touch.setCell (a := ⟨X, i, none⟩) (.inr h.hX) v), h.hX, h.ne⟩
theorem MY.adv {w0 ws w : World} {H M B : Nat} {t : ByteArray} {a : Nat} {vt vi vf vg vx ve vd : Value} {m : Mdl} {R : Nat} {p : ByteArray} {b X : Nat} {cs : List Value} (h : MY w0 ws w H M B t a vt vi vf vg vx ve vd m R p b X cs) (b' : Nat) : MY w0 ws (w.setCell ⟨R, 1, none⟩ (.int .i64 (b' : Int))) H M B t a vt vi vf vg vx ve vd m R p b' X cs :=
  h.read (Touch.setCell (F := fun k => k = R) (a := ⟨R, 1, none⟩) rfl _) (h.rd.set 1 (.int .i64 (b' : Int)))
theorem MY.new {w0 ws : World} {H M B : Nat} {t : ByteArray} {a : Nat} {vt vi vf vg vx ve vd : Value} {m : Mdl} {R : Nat} {p : ByteArray} {b : Nat} (h : MS w0 ws H M B t a vt vi vf vg vx ve vd m) (hr : BrB ws R p b) (hR : H ≤ R) (hn : R ≠ B) (cs : Array Value) : MY w0 ws (ws.alloc (.cells cs 66)) H M B t a vt vi vf vg vx ve vd m R p b ws.heap.size cs.toList :=
  ⟨h, ⟨b, hr⟩, hR, hn, hr.alloc _, Blk.new ws cs _ _ rfl, (Touch.refl _ _).alloc _, Nat.le_refl _, Nat.ne_of_gt hr.lt⟩
/-- one kind more in the function's locals -/
theorem MY.pushK {w0 ws w w' : World} {H M B : Nat} {t : ByteArray} {a : Nat} {vt vi vf vg vx ve vd : Value} {m : Mdl} {R : Nat} {p : ByteArray} {b X : Nat} {c d u u' : Value} {xs ys : List Int} (h : MY w0 ws w H M B t a vt vi vf vg vx ve vd m R p b X [c, u, d]) (ho : OwnI w ws.heap.size .u8 68 u xs) (hg : w.grownBy w' u.ownBlock) (ho' : OwnI w' ws.heap.size .u8 68 u' ys) :
    (w'.cell? ⟨X, 1, none⟩ = some u ∧ w'.frozen? ⟨X, 1, none⟩ = false) ∧ MY w0 ws (w'.setCell ⟨X, 1, none⟩ u') H M B t a vt vi vf vg vx ve vd m R p b X [c, u', d] ∧ OwnI (w'.setCell ⟨X, 1, none⟩ u') ws.heap.size .u8 68 u' ys := by
  have k : KT 68 w w' := KT.grown hg ho
  have hx := k.blk h.x rfl
  have h1 : MY w0 ws w' H M B t a vt vi vf vg vx ve vd m R p b X [c, u, d] := ⟨h.s, h.r0, h.hR, h.nRB, k.blk h.rd rfl, hx, h.tx.trans (Touch.grown hg (fun j hj => .inr ((World.ownsRow.lt ho j hj).1))), h.hX, h.ne⟩
  have k2 : KT 66 w' (w'.setCell ⟨X, 1, none⟩ u') := KT.set hx u'
  exact ⟨⟨hx.cell (i := 1) rfl, hx.free 1⟩, h1.set 1 u', k2.own ho' rfl⟩
/-- one cell of a row of threes is turned -/
theorem own_cell3 {w : World} {base : Nat} {e : TypeId} {g n cap : Nat} {xs : List Value} (h : w.ownsRow base e 3 (.slice (some ⟨g, 0, none⟩) n cap) n xs) (i : Nat) (a : Value) (hi : i < n * 3) : (w.setCell ⟨g, i, none⟩ a).ownsRow base e 3 (.slice (some ⟨g, 0, none⟩) n cap) n (xs.set i a) ∧ KT e w (w.setCell ⟨g, i, none⟩ a) ∧ (∃ y, w.cell? ⟨g, i, none⟩ = some y) ∧ w.frozen? ⟨g, i, none⟩ = false ∧ base ≤ g := by
  obtain ⟨h1, h2⟩ := h
  rcases h2 with ⟨h2, _⟩ | ⟨g', cap', cur, hv, hg, hh, hn, hc, hs, ht⟩
  · simp at h2
  simp only [Value.slice.injEq, Option.some.injEq, Addr.mk.injEq, and_true, true_and] at hv
  obtain ⟨rfl, rfl⟩ := hv
  have hb : Blk w g e cur.toList := by unfold Blk; simpa using hh
  have hlt : i < cur.toList.length := by
    have : n * 3 ≤ cap * 3 := Nat.mul_le_mul_right _ hn
    simp only [Array.length_toList]
    omega
  refine ⟨⟨by rw [List.length_set]; exact h1, .inr ⟨g, cap, _, rfl, hg, heap_setCell_same w g i cur e a hh, hn, hc, by simpa using hs, ?_⟩⟩, KT.set hb a, ⟨_, hb.cell (List.getElem?_eq_getElem hlt)⟩, hb.free i, hg⟩
  rw [← ht]
  simp [List.take_set]
theorem flat_put : ∀ (css : List (List Value)) (i : Nat) (hi : i < css.length), (∀ c ∈ css, c.length = 3) → ∀ (c0 c1 c2 u v : Value), css[i] = [c0, c1, c2] → (css.flatten.set (i * 3 + 1) u).set (i * 3 + 2) v = (css.set i [c0, u, v]).flatten := by
  intro css
  induction css with
  | nil => intro i hi; simp at hi
  | cons d css ih =>
    intro i hi h3 c0 c1 c2 u v hc
    cases i with
    | zero =>
      simp only [List.getElem_cons_zero] at hc
      subst hc
      simp
    | succ i =>
      have hd : d.length = 3 := h3 d (by simp)
      simp only [List.getElem_cons_succ] at hc
      rw [List.flatten_cons, List.set_append_right _ _ (by omega), List.set_append_right _ _ (by omega), List.set_cons_succ, List.flatten_cons, ← ih i (by simpa using hi) (fun c h => h3 c (by simp [h])) c0 c1 c2 u v hc]
      congr 3 <;> omega
theorem efn_len {w : World} {b : Nat} {cs : List Value} {x : Fn} (h : EFn w b cs x) : cs.length = 3 := by
  obtain ⟨u, v, rfl, _⟩ := h
  rfl
/-- a function's locals and body are laid -/
theorem MO.putF {w : World} {H M : Nat} {vt vi vf vg vx ve vd : Value} {m : Mdl} (h : MO w H M vt vi vf vg vx ve vd m) (i : Nat) (hi : i < m.funcs.length) (u v : Value) (xs : List Int) (l : List It) (hu : OwnI w H .u8 68 u xs) (hv : OwnB w H v l) :
    ∃ g cap, vf = .slice (some ⟨g, 0, none⟩) m.funcs.length cap ∧ H ≤ g ∧ (∃ y, w.cell? ⟨g, i * 3 + 1, none⟩ = some y) ∧ w.frozen? ⟨g, i * 3 + 1, none⟩ = false ∧ (∃ y, (w.setCell ⟨g, i * 3 + 1, none⟩ u).cell? ⟨g, i * 3 + 2, none⟩ = some y) ∧ (w.setCell ⟨g, i * 3 + 1, none⟩ u).frozen? ⟨g, i * 3 + 2, none⟩ = false ∧
      KT 66 w ((w.setCell ⟨g, i * 3 + 1, none⟩ u).setCell ⟨g, i * 3 + 2, none⟩ v) ∧ MO ((w.setCell ⟨g, i * 3 + 1, none⟩ u).setCell ⟨g, i * 3 + 2, none⟩ v) H M vt vi vf vg vx ve vd { m with funcs := m.funcs.set i (m.funcs[i].1, xs, l) } := by
  obtain ⟨css, ⟨h1, h2⟩, h3⟩ := h.f
  obtain ⟨ao, cap, rfl, _⟩ := own_sl h3
  obtain ⟨g, cap', e, _⟩ := own_head h3 (by omega)
  simp only [Value.slice.injEq, true_and] at e
  obtain ⟨rfl, rfl⟩ := e
  have hi3 : i * 3 + 2 < m.funcs.length * 3 := by omega
  obtain ⟨o1, k1, y1, f1, hg⟩ := own_cell3 h3 (i * 3 + 1) u (by omega)
  obtain ⟨o2, k2, y2, f2, _⟩ := own_cell3 o1 (i * 3 + 2) v hi3
  have k := k1.trans k2
  have hin : Inn 66 := by constructor <;> rfl
  refine ⟨g, cap, rfl, hg, y1, f1, y2, f2, k, k.blk h.blk rfl, h.t.keep k rfl (ESg.kt k hin), h.i.keep k rfl (EIm.kt k hin), ?_, h.g.keep k rfl (EGb.kt k hin), h.x.keep k rfl (EIm.kt k hin), h.e.keep k rfl (EEl.kt k hin), h.d.keep k rfl (EDa.kt k hin)⟩
  obtain ⟨c1, c2, hc, _⟩ := h2 i (by omega) hi
  rw [flat_put css i (by omega) (fun c hcm => by obtain ⟨j, hj, rfl⟩ := List.getElem_of_mem hcm; exact efn_len (h2 j hj (by omega))) _ _ _ u v hc] at o2
  refine ⟨css.set i [.int .i64 m.funcs[i].1, u, v], ⟨by simp [h1], fun j g1 g2 => ?_⟩, by simpa using o2⟩
  by_cases hj : j = i
  · subst hj
    simp only [List.getElem_set_self]
    exact ⟨u, v, rfl, k.own hu rfl, hv.ktG k rfl rfl⟩
  · rw [List.getElem_set_ne (fun e => hj e.symm), List.getElem_set_ne (fun e => hj e.symm)]
    exact EFn.kt k hin _ _ (h2 j (by simpa using g1) (by simpa using g2))
end Go.Proofs.YtakfineljffoaaaGreatDoor
