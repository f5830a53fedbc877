/-
  MODULES AS BYTES, the program's each over kinds and numbers. No condition beside the objects' memory.
-/
import Derived.Test.YthoalneknadheaaGreatDoorGBinWrites20
import Derived.Test.YthoalneknadheaaGreatDoorGBinWrites25
namespace Go.Proofs.YthoalneknadheaaGreatDoor
open Go.RowKit Go.Lib

abbrev kindV (C : Nat) : Value := .func (.func 74) #[.pointer (some ⟨C, 0, none⟩)] #[]
abbrev indexV (C : Nat) : Value := .func (.func 68) #[.pointer (some ⟨C, 0, none⟩)] #[]
set_option maxRecDepth 100000 in
set_option maxHeartbeats 2000000 in
theorem eachKind_any (W w : World) (C : Nat) (b : Int) (v : Value) (ys : List Int) (most : Int) (hb : Below W.heap.size W w) (hC : W.heap.size ≤ C) (hl : Ints W .u8 v ys) (h : PC w C b) :
    Calls Tryz.prog 119 #[.pointer (some ⟨C, 0, none⟩), v, .int .i64 most, kindV C] w (CPost C (orE b (eachE fKind ys most)) w) := by
  have HN := hid (fun wx h => need_any wx C b 2 (decide ((ys.length : Int) ≤ most)) h)
  have H := hid h
  have HL := hid hl
  have HB := hid hb
  obtain ⟨ao, cap, rfl, hcap, hcm, _, _⟩ := id hl
  unfold eachE
  rw [← orE_assoc]
  obtain ⟨bs, hbs⟩ : ∃ bs, decide ((ys.length : Int) ≤ most) = bs := ⟨_, rfl⟩
  rw [hbs] at HN
  rw [hbs]
  obtain ⟨b1, hb1⟩ : ∃ b1, orE b (ndE bs 2) = b1 := ⟨_, rfl⟩
  rw [hb1] at HN
  rw [hb1]
  have HNX := hid (fun k (hk : k < ys.length) => foldE_next fKind ys k hk b1)
  have HSP := hid (fun k (hk : orE b1 (foldE fKind (ys.take k)) ≠ 0) => foldE_stop fKind ys k b1 hk)
  have HFL := hid (foldE_full fKind ys b1)
  obtain ⟨n, hn⟩ : ∃ n, ys.length = n := ⟨_, rfl⟩
  have HLN := hid hn
  rw [hn] at hcap HL hbs HFL
  rw [hn]
  have hn9 : (n : Int) ≤ 9223372036854775807 := by omega
  clear h hl hb hb1 hn
  unfold kindV
  go_enter Tryz.func119, Tryz.ntmps119
  go_wp2_with (go_at_call 71; refine (HN.out _ H.out).mono ?_; rintro r w2 hp; obtain ⟨rfl, hq⟩ := hp; have HQ := hid hq; clear hq)
  go_loopw [18] (fun i wr => ∃ k : Nat, k ≤ n ∧ i = .int .i64 k ∧ Hid (PC wr C (orE b1 (foldE fKind (ys.take k)))) ∧ Hid (Touch (fun k => k = C) w wr)) (fun i _ => n - (RowKit.intOf i).toNat)
  case atStart => exact ⟨0, Nat.zero_le _, rfl, hid (by rw [List.take_zero]; show PC w2 C (orE b1 0); rw [orE_none]; exact HQ.out.1), hid HQ.out.2⟩
  case round =>
    obtain ⟨k, hk, rfl, PP, TT⟩ := hrel
    by_cases hlt : k < n
    · have hkl : k < ys.length := by rw [HLN.out]; exact hlt
      have hI := L1.below HL.out (HB.out.trans (TT.out.below HB.out.size (fun _ hk => hk ▸ hC)))
      rcases hI.open with ⟨_, _, _, e, _⟩ | ⟨lb, lo, cap', hv, _, hcap3, hcap2, hc⟩
      · rw [e] at hkl; simp at hkl
      simp only [Value.slice.injEq] at hv
      obtain ⟨rfl, -, rfl⟩ := hv
      have y0 := hc k hkl
      have HNK := hid (HNX.out k hkl)
      have HSK := hid (HSP.out k)
      clear hc hI hcap3
      generalize hcur : orE b1 (foldE fKind (ys.take k)) = cur at *
      generalize ys[k] = y at *
      clear hkl
      have c0 := Blk.cell PP.out (i := 0) rfl
      clear hcur
      by_cases hz : cur = 0
      · subst hz
        go_wp2_with (go_at_call 74; refine (kindB_any _ C 0 y PP.out).mono ?_; rintro r w3 hp; obtain ⟨rfl, hq⟩ := hp; have HQ3 := hid hq; clear hq)
        go_roundw
        case rel => exact ⟨k + 1, by omega, by go_num, hid (by rw [← HNK.out]; exact HQ3.out.1), hid (TT.out.trans' HQ3.out.2 (fun _ _ h => h))⟩
        case measure => simp [RowKit.intOf]; omega
      · have hz2 : (cur == 0) = false := by simpa using hz
        have HE := hid (HSK.out hz)
        clear hz
        go_wp2_with fail
        go_end0
        rw [HE.out]
        exact ⟨rfl, PP.out, TT.out⟩
    · obtain rfl : k = n := by omega
      go_wp2_with fail
      go_end0
      rw [← HFL.out]
      exact ⟨rfl, PP.out, TT.out⟩
set_option maxRecDepth 100000 in
set_option maxHeartbeats 2000000 in
theorem eachInt_any (W w : World) (C : Nat) (b : Int) (v : Value) (ys : List Int) (most : Int) (hb : Below W.heap.size W w) (hC : W.heap.size ≤ C) (hl : Ints W .i64 v ys) (h : PC w C b) :
    Calls Tryz.prog 124 #[.pointer (some ⟨C, 0, none⟩), v, .int .i64 most, indexV C] w (CPost C (orE b (eachE fIdx ys most)) w) := by
  have HN := hid (fun wx h => need_any wx C b 2 (decide ((ys.length : Int) ≤ most)) h)
  have H := hid h
  have HL := hid hl
  have HB := hid hb
  obtain ⟨ao, cap, rfl, hcap, hcm, _, _⟩ := id hl
  unfold eachE
  rw [← orE_assoc]
  obtain ⟨bs, hbs⟩ : ∃ bs, decide ((ys.length : Int) ≤ most) = bs := ⟨_, rfl⟩
  rw [hbs] at HN
  rw [hbs]
  obtain ⟨b1, hb1⟩ : ∃ b1, orE b (ndE bs 2) = b1 := ⟨_, rfl⟩
  rw [hb1] at HN
  rw [hb1]
  have HNX := hid (fun k (hk : k < ys.length) => foldE_next fIdx ys k hk b1)
  have HSP := hid (fun k (hk : orE b1 (foldE fIdx (ys.take k)) ≠ 0) => foldE_stop fIdx ys k b1 hk)
  have HFL := hid (foldE_full fIdx ys b1)
  obtain ⟨n, hn⟩ : ∃ n, ys.length = n := ⟨_, rfl⟩
  have HLN := hid hn
  rw [hn] at hcap HL hbs HFL
  rw [hn]
  have hn9 : (n : Int) ≤ 9223372036854775807 := by omega
  clear h hl hb hb1 hn
  unfold indexV
  go_enter Tryz.func124, Tryz.ntmps124
  go_wp2_with (go_at_call 71; refine (HN.out _ H.out).mono ?_; rintro r w2 hp; obtain ⟨rfl, hq⟩ := hp; have HQ := hid hq; clear hq)
  go_loopw [18] (fun i wr => ∃ k : Nat, k ≤ n ∧ i = .int .i64 k ∧ Hid (PC wr C (orE b1 (foldE fIdx (ys.take k)))) ∧ Hid (Touch (fun k => k = C) w wr)) (fun i _ => n - (RowKit.intOf i).toNat)
  case atStart => exact ⟨0, Nat.zero_le _, rfl, hid (by rw [List.take_zero]; show PC w2 C (orE b1 0); rw [orE_none]; exact HQ.out.1), hid HQ.out.2⟩
  case round =>
    obtain ⟨k, hk, rfl, PP, TT⟩ := hrel
    by_cases hlt : k < n
    · have hkl : k < ys.length := by rw [HLN.out]; exact hlt
      have hI := L1.below HL.out (HB.out.trans (TT.out.below HB.out.size (fun _ hk => hk ▸ hC)))
      rcases hI.open with ⟨_, _, _, e, _⟩ | ⟨lb, lo, cap', hv, _, hcap3, hcap2, hc⟩
      · rw [e] at hkl; simp at hkl
      simp only [Value.slice.injEq] at hv
      obtain ⟨rfl, -, rfl⟩ := hv
      have y0 := hc k hkl
      have HNK := hid (HNX.out k hkl)
      have HSK := hid (HSP.out k)
      clear hc hI hcap3
      generalize hcur : orE b1 (foldE fIdx (ys.take k)) = cur at *
      generalize ys[k] = y at *
      clear hkl
      have c0 := Blk.cell PP.out (i := 0) rfl
      clear hcur
      by_cases hz : cur = 0
      · subst hz
        go_wp2_with (go_at_call 68; refine (indexB_any _ C 0 y PP.out).mono ?_; rintro r w3 hp; obtain ⟨rfl, hq⟩ := hp; have HQ3 := hid hq; clear hq)
        go_roundw
        case rel => exact ⟨k + 1, by omega, by go_num, hid (by rw [← HNK.out]; exact HQ3.out.1), hid (TT.out.trans' HQ3.out.2 (fun _ _ h => h))⟩
        case measure => simp [RowKit.intOf]; omega
      · have hz2 : (cur == 0) = false := by simpa using hz
        have HE := hid (HSK.out hz)
        clear hz
        go_wp2_with fail
        go_end0
        rw [HE.out]
        exact ⟨rfl, PP.out, TT.out⟩
    · obtain rfl : k = n := by omega
      go_wp2_with fail
      go_end0
      rw [← HFL.out]
      exact ⟨rfl, PP.out, TT.out⟩
end Go.Proofs.YthoalneknadheaaGreatDoor
namespace Go.Proofs.YthoalneknadheaaGreatDoor
open Go.RowKit Go.Lib
attribute [local go_sem ↓] Go.wp_at_zero Go.wp_at_succ

structure MkB (w : World) (M base : Nat) (lv : Value) (E cE S cS n : Nat) (m : AB) : Prop where
  blk : Blk w M 197 [lv, .slice (some ⟨E, 0, none⟩) n cE, .slice (some ⟨S, 0, none⟩) n cS]
  en : OwnI w base .i64 3 (.slice (some ⟨E, 0, none⟩) n cE) m.1
  el : OwnI w base .i64 3 (.slice (some ⟨S, 0, none⟩) n cS) m.2
  len : Lens n m
  ne : E ≠ S
abbrev ToM (E S : Nat) (w w' : World) : Prop := Touch (fun j => j = E ∨ j = S) w w'
theorem OwnI.at2 {w : World} {base : Nat} {k : IntKind} {e : TypeId} {g n cap : Nat} {xs : List Int} (h : OwnI w base k e (.slice (some ⟨g, 0, none⟩) n cap) xs) (hn : xs.length = n) (j : Nat) (hj : j < n) : ∃ v, w.cell? ⟨g, j, none⟩ = some v ∧ ∀ i, w.frozen? ⟨g, i, none⟩ = false := by
  obtain ⟨g', cap', h1, _, _, _, h5, h6, _⟩ := h.at hn (by omega)
  simp only [Value.slice.injEq, Option.some.injEq, Addr.mk.injEq, and_true, true_and] at h1
  obtain ⟨rfl, _⟩ := h1
  exact ⟨_, h5 j _ (List.getElem?_eq_getElem (by omega)), h6⟩
theorem OwnI.typ {w : World} {base : Nat} {k : IntKind} {e : TypeId} {g n cap : Nat} {xs : List Int} (h : OwnI w base k e (.slice (some ⟨g, 0, none⟩) n cap) xs) (hn : xs.length = n) (h0 : 0 < n) : (∃ cs, Blk w g e cs) ∧ base ≤ g ∧ g < w.heap.size := by
  obtain ⟨g', cap', h1, h2, _, _, _, _, h7, h8⟩ := h.at hn h0
  simp only [Value.slice.injEq, Option.some.injEq, Addr.mk.injEq, and_true, true_and] at h1
  obtain ⟨rfl, _⟩ := h1
  exact ⟨h8, h2, h7⟩
theorem MkB.below {w w' : World} {M base : Nat} {lv : Value} {E cE S cS n : Nat} {m : AB} (h : MkB w M base lv E cE S cS n m) (hb : Below w.heap.size w w') : MkB w' M base lv E cE S cS n m := ⟨h.blk.below hb, h.en.below hb, h.el.below hb, h.len, h.ne⟩
theorem MkB.drew {w : World} {M base : Nat} {lv : Value} {E cE S cS n : Nat} {m : AB} (h : MkB w M base lv E cE S cS n m) : MkB w.drew M base lv E cE S cS n m := ⟨h.blk, h.en, h.el, h.len, h.ne⟩
theorem MkB.putE {w : World} {M base : Nat} {lv : Value} {E cE S cS n : Nat} {m : AB} (h : MkB w M base lv E cE S cS n m) (i : Nat) (x : Int) (hi : i < n) : MkB (w.setCell ⟨E, i, none⟩ (.int .i64 x)) M base lv E cE S cS n (m.1.set i x, m.2) := by
  have ht := (h.en.typ h.len.1 (by omega)).1
  obtain ⟨cs, hcs⟩ := ht
  exact ⟨h.blk.other (a := ⟨E, i, none⟩) (blk_diff hcs h.blk (by decide)) _, h.en.put h.len.1.symm i x (by rw [h.len.1]; exact hi), own_setCell2 h.el h.ne.symm (i, Value.int .i64 x), ⟨by simpa using h.len.1, h.len.2⟩, h.ne⟩
theorem MkB.putS {w : World} {M base : Nat} {lv : Value} {E cE S cS n : Nat} {m : AB} (h : MkB w M base lv E cE S cS n m) (i : Nat) (x : Int) (hi : i < n) : MkB (w.setCell ⟨S, i, none⟩ (.int .i64 x)) M base lv E cE S cS n (m.1, m.2.set i x) := by
  have ht := (h.el.typ h.len.2 (by omega)).1
  obtain ⟨cs, hcs⟩ := ht
  exact ⟨h.blk.other (a := ⟨S, i, none⟩) (blk_diff hcs h.blk (by decide)) _, own_setCell2 h.en h.ne (i, Value.int .i64 x), h.el.put h.len.2.symm i x (by rw [h.len.2]; exact hi), ⟨h.len.1, by simpa using h.len.2⟩, h.ne⟩
theorem BodS.rows {W0 : World} {lv : Value} {l : List It} (h : BodS W0 lv l) (h0 : 0 < l.length) : ∃ b off cap, lv = .slice (some ⟨b, off, none⟩) l.length cap ∧ l.length ≤ cap ∧ ∀ wx, Below W0.heap.size W0 wx → ∀ k (hk : k < l.length), ∃ au cu, wx.cell? ⟨b, off + k * 4, none⟩ = some (.int .u8 l[k].op) ∧ wx.cell? ⟨b, off + k * 4 + 1, none⟩ = some (.int .i64 l[k].A) ∧ wx.cell? ⟨b, off + k * 4 + 2, none⟩ = some (.int .i64 l[k].B) ∧ wx.cell? ⟨b, off + k * 4 + 3, none⟩ = some (.slice au l[k].tos.length cu) ∧ Ints wx .i64 (.slice au l[k].tos.length cu) l[k].tos := by
  obtain ⟨b, off, cap, _, hv, hc, _⟩ := h.open 0 h0
  refine ⟨b, off, cap, hv, hc, fun wx hb k hk => ?_⟩
  obtain ⟨b2, off2, cap2, u, hv2, _, _, c0, c1, c2, c3, hto⟩ := (h.below hb).open k hk
  rw [hv] at hv2
  simp only [Value.slice.injEq, Option.some.injEq, Addr.mk.injEq, and_true, true_and] at hv2
  obtain ⟨⟨rfl, rfl⟩, rfl⟩ := hv2
  obtain ⟨au, cu, rfl, -⟩ := id hto
  exact ⟨au, cu, c0, c1, c2, c3, hto⟩
theorem seq_ok (l : List It) (f deep i : Nat) (m : AB) (hf : l.length ≤ i + f) (hd : deep ≤ 12) (h0 : (seqM itC It.op l f deep i m).2.1 = 0) :
    i ≤ (seqM itC It.op l f deep i m).1 ∧ (seqM itC It.op l f deep i m).1 < l.length ∧ (opAt It.op l (seqM itC It.op l f deep i m).1 = 5 ∨ opAt It.op l (seqM itC It.op l f deep i m).1 = 11) := by
  have G := (seq_run (c := itC) (o := It.op) l f deep i m 0 0 (List.replicate deep (0, 0)) hf hd (by simp)).2 h0
  obtain ⟨y, hy, _, hy2⟩ := G.at_
  refine ⟨G.le, G.lt, ?_⟩
  unfold opAt
  rw [hy]
  exact hy2
theorem seq_end (l : List It) (f deep i : Nat) (m : AB) (h : l.length ≤ i) : seqM itC It.op l f deep i m = (0, 3, m) := by
  cases f with
  | zero => rfl
  | succ f =>
    rw [seqM, List.getElem?_eq_none h]
theorem opAt_get (l : List It) (j : Nat) (h : j < l.length) : opAt It.op l j = l[j].op := by unfold opAt; rw [List.getElem?_eq_getElem h]
def SeqC (W0 : World) (l : List It) (b off cap M E cE S cS deep : Nat) : Prop := ∀ (f i : Nat) (m : AB) (w : World), l.length ≤ i + f → i ≤ l.length → Below W0.heap.size W0 w → MkB w M W0.heap.size (.slice (some ⟨b, off, none⟩) l.length cap) E cE S cS l.length m →
      Calls Tryz.prog 160 #[.pointer (some ⟨M, 0, none⟩), .int .i64 i, .int .i64 deep] w fun e w' => e = .returned (.tuple #[.int .i64 (seqM itC It.op l f deep i m).1, .int .i64 (seqM itC It.op l f deep i m).2.1]) ∧ MkB w' M W0.heap.size (.slice (some ⟨b, off, none⟩) l.length cap) E cE S cS l.length (seqM itC It.op l f deep i m).2.2 ∧ Below W0.heap.size W0 w' ∧ ToM E S w w'
abbrev RowsAt (W0 : World) (l : List It) (b off : Nat) : Prop := ∀ wx, Below W0.heap.size W0 wx → ∀ k (hk : k < l.length), ∃ au cu, wx.cell? ⟨b, off + k * 4, none⟩ = some (.int .u8 l[k].op) ∧ wx.cell? ⟨b, off + k * 4 + 1, none⟩ = some (.int .i64 l[k].A) ∧ wx.cell? ⟨b, off + k * 4 + 2, none⟩ = some (.int .i64 l[k].B) ∧ wx.cell? ⟨b, off + k * 4 + 3, none⟩ = some (.slice au l[k].tos.length cu) ∧ Ints wx .i64 (.slice au l[k].tos.length cu) l[k].tos
end Go.Proofs.YthoalneknadheaaGreatDoor
