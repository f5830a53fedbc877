/-
  INSTRUCTIONS: the reference's InsCheck, some kinds. Conditions: the number is a byte; the variable of the library that strings.Contains reads holds some number.
-/
import Derived.Test.YtakfineljffoaaaGreatDoorGFoldSays45
import Derived.Test.YtakfineljffoaaaGreatDoorGFoldSays46
namespace Go.Proofs.YtakfineljffoaaaGreatDoor
open Go.RowKit Go.Lib
attribute [local go_sem ↓] Go.wp_at_zero Go.wp_at_succ

set_option maxRecDepth 100000 in
set_option maxHeartbeats 4000000 in
theorem rchk_0 (op : Nat) (hop : op < 256) (hk : tB op = 0) (A B : Int) (xs : List Int) (v : Value) (w : World) (hM : MaxL w) :
    Calls Tryz.prog 140 #[insV op A B v] w fun e w' => e = .returned (.int .i64 (chkI 0 A B xs)) ∧ Below w.heap.size w w' := by
  have hA0 : Below w.heap.size w (w.alloc (.cells #[.int .u8 op, .int .i64 A, .int .i64 B, v] 97)) := (Below.refl _ _).alloc (Nat.le_refl _) _
  have HBS := hid (rbeside_any op hop (w.alloc (.cells #[.int .u8 op, .int .i64 A, .int .i64 B, v] 97)) (hM.below hA0))
  rw [hk, show S (sdL 0) = ⟨#[63]⟩ from rfl] at HBS
  have HA := hid hA0
  clear hA0 hk hM
  go_enter Tryz.func140, Tryz.ntmps140
  go_wp2_with (go_at_call 155; refine HBS.out.mono ?_; rintro r w1 ⟨rfl, hb1⟩; have B1 := hid (HA.out.trans (hb1.mono HA.out.size)); clear hb1)
  go_ret
  exact ⟨rfl, B1.out⟩
theorem rchk_any (op : Nat) (hop : op < 256) (A B : Int) (xs : List Int) (v : Value) (w : World) (hM : MaxL w) (hx : Ints w .i64 v xs) :
    Calls Tryz.prog 140 #[insV op A B v] w fun e w' => e = .returned (.int .i64 (chkI (tB op) A B xs)) ∧ Below w.heap.size w w' := by
  have hle := tB_le ⟨op, hop⟩
  simp only at hle
  by_cases h0 : tB op = 0
  · rw [h0]; exact rchk_0 op hop h0 A B xs v w hM
  exact rchk_x op hop hle h0 A B xs v w hM hx
end Go.Proofs.YtakfineljffoaaaGreatDoor
namespace Go.Proofs.YtakfineljffoaaaGreatDoor
open Go.RowKit Go.Lib
attribute [local go_sem ↓] Go.wp_at_zero Go.wp_at_succ

structure MkB (w : World) (M base : Nat) (lv : Value) (E cE S cS n : Nat) (m : AB) : Prop where
  blk : Blk w M 158 [lv, .slice (some ⟨E, 0, none⟩) n cE, .slice (some ⟨S, 0, none⟩) n cS]
  en : OwnI w base .i64 3 (.slice (some ⟨E, 0, none⟩) n cE) m.1
  el : OwnI w base .i64 3 (.slice (some ⟨S, 0, none⟩) n cS) m.2
  len : Lens n m
  ne : E ≠ S
abbrev ToM (E S : Nat) (w w' : World) : Prop := Touch (fun j => j = E ∨ j = S) w w'
theorem OwnI.at2 {w : World} {base : Nat} {k : IntKind} {e : TypeId} {g n cap : Nat} {xs : List Int} (h : OwnI w base k e (.slice (some ⟨g, 0, none⟩) n cap) xs) (hn : xs.length = n) (j : Nat) (hj : j < n) : ∃ v, w.cell? ⟨g, j, none⟩ = some v ∧ ∀ i, w.frozen? ⟨g, i, none⟩ = false := by
  obtain ⟨g', cap', h1, _, _, _, h5, h6, _⟩ := h.at hn (by omega)
  simp only [Value.slice.injEq, Option.some.injEq, Addr.mk.injEq, and_true, true_and] at h1
  obtain ⟨rfl, _⟩ := h1
  exact ⟨_, h5 j _ (List.getElem?_eq_getElem (by omega)), h6⟩
theorem OwnI.typ {w : World} {base : Nat} {k : IntKind} {e : TypeId} {g n cap : Nat} {xs : List Int} (h : OwnI w base k e (.slice (some ⟨g, 0, none⟩) n cap) xs) (hn : xs.length = n) (h0 : 0 < n) : (∃ cs, Blk w g e cs) ∧ base ≤ g ∧ g < w.heap.size := by
  obtain ⟨g', cap', h1, h2, _, _, _, _, h7, h8⟩ := h.at hn h0
  simp only [Value.slice.injEq, Option.some.injEq, Addr.mk.injEq, and_true, true_and] at h1
  obtain ⟨rfl, _⟩ := h1
  exact ⟨h8, h2, h7⟩
theorem MkB.below {w w' : World} {M base : Nat} {lv : Value} {E cE S cS n : Nat} {m : AB} (h : MkB w M base lv E cE S cS n m) (hb : Below w.heap.size w w') : MkB w' M base lv E cE S cS n m := ⟨h.blk.below hb, h.en.below hb, h.el.below hb, h.len, h.ne⟩
theorem MkB.drew {w : World} {M base : Nat} {lv : Value} {E cE S cS n : Nat} {m : AB} (h : MkB w M base lv E cE S cS n m) : MkB w.drew M base lv E cE S cS n m := ⟨h.blk, h.en, h.el, h.len, h.ne⟩
theorem MkB.putE {w : World} {M base : Nat} {lv : Value} {E cE S cS n : Nat} {m : AB} (h : MkB w M base lv E cE S cS n m) (i : Nat) (x : Int) (hi : i < n) : MkB (w.setCell ⟨E, i, none⟩ (.int .i64 x)) M base lv E cE S cS n (m.1.set i x, m.2) := by
  have ht := (h.en.typ h.len.1 (by omega)).1
  obtain ⟨cs, hcs⟩ := ht
  exact ⟨h.blk.other (a := ⟨E, i, none⟩) (blk_diff hcs h.blk (by decide)) _, h.en.put h.len.1.symm i x (by rw [h.len.1]; exact hi), own_setCell2 h.el h.ne.symm (i, Value.int .i64 x), ⟨by simpa using h.len.1, h.len.2⟩, h.ne⟩
theorem MkB.putS {w : World} {M base : Nat} {lv : Value} {E cE S cS n : Nat} {m : AB} (h : MkB w M base lv E cE S cS n m) (i : Nat) (x : Int) (hi : i < n) : MkB (w.setCell ⟨S, i, none⟩ (.int .i64 x)) M base lv E cE S cS n (m.1, m.2.set i x) := by
  have ht := (h.el.typ h.len.2 (by omega)).1
  obtain ⟨cs, hcs⟩ := ht
  exact ⟨h.blk.other (a := ⟨S, i, none⟩) (blk_diff hcs h.blk (by decide)) _, own_setCell2 h.en h.ne (i, Value.int .i64 x), h.el.put h.len.2.symm i x (by rw [h.len.2]; exact hi), ⟨h.len.1, by simpa using h.len.2⟩, h.ne⟩
theorem BodS.rows {W0 : World} {lv : Value} {l : List It} (h : BodS W0 lv l) (h0 : 0 < l.length) : ∃ b off cap, lv = .slice (some ⟨b, off, none⟩) l.length cap ∧ l.length ≤ cap ∧ ∀ wx, Below W0.heap.size W0 wx → ∀ k (hk : k < l.length), ∃ au cu, wx.cell? ⟨b, off + k * 4, none⟩ = some (.int .u8 l[k].op) ∧ wx.cell? ⟨b, off + k * 4 + 1, none⟩ = some (.int .i64 l[k].A) ∧ wx.cell? ⟨b, off + k * 4 + 2, none⟩ = some (.int .i64 l[k].B) ∧ wx.cell? ⟨b, off + k * 4 + 3, none⟩ = some (.slice au l[k].tos.length cu) ∧ Ints wx .i64 (.slice au l[k].tos.length cu) l[k].tos := by
  obtain ⟨b, off, cap, _, hv, hc, _⟩ := h.open 0 h0
  refine ⟨b, off, cap, hv, hc, fun wx hb k hk => ?_⟩
  obtain ⟨b2, off2, cap2, u, hv2, _, _, c0, c1, c2, c3, hto⟩ := (h.below hb).open k hk
  rw [hv] at hv2
  simp only [Value.slice.injEq, Option.some.injEq, Addr.mk.injEq, and_true, true_and] at hv2
  obtain ⟨⟨rfl, rfl⟩, rfl⟩ := hv2
  obtain ⟨au, cu, rfl, -⟩ := id hto
  exact ⟨au, cu, c0, c1, c2, c3, hto⟩
theorem seq_ok (l : List It) (f deep i : Nat) (m : AB) (hf : l.length ≤ i + f) (hd : deep ≤ 12) (h0 : (seqM itC It.op l f deep i m).2.1 = 0) :
    i ≤ (seqM itC It.op l f deep i m).1 ∧ (seqM itC It.op l f deep i m).1 < l.length ∧ (opAt It.op l (seqM itC It.op l f deep i m).1 = 5 ∨ opAt It.op l (seqM itC It.op l f deep i m).1 = 11) := by
  have G := (seq_run (c := itC) (o := It.op) l f deep i m 0 0 (List.replicate deep (0, 0)) hf hd (by simp)).2 h0
  obtain ⟨y, hy, _, hy2⟩ := G.at_
  refine ⟨G.le, G.lt, ?_⟩
  unfold opAt
  rw [hy]
  exact hy2
theorem seq_end (l : List It) (f deep i : Nat) (m : AB) (h : l.length ≤ i) : seqM itC It.op l f deep i m = (0, 3, m) := by
  cases f with
  | zero => rfl
  | succ f =>
    rw [seqM, List.getElem?_eq_none h]
theorem opAt_get (l : List It) (j : Nat) (h : j < l.length) : opAt It.op l j = l[j].op := by unfold opAt; rw [List.getElem?_eq_getElem h]
def SeqC (W0 : World) (l : List It) (b off cap M E cE S cS deep : Nat) : Prop := ∀ (f i : Nat) (m : AB) (w : World), l.length ≤ i + f → i ≤ l.length → Below W0.heap.size W0 w → MkB w M W0.heap.size (.slice (some ⟨b, off, none⟩) l.length cap) E cE S cS l.length m →
      Calls Tryz.prog 139 #[.pointer (some ⟨M, 0, none⟩), .int .i64 i, .int .i64 deep] w fun e w' => e = .returned (.tuple #[.int .i64 (seqM itC It.op l f deep i m).1, .int .i64 (seqM itC It.op l f deep i m).2.1]) ∧ MkB w' M W0.heap.size (.slice (some ⟨b, off, none⟩) l.length cap) E cE S cS l.length (seqM itC It.op l f deep i m).2.2 ∧ Below W0.heap.size W0 w' ∧ ToM E S w w'
abbrev RowsAt (W0 : World) (l : List It) (b off : Nat) : Prop := ∀ wx, Below W0.heap.size W0 wx → ∀ k (hk : k < l.length), ∃ au cu, wx.cell? ⟨b, off + k * 4, none⟩ = some (.int .u8 l[k].op) ∧ wx.cell? ⟨b, off + k * 4 + 1, none⟩ = some (.int .i64 l[k].A) ∧ wx.cell? ⟨b, off + k * 4 + 2, none⟩ = some (.int .i64 l[k].B) ∧ wx.cell? ⟨b, off + k * 4 + 3, none⟩ = some (.slice au l[k].tos.length cu) ∧ Ints wx .i64 (.slice au l[k].tos.length cu) l[k].tos
end Go.Proofs.YtakfineljffoaaaGreatDoor
