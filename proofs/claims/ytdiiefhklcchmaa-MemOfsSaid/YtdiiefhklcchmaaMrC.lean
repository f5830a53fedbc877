/-
  MEMORIES, the reference's: Grow, Bytes. Conditions: the object's own invariant; lengths in the form's reach.
-/
import Derived.Test.YtdiiefhklcchmaaMrB
import Derived.Test.YtdiiefhklcchmaaMrW
import Derived.Deep.RegionLaw
namespace Go.Proofs.Ytdiiefhklcchmaa
open Go.RowKit Go.Lib
attribute [local go_sem ↓] Go.wp_at_zero Go.wp_at_succ

theorem run_zeros_0 (w : World) (g cap n : Nat) (tn ty : TypeId) (kq kn : IntKind) (htn : Try.prog.underlying tn = some (.int kn)) (hc : n ≤ cap) :
    (Builtin.append_ #[34, tn] ty #[.slice (some ⟨g, 0, none⟩) n cap, .int kq 0]).run Try.prog w = .ok (.slice (some ⟨g, 0, none⟩) n cap) w := by
  obtain ⟨i0, hi, hz0, hz1, hzb⟩ := info_parts (show (Try.prog.info? 5).map (fun i => (i.zero, i.size, i.bytes)) = some (some (.int .u8 0), 1, 1) from by kernel_rfl)
  have ht := Try.underlying34
  have hw0 : IntKind.i64.wrap 0 = 0 := by decide
  simp [Builtin.append_, run_underlying ht, run_underlying htn, sizeOf, typeInfo, zeroValue, hi, hz0, asInt, asIntOf, hw0, hc, storeCells]
theorem wpl_zeros {ops : Array Oper} {rest : List Oper} {o : Oper} {a : Act} {Q : Exit → Act → World → Prop} {w : World} {base g cap k : Nat} {m : List Int} {tn : TypeId} {kq kn : IntKind} {K : Int} {L : Nat} (hL : m.length = L) (htn : Try.prog.underlying tn = some (.int kn)) (hgd : o.guard = none) (s x : Operand)
    (ho : o.op = .call { callee := .builtin .append, args := #[s, x], argTypes := #[34, tn] })
    (hs : a.eval s = .slice (some ⟨g, 0, none⟩) L cap) (hx : a.eval x = .int kq K) (hK : K = (k : Int)) (hown : OwnM w base g cap m) (hk : m.length + k ≤ 140737488355328) (hbase : base ≤ w.heap.size)
    (h : ∀ g' cap' w', OwnM w' base g' cap' (m ++ List.replicate k 0) → w.grownBy w' (some g) → (g' = g ∨ w.heap.size ≤ g') → wpList Try.prog ops Q rest (a.put o.dst (.slice (some ⟨g', 0, none⟩) (L + k) cap')) w') : wpList Try.prog ops Q (o :: rest) a w := by
  subst hK
  subst hL
  refine wpList_plain hgd fun K hK => ?_
  have hr : ∃ g' cap' w', (Builtin.append_ #[34, tn] o.type #[.slice (some ⟨g, 0, none⟩) m.length cap, .int kq k]).run Try.prog w = .ok (.slice (some ⟨g', 0, none⟩) (m.length + k) cap') w' ∧ OwnM w' base g' cap' (m ++ List.replicate k 0) ∧ w.grownBy w' (some g) ∧ (g' = g ∨ w.heap.size ≤ g') := by
    by_cases h0 : 0 < k
    · exact run_zeros_m w base g cap k m tn o.type kq kn htn hown h0 hk hbase
    · obtain rfl : k = 0 := by omega
      exact ⟨g, cap, w, run_zeros_0 w g cap _ tn o.type kq kn htn hown.le, by simpa using hown, World.grownBy.refl _ _, .inl rfl⟩
  obtain ⟨g', cap', w', hr, h2, h3, h4⟩ := hr
  unfold Oper.wp execOp
  simp only [ho, resolve, invoke, builtin, Sem.run_bind, Sem.run_pure, Result.andThen_ok, List.map_toArray, List.map_cons, List.map_nil, hs, hx, hr]
  exact hK _ _ (h g' cap' w' h2 h3 h4)
theorem MR.grow {w w5 : World} {base B g cap g5 cap5 k : Nat} {most : Int} {m : List Int} (h : MR w base B g cap most m) (ho : OwnM w5 base g5 cap5 (m ++ List.replicate k 0)) (hg : w.grownBy w5 (some g)) (hf : g5 = g ∨ w.heap.size ≤ g5) :
    MR (w5.setCell ⟨B, 0, none⟩ (.slice (some ⟨g5, 0, none⟩) (m.length + k) cap5)) base B g5 cap5 most (m ++ List.replicate k 0) ∧ Touch (footR B g) w (w5.setCell ⟨B, 0, none⟩ (.slice (some ⟨g5, 0, none⟩) (m.length + k) cap5)) := by
  have hBlt := h.blk.lt
  have hne := h.ne
  have hne5 : g5 ≠ B := by omega
  have hb5 : Blk w5 B 36 [.slice (some ⟨g, 0, none⟩) m.length cap, .int .i64 most] := h.blk.same (hg.block B hBlt (fun e => h.ne (Option.some.inj e).symm))
  refine ⟨⟨?_, ho.same (Below.heap_setCell w5 _ _ g5 hne5), hne5, h.le⟩, ?_⟩
  · have := hb5.set 0 (.slice (some ⟨g5, 0, none⟩) (m.length + k) cap5)
    rw [List.length_append, List.length_replicate]
    exact this
  · exact (Touch.grown (F := footR B g) hg (fun k e => .inr (Option.some.inj e).symm)).put (a := ⟨B, 0, none⟩) (.inl rfl) _
theorem ofInt32 (n : Int) (r : Nat) (hr : n % 4294967296 = r) : ((BitVec.ofInt 32 n).toNat : Int) = (r : Int) := by
  rw [BitVec.toNat_ofInt]
  omega
set_option maxRecDepth 100000 in
set_option maxHeartbeats 8000000 in
theorem rgrow_any (w : World) (base B g cap p : Nat) (most : Int) (m : List Int) (n : Int) (r : Nat) (hlen : m.length = p * 256) (hp : (p : Int) ≤ most) (hmo : 0 ≤ most ∧ most ≤ 8) (hr : n % 4294967296 = r) (h : MR w base B g cap most m) :
    Calls Try.prog 18 #[.pointer (some ⟨B, 0, none⟩), .int .i64 n] w fun e w' =>
      ((r : Int) ≤ most - p → e = .returned (.int .i64 p) ∧ ∃ g' cap', MR w' base B g' cap' most (m ++ List.replicate (r * 256) 0) ∧ Touch (footR B g) w w' ∧ (g' = g ∨ w.heap.size ≤ g')) ∧
      (most - p < r → e = .returned (.int .i64 (-1)) ∧ Below w.heap.size w w') := by
  have H := hid h
  have c0 := h.blk.cell (i := 0) rfl
  have c0d : w.drew.cell? ⟨B, 0, none⟩ = _ := c0
  have hcap := h.own.le
  have hcm : cap ≤ 9223372036854775807 := by have := h.own.cap; unfold maxLen at this; omega
  have hp8 : (p : Int) ≤ 8 := by omega
  have hdv : ((m.length : Nat) : Int).tdiv 256 = (p : Int) := by rw [hlen, Int.tdiv_eq_ediv_of_nonneg (by omega)]; omega
  obtain ⟨L, hL⟩ : ∃ L, m.length = L := ⟨_, rfl⟩
  rw [hL] at c0 c0d hcap hdv hlen
  have HL := hid hL
  have hL8 : (L : Int) ≤ 2048 := by omega
  have HW := hid (fun wx => wordOf_any n 32 (by decide) wx)
  have HP := hid (fun (wx : World) v hv => plain_any (BitVec.ofInt 32 n) (by decide) (by decide) wx v hv)
  have HR := hid (ofInt32 n r hr)
  have hr0 : (r : Int) < 4294967296 := by omega
  generalize bl (BitVec.ofInt 32 n) = bs at *
  obtain ⟨q, hq⟩ : ∃ q : Nat, (BitVec.ofInt 32 n).toNat = q := ⟨_, rfl⟩
  rw [hq] at HR
  rw [hq] at HP
  obtain rfl : q = r := Int.ofNat.inj HR.out
  have HBLT := hid h.blk.lt
  have hwp : IntKind.i64.wrap (p : Int) = (p : Int) := IntWalk.i64_in _ (by omega)
  have hwq : IntKind.i64.wrap (q : Int) = (q : Int) := IntWalk.i64_in _ (by omega)
  obtain ⟨hm0, hm1⟩ := hmo
  clear h hL hlen hq hr HR
  go_enter Try.func18, Try.ntmps18
  go_wp2_with fail
  go_region_law (first | (go_simp; go_at_call 31; refine (HW.out _).mono ?_; rintro e w1 ⟨v, rfl, hv, hb⟩; have HV := hid (O1.l1 hv); have c0e : w1.cell? ⟨B, 0, none⟩ = some (.slice (some ⟨g, 0, none⟩) L cap) := (hb.cell HBLT.out).trans c0; have HB := hid hb; clear hv hb) | (go_simp; go_at_call 29; refine (HP.out _ _ HV.out).mono ?_; rintro e w2 ⟨rfl, rfl⟩))
  all_goals
    clear c0 c0d
    have H1 := hid ((H.out.part.drew1.below HB.out).holds)
    have c1e : w1.cell? ⟨B, 1, none⟩ = some (.int .i64 most) := H1.out.blk.cell (i := 1) rfl
    have hbase : base ≤ w1.heap.size := H1.out.part.le
    have HB9 := hid (show Below w.heap.size w w1 from ⟨HB.out.os, HB.out.tape, HB.out.output, HB.out.size, HB.out.block⟩)
    have TB := hid (show Touch (footR B g) w w1 from Touch.of_below HB9.out)
    by_cases hgd : (q : Int) ≤ most - p
    · have hsum : (p : Int) + (q : Int) ≤ most := by omega
      have hq8 : (q : Int) ≤ 8 := by omega
      have hdc : decide (most < (p : Int) + (q : Int)) = false := decide_eq_false (by omega)
      clear hsum hp hm0 hm1
      have HGD := hid hgd
      clear hgd
      go_wp2_with (at_builtin; go_must (refine wpl_zeros (base := base) (m := m) (k := q * 256) HL.out Try.underlying2 (by rfl) _ _ (by rfl) (by rfl) (by rfl) (by omega) H1.out.own (by have := HL.out; omega) hbase ?_); intro g5 cap5 w5 ho hg hf; have G5 := hid (H1.out.grow ho hg hf); have HF5 := hid hf; have hB5 := hid (H1.out.blk.same (hg.block B H1.out.blk.lt (fun e => H1.out.ne (Option.some.inj e).symm))); have y0 : w5.cell? ⟨B, 0, none⟩ = some (.slice (some ⟨g, 0, none⟩) L cap) := (hB5.out.cell (i := 0) rfl).trans (by rw [HL.out]); have yf := hB5.out.free; clear ho hg hf)
      go_ret
      have G6 := G5.out
      rw [HL.out] at G6
      refine ⟨fun _ => ⟨rfl, _, _, G6.1, TB.out.trans' G6.2 (fun i _ h => h), HF5.out.imp id (fun e => Nat.le_trans HB9.out.size e)⟩, fun h => by have := HGD.out; omega⟩
    · have hdc : decide (most < (p : Int) + (q : Int)) = true := decide_eq_true (by omega)
      clear hp hm0 hm1
      have HGD := hid hgd
      clear hgd
      go_wp2_with fail
      go_ret
      exact ⟨fun h => by have := HGD.out; omega, fun _ => ⟨rfl, HB9.out⟩⟩
end Go.Proofs.Ytdiiefhklcchmaa
