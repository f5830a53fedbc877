/-
  MODULES READ, plain: how long the rows grow; what a section leaves alone. No condition.
-/
import Derived.Test.YtakfineljffoaaaGreatDoorGBinReads15
import Derived.Test.YtakfineljffoaaaGreatDoorGBinReads16
import Derived.Test.YtakfineljffoaaaGreatDoorGBinReads17
import Derived.Test.YtakfineljffoaaaGreatDoorGBinReads27
import Derived.Test.YtakfineljffoaaaGreatDoorGBinReads28
import Derived.Test.YtakfineljffoaaaGreatDoorGBinReads30
import Derived.Deep.RegionHeld3
namespace Go.Proofs.YtakfineljffoaaaGreatDoor
open Go.RowKit Go.Lib

/-- no row is longer than b -/
structure Small (m : Mdl) (b : Nat) : Prop where
  t : m.types.length ≤ b
  i : m.imports.length ≤ b
  f : m.funcs.length ≤ b
  g : m.globals.length ≤ b
  x : m.exports.length ≤ b
  e : m.elems.length ≤ b
  d : m.data.length ≤ b
theorem Small.mono {m : Mdl} {b c : Nat} (h : Small m b) (hb : b ≤ c) : Small m c := ⟨Nat.le_trans h.t hb, Nat.le_trans h.i hb, Nat.le_trans h.f hb, Nat.le_trans h.g hb, Nat.le_trans h.x hb, Nat.le_trans h.e hb, Nat.le_trans h.d hb⟩
theorem one_small {id : Nat} {x : MC} {s : SB} {b : Nat} (h : Small x.1 b) : Small (oneM id x s).1.1 (b + 1) := by
  obtain ⟨h1, h2, h3, h4, h5, h6, h7⟩ := h
  unfold oneM
  split <;> constructor <;> simp only [List.length_append, List.length_singleton] <;> omega
theorem loop_small {id : Nat} (n : Nat) : ∀ {x : MC} {s : SB} {b : Nat}, Small x.1 b → Small (loopM id n x s).1.1 (b + n) := by
  induction n with
  | zero => intro x s b h; exact h
  | succ n ih =>
    intro x s b h
    rw [loopM]
    split
    · exact h.mono (by omega)
    · have := ih (s := (oneM id x s).2) (one_small (s := s) (id := id) h)
      exact this.mono (by omega)
theorem lim_le (id : Nat) : 0 ≤ limM id ∧ limM id ≤ 16 := by
  unfold limM
  split <;> decide
theorem sec_small {id : Nat} {x : MC} {s : SB} {b : Nat} (h : Small x.1 b) : Small (secM id x s).1.1 (b + 16) := by
  have hl := lim_le id
  have hc := cntM_facts (limM id) hl.1 s
  unfold secM
  split
  · obtain ⟨h1, h2, h3, h4, h5, h6, h7⟩ := h
    constructor <;> simp only <;> omega
  · exact (loop_small _ h).mono (by omega)
theorem with_small {id : Nat} {x : MC} {s : SB} {b : Nat} (h : Small x.1 b) : Small (withM (secM id x) x s).1.1 (b + 16) := by
  unfold withM
  split
  · exact h.mono (by omega)
  · exact sec_small h
theorem one_cs {id : Nat} (h : id ≠ 10) (x : MC) (s : SB) : (oneM id x s).1.2 = x.2 := by
  unfold oneM
  split <;> first | rfl | contradiction
theorem loop_cs {id : Nat} (h : id ≠ 10) (n : Nat) : ∀ (x : MC) (s : SB), (loopM id n x s).1.2 = x.2 := by
  induction n with
  | zero => intro x s; rfl
  | succ n ih =>
    intro x s
    rw [loopM]
    split
    · rfl
    · rw [ih, one_cs h]
theorem sec_cs {id : Nat} (h : id ≠ 10) (x : MC) (s : SB) : (secM id x s).1.2 = x.2 := by
  unfold secM
  split
  · rfl
  · exact loop_cs h _ _ _
theorem loop_ten (n : Nat) : ∀ (x : MC) (s : SB), (loopM 10 n x s).1.1 = x.1 := by
  induction n with
  | zero => intro x s; rfl
  | succ n ih =>
    intro x s
    rw [loopM]
    split
    · rfl
    · rw [ih]; rfl
theorem sec_ten (x : MC) (s : SB) : (secM 10 x s).1.1 = x.1 := by
  unfold secM
  rw [if_neg (by decide)]
  exact loop_ten _ _ _
/-- with other functions -/
def wf (x : MC) (g : List Fn) : MC := ({ x.1 with funcs := g }, x.2)
theorem loop_wf (n : Nat) : ∀ (x : MC) (g : List Fn) (s : SB), loopM 11 n (wf x g) s = (wf (loopM 11 n x s).1 g, (loopM 11 n x s).2) := by
  induction n with
  | zero => intro x g s; rfl
  | succ n ih =>
    intro x g s
    rw [loopM, loopM]
    split
    · rfl
    · exact ih (oneM 11 x s).1 g (oneM 11 x s).2
theorem sec_wf (x : MC) (g : List Fn) (s : SB) : secM 11 (wf x g) s = (wf (secM 11 x s).1 g, (secM 11 x s).2) := by
  unfold secM
  rw [if_neg (by decide), if_neg (by decide)]
  exact loop_wf _ _ _ _
theorem loop_fn (n : Nat) : ∀ (x : MC) (s : SB), (loopM 11 n x s).1.1.funcs = x.1.funcs := by
  induction n with
  | zero => intro x s; rfl
  | succ n ih =>
    intro x s
    rw [loopM]
    split
    · rfl
    · rw [ih]; rfl
theorem sec_fn (x : MC) (s : SB) : (secM 11 x s).1.1.funcs = x.1.funcs := by
  unfold secM
  rw [if_neg (by decide)]
  exact loop_fn _ _ _
end Go.Proofs.YtakfineljffoaaaGreatDoor
namespace Go.Proofs.YtakfineljffoaaaGreatDoor
open Go.RowKit Go.Lib

set_option maxRecDepth 100000 in
set_option maxHeartbeats 8000000 in
theorem blat9_any (w : World) (H M B : Nat) (t : ByteArray) (a : Nat) (vt vi vf vg vx ve vd : Value) (m : Mdl) (cs : List Cd) (h : MS w w H M B t a vt vi vf vg vx ve vd m) (ha : a ≤ t.size) (hs : t.size ≤ 1000000000) (hl : m.elems.length ≤ 1000) :
    Calls Tryz.prog 53 #[.pointer (some ⟨B, 0, none⟩), .int .u8 9, .pointer (some ⟨M, 0, none⟩)] w (PSec H M B t (.tuple #[]) (secM 9 (m, cs) (left t a, 0)).1.1 (secM 9 (m, cs) (left t a, 0)).2 w) := by
  have A0 := hid h
  clear h
  obtain ⟨P, hP⟩ : ∃ P, secM 9 (m, cs) (left t a, 0) = P := ⟨_, rfl⟩
  have HM0 := hid hP.symm
  rw [hP]
  clear hP
  unfold PSec
  go_enter Tryz.func53, Tryz.ntmps53
  go_wp2_with fail
  have HB0 := hid (show m.elems.length ≤ 1000 + 0 from hl)
  clear hl
  have hcf := cntM_facts 4 (by decide) (left t a, 0)
  refine (bcount_any _ B t a 4 A0.out.rd ha hs).mono ?_
  rintro r w1 ⟨ht1, hor1⟩
  have HBD1 := hid (A0.out.bad ht1)
  have HA1 := hid (fun aa hh => A0.out.read (a' := aa) ht1 hh)
  clear ht1
  obtain ⟨v1, s1, hv1⟩ : ∃ v s, cntM 4 (left t a, 0) = (v, s) := ⟨_, _, rfl⟩
  have HM1 := hid (show P = loopM 9 v1.toNat (m, cs) s1 from HM0.out.trans (by rw [secM, if_neg (by decide), show limM 9 = 4 from rfl, hv1]))
  rw [hv1] at hor1
  rw [hv1] at hcf
  clear hv1
  rcases hor1 with ⟨hz, rfl, a1, ha1, hl, hb1⟩ | ⟨hnz, rfl⟩
  case inr =>
    have HN := hid hnz
    clear hnz
    go_wp2_with fail
    exact ⟨rfl, HBD1.out.1, .inr ⟨by rw [HM1.out, loop_st HN.out]; exact HN.out, by rw [HM1.out, loop_st HN.out], HBD1.out.2⟩⟩
  have hs1 : s1 = (left t a1, 0) := Prod.ext hl hz
  subst hs1
  have A1 := hid (HA1.out a1 hb1)
  clear hz hl hb1 HA1 HBD1
  obtain ⟨N, rfl⟩ := Int.eq_ofNat_of_zero_le hcf.1
  have hN : N ≤ 4 := by have := hcf.2.1; omega
  have HM1 := hid (show P = loopM 9 N (m, cs) (left t a1, 0) from HM1.out)
  clear hcf
  go_wp2_with fail
  obtain ⟨m0, hm0⟩ : ∃ m0 : Mdl, m0 = m := ⟨_, rfl⟩
  go_loopw [55] (fun i wr => ∃ (k : Nat) (vt vi vf vg vx ve vd : Value) (mm : Mdl) (aa : Nat), k ≤ N ∧ i = .int .i64 k ∧ aa ≤ t.size ∧ Hid (mm.elems.length ≤ 1000 + k) ∧ Hid (P = loopM 9 (N - k) (mm, cs) (left t aa, 0)) ∧ Hid (MS w wr H M B t aa vt vi vf vg vx ve vd mm)) (fun i _ => N - (RowKit.intOf i).toNat)
  case atStart => exact ⟨0, _, _, _, _, _, _, _, m, a1, Nat.zero_le _, rfl, ha1, HB0, HM1, A1⟩
  case round =>
    clear A0 A1
    obtain ⟨k, vt, vi, vf, vg, vx, ve, vd, mm, a2, hk, rfl, ha2, HBN, HM2, A2⟩ := hrel
    by_cases hlt : k < N
    · have HM2 := hid (show P = LG 9 up9 (N - (k + 1)) (mm, cs) (elmM (left t a2, 0)) from HM2.out.trans (by rw [show N - k = N - (k + 1) + 1 by omega]; exact loop_go rfl rfl))
      obtain ⟨n0, hn0⟩ : ∃ n, mm.elems.length = n := ⟨_, rfl⟩
      obtain ⟨css0, -, hrow⟩ := A2.out.mo.e
      rw [hn0] at hrow
      obtain ⟨ao, cap, rfl, _⟩ := own_sl hrow
      have HN0 := hid hn0
      clear hrow hn0
      go_wp2_with fail
      refine (bplace_any _ B t a2 A2.out.rd ha2 hs).mono ?_
      rintro r w3 ⟨ht3, hor3⟩
      have HBD3 := hid (A2.out.bad ht3)
      have HA3 := hid (fun aa hh => A2.out.read (a' := aa) ht3 hh)
      clear ht3
      obtain ⟨v3, s3, hv3⟩ : ∃ v s, plcM (left t a2, 0) = (v, s) := ⟨_, _, rfl⟩
      have HM3 := hid (show P = LG 9 up9 (N - (k + 1)) (mm, cs) (elmA v3 s3) from HM2.out.trans (by unfold elmM; rw [hv3]))
      rw [hv3] at hor3
      clear hv3
      rcases hor3 with ⟨hz, rfl, a3, ha3, hl, hb3⟩ | ⟨hnz, rfl⟩
      case inr =>
        have HN := hid hnz
        clear hnz
        go_wp2_with fail
        exact ⟨rfl, HBD3.out.1, .inr ⟨by rw [HM3.out, LG_st (by rw [elmA_st HN.out]; exact HN.out), elmA_st HN.out]; exact HN.out, by rw [HM3.out, LG_st (by rw [elmA_st HN.out]; exact HN.out), elmA_st HN.out], HBD3.out.2⟩⟩
      have hs3 : s3 = (left t a3, 0) := Prod.ext hl hz
      subst hs3
      have A3 := hid (HA3.out a3 hb3)
      clear hz hl hb3 HA3 HBD3
      have HS3 := A3
      have A3 := hid (MX.new A3.out #[.int .i64 v3, .slice none 0 0] 72)
      go_wp2_with fail
      generalize w3.heap.size = X at *
      have HRL := hid (show ∀ j, (Value.slice ao n0 cap).ownBlock = some j → j < w3.heap.size from fun j hj => by obtain ⟨css1, -, hr1⟩ := HS3.out.mo.e; exact (World.ownsRow.lt hr1 j hj).2)
      clear HS3
      have hcf := cntM_facts 16 (by decide) (left t a3, 0)
      refine (bcount_any _ B t a3 16 A3.out.rd ha3 hs).mono ?_
      rintro r w4 ⟨ht4, hor4⟩
      have HBD4 := hid (A3.out.bad ht4)
      have HA4 := hid (fun aa hh => A3.out.read (a' := aa) ht4 hh)
      clear ht4
      obtain ⟨v4, s4, hv4⟩ : ∃ v s, cntM 16 (left t a3, 0) = (v, s) := ⟨_, _, rfl⟩
      have HM4 := hid (show P = LG 9 up9 (N - (k + 1)) (mm, cs) (elmB v3 v4.toNat [] s4) from HM3.out.trans (by unfold elmA; rw [hv4]))
      rw [hv4] at hor4
      rw [hv4] at hcf
      clear hv4
      rcases hor4 with ⟨hz, rfl, a4, ha4, hl, hb4⟩ | ⟨hnz, rfl⟩
      case inr =>
        have HN := hid hnz
        clear hnz
        go_wp2_with fail
        exact ⟨rfl, HBD4.out.1, .inr ⟨by rw [HM4.out, LG_st (by rw [elmB_st HN.out]; exact HN.out), elmB_st HN.out]; exact HN.out, by rw [HM4.out, LG_st (by rw [elmB_st HN.out]; exact HN.out), elmB_st HN.out], HBD4.out.2⟩⟩
      have hs4 : s4 = (left t a4, 0) := Prod.ext hl hz
      subst hs4
      have A4 := hid (HA4.out a4 hb4)
      clear hz hl hb4 HA4 HBD4
      obtain ⟨N4, rfl⟩ := Int.eq_ofNat_of_zero_le hcf.1
      have hN4 : N4 ≤ 16 := by have := hcf.2.1; omega
      have HM4 := hid (show P = LG 9 up9 (N - (k + 1)) (mm, cs) (elmB v3 N4 [] (left t a4, 0)) from HM4.out)
      clear hcf
      have O4 := hid (OwnI.nil w4 w3.heap.size .i64 3)
      go_wp2_with fail
      go_loopw [62] (fun i wr => ∃ (j : Nat) (u : Value) (xs : List Int) (aa : Nat), j ≤ N4 ∧ i = .int .i64 j ∧ xs.length = j ∧ aa ≤ t.size ∧ Hid (P = LG 9 up9 (N - (k + 1)) (mm, cs) (elmB v3 (N4 - j) xs (left t aa, 0))) ∧ Hid (MX w w3 wr H M B t aa vt vi vf vg vx (.slice ao n0 cap) vd mm X 72 [.int .i64 v3, u]) ∧ Hid (OwnI wr w3.heap.size .i64 3 u xs)) (fun i _ => N4 - (RowKit.intOf i).toNat)
      case atStart => exact ⟨0, _, [], a4, Nat.zero_le _, rfl, rfl, ha4, HM4, A4, O4⟩
      case round =>
        clear A4 O4 A3
        obtain ⟨j, u, xs, a5, hj, rfl, hxl, ha5, HM5, A5, O5⟩ := hrel
        by_cases hlt2 : j < N4
        · have HM5 := hid (show P = LG 9 up9 (N - (k + 1)) (mm, cs) (elmB v3 (N4 - (j + 1) + 1) xs (left t a5, 0)) from HM5.out.trans (by rw [show N4 - (j + 1) + 1 = N4 - j by omega]))
          obtain ⟨bo, cbp, rfl, _⟩ := own_sl O5.out
          have A6 := hid A5.out.drew
          have O6 := hid (show OwnI (World.drew _) w3.heap.size .i64 3 _ xs from O5.out)
          have HM6 := HM5
          have HXL := hid hxl
          clear hxl
          go_wp2_with fail
          refine wp_region_tail (S := (fun w' => w'.cell? ⟨X, 1, none⟩ = some (.slice bo xs.length cbp))) 7 (by kernel_rfl) (by kernel_rfl) ?_ (fun hHeld => ?_)
          · exact A6.out.x.cell (i := 1) rfl
          repeat ((first | refine tk 0 ?_ rfl ?_ ?_ | refine tk 1 ?_ rfl ?_ ?_ | refine tk 2 ?_ rfl ?_ ?_ | refine tk 6 ?_ rfl ?_ ?_); rotate_left; (intro wy hSw; (try dsimp only at hSw); (go_simp <;> with_reducible rfl)); (try simp only [List.getElem_toArray, List.getElem_cons_zero, List.getElem_cons_succ, Act.put, List.setIfInBounds_toArray, List.set_cons_zero, List.set_cons_succ]))
          refine wpT_one (k := 3) rfl (by kernel_rfl) (fun K hK => ?_)
          go_simp
          refine (bnumber_any _ B t a5 A6.out.rd ha5 hs).mono ?_
          rintro r w7 ⟨ht7, hor7⟩
          have HBD7 := hid (A6.out.bad ht7)
          have HA7 := hid (fun aa hh => A6.out.read (a' := aa) ht7 hh)
          have O7 := hid ((KT.touch A6.out.rd ht7).own O6.out rfl)
          clear ht7
          obtain ⟨v7, s7, hv7⟩ : ∃ v s, numM (left t a5, 0) = (v, s) := ⟨_, _, rfl⟩
          have HM7 := hid (show P = LG 9 up9 (N - (k + 1)) (mm, cs) (elmB v3 (N4 - (j + 1)) (xs ++ [v7]) s7) from HM6.out.trans (by rw [elmB_succ, hv7]))
          rw [hv7] at hor7
          clear hv7
          rcases hor7 with ⟨hz, rfl, a7, ha7, hl, hb7⟩ | ⟨hnz, rfl⟩
          case inr =>
            have HN := hid hnz
            clear hnz
            go_simp
            exact ⟨rfl, HBD7.out.1, .inr ⟨by rw [HM7.out, LG_st (by rw [elmB_st HN.out]; exact HN.out), elmB_st HN.out]; exact HN.out, by rw [HM7.out, LG_st (by rw [elmB_st HN.out]; exact HN.out), elmB_st HN.out], HBD7.out.2⟩⟩
          have hs7 : s7 = (left t a7, 0) := Prod.ext hl hz
          subst hs7
          have A7 := hid (HA7.out a7 hb7)
          clear hz hl hb7 HA7 HBD7
          refine hK.out _ _ ?_ (fun hHeld => ?_)
          · exact A7.out.x.cell (i := 1) rfl
          clear hK K
          (try simp only [Act.put, List.setIfInBounds_toArray, List.set_cons_zero, List.set_cons_succ])
          refine wpT_one (k := 4) rfl (by kernel_rfl) (fun K hK => ?_)
          go_simp
          refine hK.out _ _ ?_ (fun hHeld => ?_)
          · exact cell_alloc _ (A7.out.x.cell (i := 1) rfl)
          clear hK K
          (try simp only [Act.put, List.setIfInBounds_toArray, List.set_cons_zero, List.set_cons_succ])
          have hlx : xs.length ≤ 16 := by have := HXL.out; omega
          refine wpT_one (k := 5) rfl (by kernel_rfl) (fun K hK => ?_)
          refine step_one1 elem_intv (cs := [.int .i64 v7]) (by rfl) _ _ (by rfl) (by rfl) (by rfl) rfl O7.out rfl (by intro c hc; simp at hc; subst hc; rfl) (by first | omega | (simp; omega)) (by first | omega | (simp; omega)) (by have := A7.out.tx.size; omega) ?_
          intro v' w8 ho8 hb8 hg8
          obtain ⟨a8, c8, rfl, _⟩ := own_sl ho8
          have C7 := hid (A7.out.pushI rfl O7.out hg8.1 (OwnI.of_app ho8))
          have y0 := C7.out.1.1
          have yf := C7.out.1.2
          refine hK.out _ _ ?_ (fun hHeld => ?_)
          · exact y0
          clear hK K
          (try simp only [Act.put, List.setIfInBounds_toArray, List.set_cons_zero, List.set_cons_succ])
          repeat ((first | refine tk 6 ?_ rfl ?_ ?_); rotate_left; (intro wy hSw; (try dsimp only at hSw); (go_simp <;> with_reducible rfl)); (try simp only [List.getElem_toArray, List.getElem_cons_zero, List.getElem_cons_succ, Act.put, List.setIfInBounds_toArray, List.set_cons_zero, List.set_cons_succ]))
          refine wpT_done (by kernel_rfl) ?_
          go_wp2_with fail
          go_roundw
          case rel => exact ⟨j + 1, _, xs ++ [v7], a7, hlt2, by go_num, by have := HXL.out; simp; omega, ha7, HM7, hid C7.out.2.1, hid C7.out.2.2⟩
          case measure => simp [RowKit.intOf]; omega
        obtain rfl : j = N4 := by omega
        have HM5 := hid (show P = LG 9 up9 (N - (k + 1)) (mm, cs) ((v3, xs), (left t a5, 0)) from HM5.out.trans (by rw [Nat.sub_self]; rfl))
        obtain ⟨bo, cbp, rfl, _⟩ := own_sl O5.out
        clear hxl hlt2
        have hzz := A5.out.ms.size
        have HX6 := hid (show EEl (World.drew _) H [.int .i64 v3, .slice bo xs.length cbp] (v3, xs) from ⟨_, rfl, own_mono' O5.out (by obtain ⟨az, gz⟩ := A5.out.s; exact gz.size)⟩)
        have A6 := A5
        have A6 := hid A6.out.drew
        clear hzz
        go_wp2_with fail
        refine wp_region_tail (S := (fun w' => w'.cell? ⟨M, 9, none⟩ = some (.slice ao n0 cap) ∧ w'.cell? ⟨X, 0, none⟩ = some (.int .i64 v3) ∧ w'.cell? ⟨X, 1, none⟩ = some (.slice bo xs.length cbp))) 10 (by kernel_rfl) (by kernel_rfl) ?_ (fun hHeld => ?_)
        · exact ⟨A6.out.ms.mo.blk.cell (i := 9) rfl, A6.out.x.cell (i := 0) rfl, A6.out.x.cell (i := 1) rfl⟩
        repeat ((first | refine tk 0 ?_ rfl ?_ ?_ | refine tk 1 ?_ rfl ?_ ?_ | refine tk 2 ?_ rfl ?_ ?_ | refine tk 3 ?_ rfl ?_ ?_ | refine tk 4 ?_ rfl ?_ ?_ | refine tk 5 ?_ rfl ?_ ?_ | refine tk 8 ?_ rfl ?_ ?_ | refine tk 9 ?_ rfl ?_ ?_); rotate_left; (intro wy hSw; (try dsimp only at hSw); (go_simp <;> with_reducible rfl)); (try simp only [List.getElem_toArray, List.getElem_cons_zero, List.getElem_cons_succ, Act.put, List.setIfInBounds_toArray, List.set_cons_zero, List.set_cons_succ]))
        skip
        refine wpT_one (k := 6) rfl (by kernel_rfl) (fun K hK => ?_)
        go_simp
        refine hK.out _ _ ?_ (fun hHeld => ?_)
        · exact ⟨cell_alloc _ (A6.out.ms.mo.blk.cell (i := 9) rfl), cell_alloc _ (A6.out.x.cell (i := 0) rfl), cell_alloc _ (A6.out.x.cell (i := 1) rfl)⟩
        clear hK K
        (try simp only [Act.put, List.setIfInBounds_toArray, List.set_cons_zero, List.set_cons_succ])
        obtain ⟨css, HC, hrow⟩ := A6.out.ms.mo.e
        have HBN2 := HBN.out
        have HN02 := HN0.out
        rw [HN02] at hrow HBN2
        refine wpT_one (k := 7) rfl (by kernel_rfl) (fun K hK => ?_)
        refine step_one1 elem_elemv (cs := [.int .i64 v3, .slice bo xs.length cbp]) (by rfl) _ _ (by rfl) (by rfl) (by rfl) rfl hrow rfl (by intro c hc; simp at hc; rcases hc with rfl | rfl <;> rfl) (by omega) (by omega) A6.out.ms.size ?_
        intro v' w6 ho6 hb6 hg6
        obtain ⟨az, cz, rfl, _⟩ := own_sl ho6
        have C4 := hid (A6.out.ms.pushE HN02 HC hrow HX6.out hg6.1 ho6)
        have y0 := C4.out.1.1
        have yf := C4.out.1.2
        have hxk := A6.out.xkeep HRL.out hg6.1
        refine hK.out _ _ ?_ (fun hHeld => ?_)
        · exact ⟨y0, hxk.cell (i := 0) rfl, hxk.cell (i := 1) rfl⟩
        clear hK K
        (try simp only [Act.put, List.setIfInBounds_toArray, List.set_cons_zero, List.set_cons_succ])
        repeat ((first | refine tk 8 ?_ rfl ?_ ?_ | refine tk 9 ?_ rfl ?_ ?_); rotate_left; (intro wy hSw; (try dsimp only at hSw); (go_simp <;> with_reducible rfl)); (try simp only [List.getElem_toArray, List.getElem_cons_zero, List.getElem_cons_succ, Act.put, List.setIfInBounds_toArray, List.set_cons_zero, List.set_cons_succ]))
        refine wpT_done (by kernel_rfl) ?_
        go_wp2_with fail
        go_roundw
        case rel => exact ⟨k + 1, _, _, _, _, _, _, _, { mm with elems := mm.elems ++ [(v3, xs)] }, a5, hlt, by go_num, ha5, hid (by have := HBN.out; show (mm.elems ++ [_]).length ≤ _; rw [List.length_append, List.length_singleton]; omega), hid HM5.out, hid C4.out.2⟩
        case measure => simp [RowKit.intOf]; omega
    obtain rfl : k = N := by omega
    have HM2 := hid (show P = ((mm, cs), (left t a2, 0)) from HM2.out.trans (by rw [Nat.sub_self]; rfl))
    go_wp2_with fail
    go_end0
    exact ⟨A2.out.tt, .inl ⟨by rw [HM2.out], rfl, vt, vi, vf, vg, vx, ve, vd, a2, ha2, by rw [HM2.out], by rw [HM2.out]; exact A2.out.mo, A2.out.rd⟩⟩
end Go.Proofs.YtakfineljffoaaaGreatDoor
namespace Go.Proofs.YtakfineljffoaaaGreatDoor
open Go.RowKit Go.Lib

theorem oct_lt (s : SB) : (octM s).1 < 256 := by
  unfold octM
  split
  · show 0 < 256; omega
  · split
    · exact UInt8.toNat_lt _
    · show 0 < 256; omega
def mstA (b e : Int) (q : Nat × SB) : SB := sayM (decide ((q.1 : Int) ≠ b)) e q.2
def kndA (q : Nat × SB) : Int × SB := ((q.1 : Int), sayM (!isK (q.1 : Int)) 6 q.2)
set_option maxRecDepth 100000 in
set_option maxHeartbeats 4000000 in
theorem cmust_any (w : World) (B : Nat) (all : Int) (s : SB) (b e : Int) (h : CuB w B all s) (hs : okSc s) :
    Calls Tryz.prog 19 #[.pointer (some ⟨B, 0, none⟩), .int .i64 b, .int .i64 e] w fun r w' => r = .returned (.tuple #[]) ∧ CuB w' B all (mustM b e s) ∧ ToC B w w' := by
  have C0 := hid h
  have S0 := hid hs
  have T0 := hid (Touch.refl (fun k => k = B) w)
  clear h hs
  obtain ⟨P, hP⟩ : ∃ P, mustM b e s = P := ⟨_, rfl⟩
  have HM0 := hid hP.symm
  rw [hP]
  clear hP
  go_enter Tryz.func19, Tryz.ntmps19
  go_wp2_with fail
  refine (coctet_any _ B all s C0.out S0.out).mono ?_
  rintro r w1 ⟨hr, h1, t1⟩
  have hle := octM_size s
  obtain ⟨v1, s1, hv1⟩ : ∃ vz sz, octM s = (vz, sz) := ⟨_, _, rfl⟩
  have HM1 := hid (show P = mstA b e (v1, s1) from HM0.out.trans (by rw [← hv1]; rfl))
  rw [hv1] at hr h1 hle
  subst hr
  have C1 := hid h1
  have S1 := hid (S0.out.le hle)
  have T1 := hid (T0.out.trans t1)
  clear h1 t1 hle hv1
  go_wp2_with fail
  have e1 : ((v1 : Int) != b) = decide ((v1 : Int) ≠ b) := by by_cases hq : (v1 : Int) = b <;> simp [hq]
  try rw [e1]
  refine (csay_any _ B all s1 _ e C1.out).mono ?_
  rintro r w2 ⟨rfl, h2, t2⟩
  have C2 := hid h2
  have T2 := hid (T1.out.trans t2)
  clear h2 t2
  go_wp2_with fail
  go_end0
  exact ⟨rfl, by rw [HM1.out]; exact C2.out, T2.out⟩
set_option maxRecDepth 100000 in
set_option maxHeartbeats 4000000 in
theorem ckind_any (w : World) (B : Nat) (all : Int) (s : SB) (h : CuB w B all s) (hs : okSc s) :
    Calls Tryz.prog 57 #[.pointer (some ⟨B, 0, none⟩)] w fun r w' => r = .returned (.int .u8 (kndM s).1) ∧ CuB w' B all (kndM s).2 ∧ ToC B w w' := by
  have C0 := hid h
  have S0 := hid hs
  have T0 := hid (Touch.refl (fun k => k = B) w)
  clear h hs
  obtain ⟨P, hP⟩ : ∃ P, kndM s = P := ⟨_, rfl⟩
  have HM0 := hid hP.symm
  rw [hP]
  clear hP
  go_enter Tryz.func57, Tryz.ntmps57
  go_wp2_with fail
  refine (coctet_any _ B all s C0.out S0.out).mono ?_
  rintro r w1 ⟨hr, h1, t1⟩
  have hle := octM_size s
  obtain ⟨v1, s1, hv1⟩ : ∃ vz sz, octM s = (vz, sz) := ⟨_, _, rfl⟩
  have HM1 := hid (show P = kndA (v1, s1) from HM0.out.trans (by rw [← hv1]; rfl))
  rw [hv1] at hr h1 hle
  subst hr
  have C1 := hid h1
  have S1 := hid (S0.out.le hle)
  have T1 := hid (T0.out.trans t1)
  have hb1 : v1 < 256 := by have := oct_lt s; rw [hv1] at this; exact this
  clear h1 t1 hle hv1
  by_cases h126 : (v1 : Int) = 126
  · have e1 : (!isK (v1 : Int)) = false := by rw [h126]; rfl
    have HM2 := hid (show P = ((v1 : Int), sayM false 6 s1) from HM1.out.trans (by unfold kndA; simp only; rw [e1]))
    clear e1
    go_wp2_with fail
    refine (csay_any _ B all s1 _ 6 C1.out).mono ?_
    rintro r w2 ⟨rfl, h2, t2⟩
    have C2 := hid h2
    have T2 := hid (T1.out.trans t2)
    clear h2 t2
    go_wp2_with fail
    go_ret
    exact ⟨by rw [HM2.out]; first | rfl | (simp only [h126]; rfl), by rw [HM2.out]; exact C2.out, T2.out⟩
  · have e1 : (!isK (v1 : Int)) = ((v1 : Int) != 126 && (v1 : Int) != 127) := by unfold isK; by_cases h127 : (v1 : Int) = 127 <;> simp [h126, h127]
    have HM2 := hid (show P = ((v1 : Int), sayM ((v1 : Int) != 126 && (v1 : Int) != 127) 6 s1) from HM1.out.trans (by unfold kndA; simp only; rw [e1]))
    clear e1
    go_wp2_with fail
    refine (csay_any _ B all s1 _ 6 C1.out).mono ?_
    rintro r w2 ⟨rfl, h2, t2⟩
    have C2 := hid h2
    have T2 := hid (T1.out.trans t2)
    clear h2 t2
    go_wp2_with fail
    go_ret
    exact ⟨by rw [HM2.out]; rfl, by rw [HM2.out]; exact C2.out, T2.out⟩
set_option maxRecDepth 100000 in
set_option maxHeartbeats 4000000 in
theorem cplace_any (w : World) (B : Nat) (all : Int) (s : SB) (h : CuB w B all s) (hs : okSc s) :
    Calls Tryz.prog 60 #[.pointer (some ⟨B, 0, none⟩)] w fun r w' => r = .returned (.int .i64 (plcM s).1) ∧ CuB w' B all (plcM s).2 ∧ ToC B w w' := by
  have C0 := hid h
  have S0 := hid hs
  have T0 := hid (Touch.refl (fun k => k = B) w)
  clear h hs
  obtain ⟨P, hP⟩ : ∃ P, plcM s = P := ⟨_, rfl⟩
  have HM0 := hid hP.symm
  rw [hP]
  clear hP
  go_enter Tryz.func60, Tryz.ntmps60
  go_wp2_with fail
  refine (cmust_any _ B all s 0 6 C0.out S0.out).mono ?_
  rintro r w1 ⟨hr, h1, t1⟩
  have hle := mst_le 0 6 s
  obtain ⟨s1, hv1⟩ : ∃ sz, mustM 0 6 s = sz := ⟨_, rfl⟩
  have HM1 := hid (show P = plcA s1 from HM0.out.trans (by unfold plcM; rw [hv1]))
  rw [hv1] at h1 hle
  subst hr
  have C1 := hid h1
  have S1 := hid (S0.out.le hle)
  have T1 := hid (T0.out.trans t1)
  clear h1 t1 hle hv1
  go_wp2_with fail
  refine (cmust_any _ B all s1 65 6 C1.out S1.out).mono ?_
  rintro r w2 ⟨hr, h2, t2⟩
  have hle := mst_le 65 6 s1
  obtain ⟨s2, hv2⟩ : ∃ sz, mustM 65 6 s1 = sz := ⟨_, rfl⟩
  have HM2 := hid (show P = plcB s2 from HM1.out.trans (by unfold plcA; rw [hv2]))
  rw [hv2] at h2 hle
  subst hr
  have C2 := hid h2
  have S2 := hid (S1.out.le hle)
  have T2 := hid (T1.out.trans t2)
  clear h2 t2 hle hv2
  go_wp2_with fail
  refine (csigned_any _ B all s2 32 (.inl rfl) C2.out S2.out).mono ?_
  rintro r w3 ⟨hr, h3, t3⟩
  have hle := sgn_le (.inl rfl) s2
  obtain ⟨v3, s3, hv3⟩ : ∃ vz sz, sgnM 32 s2 = (vz, sz) := ⟨_, _, rfl⟩
  have HM3 := hid (show P = plcC (v3, s3) from HM2.out.trans (by unfold plcB; rw [hv3]))
  rw [hv3] at hr h3 hle
  subst hr
  have C3 := hid h3
  have S3 := hid (S2.out.le hle)
  have T3 := hid (T2.out.trans t3)
  clear h3 t3 hle hv3
  go_wp2_with fail
  refine (cmust_any _ B all s3 11 4 C3.out S3.out).mono ?_
  rintro r w4 ⟨hr, h4, t4⟩
  have hle := mst_le 11 4 s3
  obtain ⟨s4, hv4⟩ : ∃ sz, mustM 11 4 s3 = sz := ⟨_, rfl⟩
  have HM4 := hid (show P = (v3, s4) from HM3.out.trans (by unfold plcC; rw [hv4]))
  rw [hv4] at h4 hle
  subst hr
  have C4 := hid h4
  have S4 := hid (S3.out.le hle)
  have T4 := hid (T3.out.trans t4)
  clear h4 t4 hle hv4
  go_wp2_with fail
  go_ret
  exact ⟨by rw [HM4.out]; rfl, by rw [HM4.out]; exact C4.out, T4.out⟩
end Go.Proofs.YtakfineljffoaaaGreatDoor
namespace Go.Proofs.YtakfineljffoaaaGreatDoor
open Go.RowKit Go.Lib
attribute [local go_sem ↓] Go.wp_at_zero Go.wp_at_succ

set_option maxRecDepth 100000 in
set_option maxHeartbeats 2000000 in
theorem sameAll_SaE (w : World) (va vb : Value) (ca cb : List (List Value)) (hl : ca.length = cb.length) (hla : ∀ c ∈ ca, c.length = 2) (hlb : ∀ c ∈ cb, c.length = 2) (ha : Sl w va ca.length ca.flatten) (hb : Sl w vb cb.length cb.flatten)
    (hs : ∀ i (h1 : i < ca.length) (h2 : i < cb.length) (w' : World), Below w.heap.size w w' → Calls Tryz.prog 27 #[.agg ca[i].toArray, .agg cb[i].toArray] w' fun e w2 => e = .returned (.bool true) ∧ Below w'.heap.size w' w2) :
    Calls Tryz.prog 35 #[va, vb, .func (.func 27) #[] #[]] w fun e w' => e = .returned (.bool true) ∧ Below w.heap.size w w' := by
  rcases sm_open (s := 2) (by decide) hla ha with ⟨ao, cap, rfl, h0⟩ | ⟨b, off, cap, rfl, h0, hcap, hm, hca⟩
  · have hb0 : cb.length = 0 := by omega
    obtain ⟨ao', cap', rfl, _, _, _, _⟩ := hb
    rw [hb0]
    clear hs hb0 hl hla hlb ha h0
    go_enter Tryz.func35, Tryz.ntmps35
    go_wp2
    refine wp_loop_rounds 1 ?_; rw [rounds_succ]; go_wp2
    go_ret
    exact ⟨rfl, Below.refl _ _⟩
  rcases sm_open (s := 2) (by decide) hlb hb with ⟨ao', cap', rfl, h0'⟩ | ⟨b', off', cap', rfl, h0', hcap', hm', hcb⟩
  · omega
  have hne : ((ca.length : Int) != cb.length) = false := by simp [hl]
  have HL := hid hl
  have HCA := hid hca
  have HCB := hid hcb
  have HS := hid hs
  have HLA := hid hla
  have HLB := hid hlb
  clear hl hca hcb hs hla hlb ha hb
  go_enter Tryz.func35, Tryz.ntmps35
  go_wp2
  go_loopw [15] (fun i wr => ∃ k : Nat, k ≤ ca.length ∧ i = .int .i64 k ∧ Hid (Below w.heap.size w wr)) (fun i _ => ca.length - (RowKit.intOf i).toNat)
  case atStart => exact ⟨0, Nat.zero_le _, rfl, hid (Below.refl _ _)⟩
  case round =>
    obtain ⟨k, hk, rfl, HB⟩ := hrel
    by_cases hlt : k < ca.length
    · have hlt' : k < cb.length := by have := HL.out; omega
      have hh := HS.out k hlt hlt' wr.drew (below_dr HB.out)
      obtain ⟨c0, c1, hea⟩ := sm_split2 (HLA.out _ (List.getElem_mem hlt))
      obtain ⟨d0, d1, heb⟩ := sm_split2 (HLB.out _ (List.getElem_mem hlt'))
      rw [hea, heb] at hh
      have HH := hid hh
      have HEA := hid hea
      have HEB := hid heb
      have e0 : wr.drew.cell? ⟨b, off + k * 2, none⟩ = some c0 := sm_at HCA.out (below_dr HB.out) hlt HLA.out hea (f := 0) rfl
      have e1 : wr.drew.cell? ⟨b, off + k * 2 + 1, none⟩ = some c1 := sm_at HCA.out (below_dr HB.out) hlt HLA.out hea (f := 1) rfl
      have f0 : wr.drew.cell? ⟨b', off' + k * 2, none⟩ = some d0 := sm_at HCB.out (below_dr HB.out) hlt' HLB.out heb (f := 0) rfl
      have f1 : wr.drew.cell? ⟨b', off' + k * 2 + 1, none⟩ = some d1 := sm_at HCB.out (below_dr HB.out) hlt' HLB.out heb (f := 1) rfl
      clear hh hea heb
      have hi0 : (0 : Int) ≤ (k : Int) := by omega
      have hi1 : (k : Int) < (ca.length : Int) := by omega
      have hi2 : (k : Int) < (cb.length : Int) := by omega
      go_wp2_with fail
      go_region_held3 (fun w' => w'.cell? ⟨b, off + k * 2, none⟩ = some c0 ∧ w'.cell? ⟨b, off + k * 2 + 1, none⟩ = some c1 ∧ w'.cell? ⟨b', off' + k * 2, none⟩ = some d0 ∧ w'.cell? ⟨b', off' + k * 2 + 1, none⟩ = some d1) (first | exact ⟨e0, e1, f0, f1⟩ | exact ⟨sm_at HCA.out HB3.out hlt HLA.out HEA.out (f := 0) rfl, sm_at HCA.out HB3.out hlt HLA.out HEA.out (f := 1) rfl, sm_at HCB.out HB3.out hlt' HLB.out HEB.out (f := 0) rfl, sm_at HCB.out HB3.out hlt' HLB.out HEB.out (f := 1) rfl⟩ | go_keep) (first | (go_at_call 27; (with_reducible refine HH.out.mono ?_); rintro r w3 ⟨rfl, h1⟩; have HB3 := hid (HB.out.trans ((below_dr (Below.refl wr.heap.size wr)).trans h1 |>.mono HB.out.size)); clear h1))
      all_goals
        go_wp2_with fail
        go_roundw
        case rel => exact ⟨k + 1, by omega, by go_num, HB3⟩
        case measure => simp [RowKit.intOf]; omega
    · go_wp2
      go_ret
      exact ⟨rfl, HB.out⟩
end Go.Proofs.YtakfineljffoaaaGreatDoor
