/-
  BODIES: the program's Match. No condition.
-/
import Derived.Test.YtomaiolhaenmhaaNsB
import Derived.Deep.RegionLaw
namespace Go.Proofs.Ytomaiolhaenmhaa
open Go.RowKit Go.Lib
attribute [local go_sem ↓] Go.wp_at_zero Go.wp_at_succ

/-- what the program marks -/
def mkM (l : List It) : AB := matR It.op l 0 ([(-1, 2)], false) (List.replicate l.length 0, List.replicate l.length 0)
theorem made_ints (w : World) (n base : Nat) (e : TypeId) (hn : n ≤ 9223372036854775807) (hb : base ≤ w.heap.size) : OwnI (w.alloc (.cells (madeCells #[Value.int .i64 0] n) e)) base .i64 e (.slice (some ⟨w.heap.size, 0, none⟩) n n) (List.replicate n 0) := by
  have e1 : (madeCells #[Value.int .i64 0] n).toList = (List.replicate n (0 : Int)).map (Value.int .i64) := by rw [toList_madeCells_one, List.map_replicate]
  show World.ownsRow _ _ _ _ _ (List.replicate n (0 : Int)).length _
  rw [List.length_replicate]
  refine ⟨by simp, .inr ⟨w.heap.size, n, _, rfl, hb, heap_alloc_new w _, Nat.le_refl _, by unfold maxLen; omega, by have h := congrArg List.length e1; simpa using h, ?_⟩⟩
  rw [e1]
  exact List.take_of_length_le (by simp)
theorem run_mk (n : Nat) (hn : n ≤ 200) (w : World) : (Instr.makeSlice 45 (.int .i64 n) (.int .i64 n)).run Try.prog w = .ok (.slice (some ⟨w.heap.size, 0, none⟩) n n) (w.alloc (.cells (madeCells #[Value.int .i64 0] n) 3)) := by
  obtain ⟨ht, hinfo, _, _⟩ := elem_intv
  obtain ⟨i0, hi, hz0, hz1, hzb⟩ := info_parts hinfo
  have := run_make (P := Try.prog) w 45 3 i0 (.int .i64 0) ht hi hz0 .i64 .i64 n n (by omega) (by omega) (by rw [hzb]; omega) (by omega)
  rw [this, hz1]
  simp [Value.cells]
/-- every place that is open lies before -/
def InvT (k : Nat) (T : Stk) : Prop := ∀ x ∈ T, (x.1 = -1 ∧ x.2 = 2) ∨ ∃ q : Nat, x.1 = q ∧ q < k
theorem next_inv {k : Nat} {T : Stk} {ov : Bool} {op : Nat} (hI : InvT k T) (hT : ov = false → T ≠ []) (h0 : (wnext (T, ov) op k).1.2 = 0) :
    InvT (k + 1) (wnext (T, ov) op k).2.1 ∧ (op = 5 → ∃ q : Nat, (wnext (T, ov) op k).1.1 = q ∧ q < k) ∧ (op = 11 → (wnext (T, ov) op k).1.1 = -1 ∨ ∃ q : Nat, (wnext (T, ov) op k).1.1 = q ∧ q < k) := by
  have hup : InvT (k + 1) T := fun x hx => (hI x hx).imp id (fun ⟨q, h1, h2⟩ => ⟨q, h1, by omega⟩)
  cases ov with
  | true => simp [wnext] at h0
  | false =>
    obtain ⟨p, u, r, rfl⟩ : ∃ p u r, T = (p, u) :: r := by
      have := hT rfl
      match T, this with
      | (p, u) :: r, _ => exact ⟨p, u, r, rfl⟩
    by_cases h2 : op = 2 ∨ op = 3 ∨ op = 4
    · by_cases hd : 13 ≤ ((p, u) :: r).length
      · rw [wn_deep h2 hd] at h0; simp at h0
      · rw [wn_push h2 hd]
        refine ⟨?_, fun h => by omega, fun h => by omega⟩
        intro x hx
        rcases List.mem_cons.1 hx with rfl | hx
        · exact .inr ⟨k, rfl, by omega⟩
        · exact hup x hx
    · by_cases h5 : op = 5
      · subst h5
        by_cases hu : u = 4
        · rw [wn_else hu]
          have hp := hI (p, u) (List.mem_cons_self)
          simp only at hp
          obtain ⟨q, hq1, hq2⟩ : ∃ q : Nat, p = q ∧ q < k := by
            rcases hp with ⟨_, hp⟩ | hp
            · omega
            · exact hp
          refine ⟨?_, fun _ => ⟨q, hq1, hq2⟩, fun h => by omega⟩
          intro x hx
          rcases List.mem_cons.1 hx with rfl | hx
          · exact .inr ⟨q, hq1, by omega⟩
          · exact hup x (List.mem_cons_of_mem _ hx)
        · rw [wn_noelse hu] at h0; simp at h0
      · by_cases h11 : op = 11
        · subst h11
          rw [wn_end]
          refine ⟨fun x hx => hup x (List.mem_cons_of_mem _ hx), fun h => by omega, fun _ => ?_⟩
          rcases hI (p, u) (List.mem_cons_self) with ⟨hp, _⟩ | hp
          · exact .inl hp
          · exact .inr hp
        · rw [wn_plain h2 h5 h11]
          exact ⟨hup, fun h => absurd h h5, fun h => absurd h h11⟩
theorem mat_plain {op : Nat} {is : Int} {k : Nat} {m : AB} (h5 : op ≠ 5) (h11 : op ≠ 11) : matS op is k m = (m.1.set k (-1), m.2.set k (-1)) := by unfold matS; rw [if_neg h5, if_neg h11]
theorem mat_else {q k : Nat} {m : AB} : matS 5 (q : Int) k m = (m.1.set k (-1), ((m.2.set k (-1)).set k q).set q k) := by unfold matS; rw [if_pos rfl, Int.toNat_natCast]
theorem mat_end0 {k : Nat} {m : AB} : matS 11 (-1) k m = ((m.1.set k (-1)).set k (-1), m.2.set k (-1)) := by unfold matS; rw [if_neg (by decide), if_pos rfl, if_neg (by decide)]
theorem mat_end1 {q k : Nat} {m : AB} {z : Int} (hz : (m.2.set k (-1))[q]? = some z) (h0 : ¬ 0 ≤ z) : matS 11 (q : Int) k m = (((m.1.set k (-1)).set k q).set q k, m.2.set k (-1)) := by
  unfold matS
  rw [if_neg (by decide), if_pos rfl, if_pos (by omega), Int.toNat_natCast, getD_of hz, if_neg h0]
theorem mat_end2 {q k z : Nat} {m : AB} (hz : (m.2.set k (-1))[q]? = some (z : Int)) : matS 11 (q : Int) k m = ((((m.1.set k (-1)).set k q).set q k).set z k, m.2.set k (-1)) := by
  unfold matS
  rw [if_neg (by decide), if_pos rfl, if_pos (by omega), Int.toNat_natCast, getD_of hz, if_pos (by omega), Int.toNat_natCast]
theorem OwnI.at1 {w : World} {base : Nat} {k : IntKind} {e : TypeId} {g n : Nat} {xs : List Int} (h : OwnI w base k e (.slice (some ⟨g, 0, none⟩) n n) xs) (hn : xs.length = n) (j : Nat) (hj : j < xs.length) : ∃ v, w.cell? ⟨g, j, none⟩ = some v ∧ ∀ i, w.frozen? ⟨g, i, none⟩ = false := by
  obtain ⟨g', cap, h1, _, _, _, h5, h6, _⟩ := h.at hn (by omega)
  simp only [Value.slice.injEq, Option.some.injEq, Addr.mk.injEq, and_true, true_and] at h1
  obtain ⟨rfl, _⟩ := h1
  exact ⟨_, h5 j _ (List.getElem?_eq_getElem hj), h6⟩
theorem OwnI.val1 {w : World} {base : Nat} {k : IntKind} {e : TypeId} {g n : Nat} {xs : List Int} (h : OwnI w base k e (.slice (some ⟨g, 0, none⟩) n n) xs) (hn : xs.length = n) {j : Nat} {z : Int} (hz : xs[j]? = some z) : w.cell? ⟨g, j, none⟩ = some (.int k z) := by
  have hj := (List.getElem?_eq_some_iff.1 hz).1
  obtain ⟨g', cap, h1, _, _, _, h5, h6, _⟩ := h.at hn (by omega)
  simp only [Value.slice.injEq, Option.some.injEq, Addr.mk.injEq, and_true, true_and] at h1
  obtain ⟨rfl, _⟩ := h1
  exact h5 j z hz
theorem own_setCell2 {w : World} {base : Nat} {k : IntKind} {e : TypeId} {g n m : Nat} {xs : List Int} (h : OwnI w base k e (.slice (some ⟨g, 0, none⟩) n m) xs) {b : Nat} (hne : g ≠ b) (x : Nat × Value) : OwnI (w.setCell ⟨b, x.1, none⟩ x.2) base k e (.slice (some ⟨g, 0, none⟩) n m) xs := ownsRow_setCell_other (a := ⟨b, x.1, none⟩) h (fun e => hne (by injection e)) x.2
theorem WkB.put {w : World} {B base : Nat} {vo vl : Value} {st : Stk × Bool} (h : WkB w B base vo vl st) {g : Nat} (hg : g < base) (j : Nat) (x : Value) : WkB (w.setCell ⟨g, j, none⟩ x) B base vo vl st :=
  ⟨h.blk.other (by have := h.le; simp only; omega) _, ownsRow_setCell_below h.op hg _, ownsRow_setCell_below h.la hg _, h.le, h.full, h.most⟩
theorem chk_zero_step {l : List It} {k : Nat} {x : It} {st : Stk × Bool} (hx : l[k]? = some x) (h : chkR itC It.op (l.drop k) k st = 0) : (wnext st x.op k).1.2 = 0 ∧ chkR itC It.op (l.drop (k + 1)) (k + 1) (wnext st x.op k).2 = 0 := by
  by_cases h0 : itC x = 0
  · by_cases h1 : (wnext st x.op k).1.2 = 0
    · rw [chk_step hx h0 h1] at h
      exact ⟨h1, h⟩
    · rw [chk_wrong hx h0 h1] at h; exact absurd h h1
  · rw [chk_bad hx h0] at h; exact absurd h h0
theorem set_bound {xs : List Int} {n : Int} (h : ∀ x ∈ xs, x < n) (i : Nat) {a : Int} (ha : a < n) : ∀ x ∈ xs.set i a, x < n := by
  intro x hx
  rcases List.mem_or_eq_of_mem_set hx with hx | rfl
  · exact h x hx
  · exact ha
set_option maxRecDepth 100000 in
set_option maxHeartbeats 4000000 in
theorem nmatch_any (w : World) (v : Value) (l : List It) (hok : ∀ x ∈ l, ItOk x) (h : BodS w v l) :
    Calls Try.prog 61 #[v] w fun e w' => ∃ va vb, e = .returned (.tuple #[va, vb, .int .i64 (ncM l)]) ∧ Ints w' .i64 va (if ncM l = 0 then (mkM l).1 else []) ∧ Ints w' .i64 vb (if ncM l = 0 then (mkM l).2 else []) ∧ Below w.heap.size w w' := by
  have HC := hid (ncheck_any w v l hok h)
  have H := hid h
  obtain ⟨css, _, ⟨ao, cap, rfl, _⟩, _⟩ := h
  have hbig : ncM l = 0 → l.length ≤ 200 ∧ chkR itC It.op l 0 ([(-1, 2)], false) = 0 := by
    intro h
    unfold ncM at h
    split at h
    · omega
    · exact ⟨by omega, h⟩
  generalize ncM l = E at *
  by_cases hE : E = 0
  · obtain ⟨h200, hchk⟩ := hbig hE
    subst hE
    simp only [if_pos]
    clear hbig
    have HMK := hid (run_mk l.length h200)
    have hmk := HMK.out
    have HOK := hid hok
    have HCHK := hid (show chkR itC It.op (l.drop 0) 0 ([(-1, 2)], false) = 0 from hchk)
    have HFIN := hid (show matR It.op (l.drop 0) 0 ([(-1, 2)], false) (List.replicate l.length 0, List.replicate l.length 0) = mkM l from rfl)
    have HL0 := hid (show 0 < l.length from by cases l with | nil => simp [chkR] at hchk | cons _ _ => simp)
    generalize mkM l = fin at *
    clear hok hchk
    go_enter Try.func61, Try.ntmps61
    go_wp2_with fail
    refine HC.out.mono ?_
    rintro r w1 ⟨rfl, g1⟩
    have B1 := hid g1
    clear g1
    go_wp2_with fail
    go_region_law (fail)
    · have B2 := hid (show Below w.heap.size w (((w1.alloc (.cells (madeCells #[Value.int .i64 0] l.length) 3)).alloc (.cells (madeCells #[Value.int .i64 0] l.length) 3)).drew) from ((B1.out.alloc B1.out.size (.cells (madeCells #[Value.int .i64 0] l.length) 3)).alloc (Nat.le_trans B1.out.size (by simp)) (.cells (madeCells #[Value.int .i64 0] l.length) 3)).trans (drew_bel' (n := 1) (Below.refl _ _)))
      have P2 := hid ((made_ints w1 l.length w.heap.size 3 (by omega) B1.out.size).below (Below.alloc (Below.refl _ _) (Nat.le_refl _) (.cells (madeCells #[Value.int .i64 0] l.length) 3)))
      have Q2 := hid (made_ints (w1.alloc (.cells (madeCells #[Value.int .i64 0] l.length) 3)) l.length w.heap.size 3 (by omega) (Nat.le_trans B1.out.size (by simp)))
      rw [show (w1.alloc (.cells (madeCells #[Value.int .i64 0] l.length) 3)).heap.size = w1.heap.size + 1 by simp] at Q2
      have Z2 := hid (show (((w1.alloc (.cells (madeCells #[Value.int .i64 0] l.length) 3)).alloc (.cells (madeCells #[Value.int .i64 0] l.length) 3)).drew).heap.size = w1.heap.size + 1 + 1 by simp)
      generalize hE : w1.heap.size = E at *
      generalize hS : E + 1 = S at *
      have OEE := P2
      have OSS := Q2
      have P3 := hid (show OwnI (((w1.alloc (.cells (madeCells #[Value.int .i64 0] l.length) 3)).alloc (.cells (madeCells #[Value.int .i64 0] l.length) 3)).drew) w.heap.size .i64 3 (.slice (some ⟨E, 0, none⟩) l.length l.length) (List.replicate l.length 0) from OEE.out)
      have Q3 := hid (show OwnI (((w1.alloc (.cells (madeCells #[Value.int .i64 0] l.length) 3)).alloc (.cells (madeCells #[Value.int .i64 0] l.length) 3)).drew) w.heap.size .i64 3 (.slice (some ⟨S, 0, none⟩) l.length l.length) (List.replicate l.length 0) from OSS.out)
      generalize (((w1.alloc (.cells (madeCells #[Value.int .i64 0] l.length) 3)).alloc (.cells (madeCells #[Value.int .i64 0] l.length) 3)).drew) = w2 at *
      clear P2 Q2 OEE OSS
      have BG := hid (begin_any w2)
      go_wp2_with fail
      refine BG.out.mono ?_
      rintro r w3 ⟨vo, vl, B, rfl, g1, g2⟩
      have K3 := hid g1
      have B3 := hid (B2.out.trans (g2.mono B2.out.size))
      have P4 := hid (OwnI.below P3.out g2)
      have Q4 := hid (OwnI.below Q3.out g2)
      have HES := hid (show E < w2.heap.size ∧ S < w2.heap.size ∧ E ≠ S by rw [Z2.out]; omega)
      clear g1 g2 P3 Q3
      go_wp2_with fail
      go_loopw [26] (fun i wr => ∃ (k : Nat) (T : Stk) (ov : Bool) (vo vl : Value) (En El : List Int), k ≤ l.length ∧ i = .int .i64 k ∧ Hid (WkB wr B w2.heap.size vo vl (T, ov)) ∧ Hid (Below w.heap.size w wr) ∧ Hid (OwnI wr w.heap.size .i64 3 (.slice (some ⟨E, 0, none⟩) l.length l.length) En) ∧ Hid (OwnI wr w.heap.size .i64 3 (.slice (some ⟨S, 0, none⟩) l.length l.length) El) ∧ Hid (En.length = l.length ∧ El.length = l.length) ∧ Hid (∀ x ∈ El, x < (l.length : Int)) ∧ Hid (InvT k T) ∧ Hid (chkR itC It.op (l.drop k) k (T, ov) = 0) ∧ Hid (matR It.op (l.drop k) k (T, ov) (En, El) = fin)) (fun i _ => l.length - (RowKit.intOf i).toNat)
      case atStart => exact ⟨0, _, _, vo, vl, _, _, Nat.zero_le _, rfl, K3, B3, P4, Q4, hid ⟨by simp, by simp⟩, hid (fun x hx => by have := List.eq_of_mem_replicate hx; have := HL0.out; omega), hid (fun x hx => by simp at hx; subst hx; exact .inl ⟨rfl, rfl⟩), HCHK, HFIN⟩
      case round =>
        obtain ⟨k, T, ov, vo, vl, En, El, hk, rfl, WK, BL, PE, PS, LL, HV, IT, HCK, HF⟩ := hrel
        by_cases hlt : k < l.length
        · have hlt2 : (k : Int) < (l.length : Int) := by omega
          obtain ⟨b, off, cap', u, hv, _, _, c0, c1, c2, c3, hto⟩ := (H.out.below BL.out).open k hlt
          simp only [Value.slice.injEq] at hv
          obtain ⟨rfl, -, rfl⟩ := hv
          have hx : l[k]? = some l[k] := List.getElem?_eq_getElem hlt
          have hxok := HOK.out l[k] (List.getElem_mem hlt)
          have HX := hid hx
          clear hx
          generalize l[k] = x at *
          obtain ⟨op, A, C, xs⟩ := x
          simp only at c0 c1 c2 c3 hto
          obtain ⟨hop, hA⟩ := hxok
          simp only at hop hA
          obtain ⟨au, cu, rfl, -⟩ := id hto
          clear hto
          have W2 := hid (WK.out.below (Below.alloc (Below.refl _ _) (Nat.le_refl _) (.cells #[.int .u8 op, .int .i64 A, .int .i64 C, .slice au xs.length cu] 90)))
          have BL2 := hid (BL.out.alloc BL.out.size (.cells #[.int .u8 op, .int .i64 A, .int .i64 C, .slice au xs.length cu] 90))
          have PE2 := hid (OwnI.below PE.out (Below.alloc (Below.refl _ _) (Nat.le_refl _) (.cells #[.int .u8 op, .int .i64 A, .int .i64 C, .slice au xs.length cu] 90)))
          have PS2 := hid (OwnI.below PS.out (Below.alloc (Below.refl _ _) (Nat.le_refl _) (.cells #[.int .u8 op, .int .i64 A, .int .i64 C, .slice au xs.length cu] 90)))
          have hN : k < En.length ∧ k < El.length := by have := LL.out; omega
          have e0 := PE2.out.at1 LL.out.1 k hN.1
          have s0 := PS2.out.at1 LL.out.2 k hN.2
          have hneS : ¬ (E = S) := HES.out.2.2
          have hneS' : ¬ (S = E) := fun e => HES.out.2.2 e.symm
          obtain ⟨ev, e0, ef⟩ := e0
          obtain ⟨sv, s0, sf⟩ := s0
          have PE3 := hid ((own_setCell2 (PE2.out.put LL.out.1.symm k (-1) hN.1) (HES.out.2.2) (k, Value.int .i64 (-1))))
          have PS3 := hid ((own_setCell2 PS2.out (fun e => HES.out.2.2 e.symm) (k, Value.int .i64 (-1))).put LL.out.2.symm k (-1) hN.2)
          have HXN : Hid (wr.heap.size ≠ E ∧ wr.heap.size ≠ S) := hid (by have := HES.out; have := (WK.out.feet B (.inl rfl)); have := WK.out.le; omega)
          have X3 := hid (((Blk.new wr #[.int .u8 op, .int .i64 A, .int .i64 C, .slice au xs.length cu] 90 _ rfl).other (a := ⟨E, k, none⟩) (fun e => HXN.out.1 e.symm) (.int .i64 (-1))).other (a := ⟨S, k, none⟩) (fun e => HXN.out.2 e.symm) (.int .i64 (-1)))
          have hx1 : ¬ (wr.heap.size = E) := HXN.out.1
          have hx2 : ¬ (wr.heap.size = S) := HXN.out.2
          have hx1' : ¬ (E = wr.heap.size) := fun e => HXN.out.1 e.symm
          have hx2' : ¬ (S = wr.heap.size) := fun e => HXN.out.2 e.symm
          have W3 := hid ((W2.out.put HES.out.1 k (.int .i64 (-1))).put HES.out.2.1 k (.int .i64 (-1)))
          have BL3 := hid ((BL2.out.trans ((Touch.setCell (F := fun j => j = E) (a := ⟨E, k, none⟩) rfl (.int .i64 (-1))).below BL2.out.size (fun j hj => by have := (World.ownsRow.lt PE.out E rfl).1; clear hneS hneS' hx1 hx2 hx1' hx2'; omega))).trans ((Touch.setCell (F := fun j => j = S) (a := ⟨S, k, none⟩) rfl (.int .i64 (-1))).below (by have := BL2.out.size; simpa using this) (fun j hj => by have := (World.ownsRow.lt PS.out S rfl).1; clear hneS hneS' hx1 hx2 hx1' hx2'; omega)))
          have HZS := chk_zero_step HX.out HCK.out
          have HMS := mat_step (o := It.op) (st := (T, ov)) HX.out (En, El)
          have HNI := next_inv (op := op) IT.out WK.out.full HZS.1
          rw [HF.out] at HMS
          simp only at HZS HMS
          have HN1 := hid (next_any _ B w2.heap.size vo vl T ov op hop A C (.slice au xs.length cu) k W3.out)
          generalize wnext (T, ov) op k = nx at *
          obtain ⟨⟨is, er⟩, T2, ov2⟩ := nx
          simp only at HN1 HZS HMS HNI
          obtain ⟨hz1, hz2⟩ := HZS
          subst hz1
          have HI2 := hid HNI
          have HMS2 := hid HMS
          have HCK2 := hid hz2
          clear HNI HMS hz2
          go_wp2_with fail
          refine HN1.out.mono ?_
          rintro r w5 ⟨rfl, ⟨vo', vl', g1⟩, g2⟩
          have K5 := hid g1
          have BL5 := hid (BL3.out.trans (g2.below BL3.out.size (fun j hj => by have := (WK.out.feet j hj).1; have := B2.out.size; clear hneS hneS' hx1 hx2 hx1' hx2'; omega)))
          have PE5 := hid (show OwnI w5 w.heap.size .i64 3 (.slice (some ⟨E, 0, none⟩) l.length l.length) (En.set k (-1)) from own_touch PE3.out g2 (fun j hj hf => by have := (WK.out.feet j hf).1; have := HES.out.1; have hj2 : E = j := (by simpa [Value.ownBlock] using hj); clear hneS hneS' hx1 hx2 hx1' hx2'; omega))
          have PS5 := hid (show OwnI w5 w.heap.size .i64 3 (.slice (some ⟨S, 0, none⟩) l.length l.length) (El.set k (-1)) from own_touch PS3.out g2 (fun j hj hf => by have := (WK.out.feet j hf).1; have := HES.out.2.1; have hj2 : S = j := (by simpa [Value.ownBlock] using hj); clear hneS hneS' hx1 hx2 hx1' hx2'; omega))
          have X5 := hid (X3.out.touch g2 (fun hf => by have := (WK.out.feet _ hf).2; clear hneS hneS' hx1 hx2 hx1' hx2'; omega))
          clear g1 g2 e0 ef s0 sf
          have x0 := X5.out.cell (i := 0) rfl
          have LL3 := hid (show (En.set k (-1)).length = l.length ∧ (El.set k (-1)).length = l.length by simpa using LL.out)
          have HV3 := hid (set_bound (n := (l.length : Int)) HV.out k (a := -1) (by clear hneS hneS' hx1 hx2 hx1' hx2'; omega))
          have HWK := hid (show wrap64 ((k : Int) + 1) = ((k + 1 : Nat) : Int) by unfold wrap64; clear hneS hneS' hx1 hx2 hx1' hx2'; omega)
          by_cases h5 : op = 5
          · have e5 : ((op : Int) == 5) = true := by clear hneS hneS' hx1 hx2 hx1' hx2'; simp; omega
            obtain ⟨q, rfl, hq⟩ := HI2.out.2.1 h5
            rw [show matS op (q : Int) k (En, El) = matS 5 (q : Int) k (En, El) by rw [h5], mat_else] at HMS2
            simp only at HMS2
            have HQQ := hid hq
            have hqn : (q : Int) < (l.length : Int) := by clear hneS hneS' hx1 hx2 hx1' hx2'; omega
            obtain ⟨sv, s0, sf⟩ := PS5.out.at1 LL3.out.2 k (by rw [LL3.out.2]; exact hlt)
            have PS6 := hid (PS5.out.put LL3.out.2.symm k (q : Int) (by rw [LL3.out.2]; exact hlt))
            have LL6 := hid (show ((El.set k (-1)).set k (q : Int)).length = l.length by simpa using LL.out.2)
            obtain ⟨sv2, t0, tf⟩ := PS6.out.at1 LL6.out q (by rw [LL6.out]; exact Nat.lt_trans HQQ.out hlt)
            have PS7 := hid (PS6.out.put LL6.out.symm q (k : Int) (by rw [LL6.out]; exact Nat.lt_trans HQQ.out hlt))
            have PE7 := hid (own_setCell2 (own_setCell2 PE5.out (HES.out.2.2) (k, Value.int .i64 (q : Int))) (HES.out.2.2) (q, Value.int .i64 (k : Int)))
            have K7 := hid ((K5.out.put HES.out.2.1 k (.int .i64 (q : Int))).put HES.out.2.1 q (.int .i64 (k : Int)))
            have BL7 := hid ((BL5.out.trans ((Touch.setCell (F := fun j => j = S) (a := ⟨S, k, none⟩) rfl (.int .i64 (q : Int))).below BL5.out.size (fun j hj => by have := (World.ownsRow.lt PS.out S rfl).1; clear hneS hneS' hx1 hx2 hx1' hx2'; omega))).trans ((Touch.setCell (F := fun j => j = S) (a := ⟨S, q, none⟩) rfl (.int .i64 (k : Int))).below (by have := BL5.out.size; simpa using this) (fun j hj => by have := (World.ownsRow.lt PS.out S rfl).1; clear hneS hneS' hx1 hx2 hx1' hx2'; omega)))
            have HV7 := hid (set_bound (set_bound HV3.out k (a := (q : Int)) (by clear hneS hneS' hx1 hx2 hx1' hx2'; omega)) q (a := (k : Int)) (by clear hneS hneS' hx1 hx2 hx1' hx2'; omega))
            have HQ := hid hq
            clear h5 hq
            go_wp2_with fail
            go_roundw
            case rel => exact ⟨k + 1, T2, ov2, vo', vl', _, _, by clear hneS hneS' hx1 hx2 hx1' hx2'; omega, by go_num, K7, BL7, PE7, PS7, hid ⟨LL3.out.1, by simpa using LL.out.2⟩, HV7, hid HI2.out.1, HCK2, hid HMS2.out.symm⟩
            case measure => clear hneS hneS' hx1 hx2 hx1' hx2'; simp [RowKit.intOf]; omega
          · by_cases h11 : op = 11
            · have e5 : ((op : Int) == 5) = false := by clear hneS hneS' hx1 hx2 hx1' hx2'; simp; omega
              have e11 : ((op : Int) == 11) = true := by clear hneS hneS' hx1 hx2 hx1' hx2'; simp; omega
              obtain ⟨ev, e0, ef⟩ := PE5.out.at1 LL3.out.1 k (by rw [LL3.out.1]; exact hlt)
              have HBE := hid (show ∀ wx : World, Below w.heap.size w wx → ∀ (j : Nat) (x : Value), Below w.heap.size w (wx.setCell ⟨E, j, none⟩ x) from fun wx hb j x => hb.trans ((Touch.setCell (F := fun i => i = E) (a := ⟨E, j, none⟩) rfl x).below hb.size (fun i hi => by have := (World.ownsRow.lt PE.out E rfl).1; clear hneS hneS' hx1 hx2 hx1' hx2'; omega)))
              rcases HI2.out.2.2 h11 with rfl | ⟨q, rfl, hq⟩
              · rw [show matS op (-1) k (En, El) = matS 11 (-1) k (En, El) by rw [h11], mat_end0] at HMS2
                simp only at HMS2
                have PE6 := hid (PE5.out.put LL3.out.1.symm k (-1) (by rw [LL3.out.1]; exact hlt))
                have PS6 := hid (own_setCell2 PS5.out (fun e => HES.out.2.2 e.symm) (k, Value.int .i64 (-1)))
                have K6 := hid (K5.out.put HES.out.1 k (.int .i64 (-1)))
                have BL6 := hid (HBE.out _ BL5.out k (.int .i64 (-1)))
                clear h5 h11
                go_wp2_with fail
                go_roundw
                case rel => exact ⟨k + 1, T2, ov2, vo', vl', _, _, by clear hneS hneS' hx1 hx2 hx1' hx2'; omega, by go_num, K6, BL6, PE6, PS6, hid ⟨by simpa using LL.out.1, LL3.out.2⟩, HV3, hid HI2.out.1, HCK2, hid HMS2.out.symm⟩
                case measure => clear hneS hneS' hx1 hx2 hx1' hx2'; simp [RowKit.intOf]; omega
              · have hql : q < l.length := Nat.lt_trans hq hlt
                have hqn : (q : Int) < (l.length : Int) := Int.ofNat_lt.2 hql
                obtain ⟨z, hz⟩ : ∃ z, (El.set k (-1))[q]? = some z := ⟨_, List.getElem?_eq_getElem (by rw [LL3.out.2]; exact hql)⟩
                have hzb := HV3.out z (List.mem_of_getElem? hz)
                have PE6 := hid (PE5.out.put LL3.out.1.symm k (q : Int) (by rw [LL3.out.1]; exact hlt))
                have LL6 := hid (show ((En.set k (-1)).set k (q : Int)).length = l.length by simpa using LL.out.1)
                obtain ⟨ev2, t0, tf⟩ := PE6.out.at1 LL6.out q (by rw [LL6.out]; exact hql)
                have PE7 := hid (PE6.out.put LL6.out.symm q (k : Int) (by rw [LL6.out]; exact hql))
                have LL7 := hid (show (((En.set k (-1)).set k (q : Int)).set q (k : Int)).length = l.length by simpa using LL.out.1)
                have PS7 := hid (own_setCell2 (own_setCell2 PS5.out (fun e => HES.out.2.2 e.symm) (k, Value.int .i64 (q : Int))) (fun e => HES.out.2.2 e.symm) (q, Value.int .i64 (k : Int)))
                have u0 := PS7.out.val1 LL3.out.2 hz
                have K7 := hid ((K5.out.put HES.out.1 k (.int .i64 (q : Int))).put HES.out.1 q (.int .i64 (k : Int)))
                have BL7 := hid (HBE.out _ (HBE.out _ BL5.out k (.int .i64 (q : Int))) q (.int .i64 (k : Int)))
                by_cases h0 : 0 ≤ z
                · obtain ⟨zn, rfl⟩ := Int.eq_ofNat_of_zero_le h0
                  have hzl : zn < l.length := Int.ofNat_lt.1 hzb
                  rw [show matS op (q : Int) k (En, El) = matS 11 (q : Int) k (En, El) by rw [h11], mat_end2 (m := (En, El)) hz] at HMS2
                  simp only at HMS2
                  obtain ⟨ev3, v0, vf⟩ := PE7.out.at1 LL7.out zn (by rw [LL7.out]; exact hzl)
                  have PE8 := hid (PE7.out.put LL7.out.symm zn (k : Int) (by rw [LL7.out]; exact hzl))
                  have PS8 := hid (own_setCell2 PS7.out (fun e => HES.out.2.2 e.symm) (zn, Value.int .i64 (k : Int)))
                  have K8 := hid (K7.out.put HES.out.1 zn (.int .i64 (k : Int)))
                  have BL8 := hid (HBE.out _ BL7.out zn (.int .i64 (k : Int)))
                  clear h5 h11 hq hz
                  go_wp2_with fail
                  go_roundw
                  case rel => exact ⟨k + 1, T2, ov2, vo', vl', _, _, by clear hneS hneS' hx1 hx2 hx1' hx2'; omega, by go_num, K8, BL8, PE8, PS8, hid ⟨by simpa using LL.out.1, LL3.out.2⟩, HV3, hid HI2.out.1, HCK2, hid HMS2.out.symm⟩
                  case measure => clear hneS hneS' hx1 hx2 hx1' hx2'; simp [RowKit.intOf]; omega
                · rw [show matS op (q : Int) k (En, El) = matS 11 (q : Int) k (En, El) by rw [h11], mat_end1 (m := (En, El)) hz h0] at HMS2
                  simp only at HMS2
                  clear h5 h11 hq hz
                  go_wp2_with fail
                  go_roundw
                  case rel => exact ⟨k + 1, T2, ov2, vo', vl', _, _, by clear hneS hneS' hx1 hx2 hx1' hx2'; omega, by go_num, K7, BL7, PE7, PS7, hid ⟨by simpa using LL.out.1, LL3.out.2⟩, HV3, hid HI2.out.1, HCK2, hid HMS2.out.symm⟩
                  case measure => clear hneS hneS' hx1 hx2 hx1' hx2'; simp [RowKit.intOf]; omega
            · have e5 : ((op : Int) == 5) = false := by clear hneS hneS' hx1 hx2 hx1' hx2'; simp; omega
              have e11 : ((op : Int) == 11) = false := by clear hneS hneS' hx1 hx2 hx1' hx2'; simp; omega
              rw [mat_plain h5 h11] at HMS2
              clear h5 h11
              go_wp2_with fail
              go_roundw
              case rel => exact ⟨k + 1, T2, ov2, vo', vl', En.set k (-1), El.set k (-1), by clear hneS hneS' hx1 hx2 hx1' hx2'; omega, by go_num, K5, BL5, PE5, PS5, LL3, HV3, hid HI2.out.1, HCK2, hid HMS2.out.symm⟩
              case measure => clear hneS hneS' hx1 hx2 hx1' hx2'; simp [RowKit.intOf]; omega
        · have hlt2 : ¬ (k : Int) < (l.length : Int) := by omega
          have HR := hid (show (En, El) = fin by rw [← HF.out, List.drop_eq_nil_of_le (by omega)]; rfl)
          go_wp2_with fail
          go_ret3
          rw [← HR.out]
          exact ⟨_, _, rfl, PE.out.ints, PS.out.ints, BL.out⟩
    · have B2 := hid (show Below w.heap.size w (((w1.alloc (.cells (madeCells #[Value.int .i64 0] l.length) 3)).alloc (.cells (madeCells #[Value.int .i64 0] l.length) 3)).drew) from ((B1.out.alloc B1.out.size (.cells (madeCells #[Value.int .i64 0] l.length) 3)).alloc (Nat.le_trans B1.out.size (by simp)) (.cells (madeCells #[Value.int .i64 0] l.length) 3)).trans (drew_bel' (n := 1) (Below.refl _ _)))
      have P2 := hid ((made_ints w1 l.length w.heap.size 3 (by omega) B1.out.size).below (Below.alloc (Below.refl _ _) (Nat.le_refl _) (.cells (madeCells #[Value.int .i64 0] l.length) 3)))
      have Q2 := hid (made_ints (w1.alloc (.cells (madeCells #[Value.int .i64 0] l.length) 3)) l.length w.heap.size 3 (by omega) (Nat.le_trans B1.out.size (by simp)))
      rw [show (w1.alloc (.cells (madeCells #[Value.int .i64 0] l.length) 3)).heap.size = w1.heap.size + 1 by simp] at Q2
      have Z2 := hid (show (((w1.alloc (.cells (madeCells #[Value.int .i64 0] l.length) 3)).alloc (.cells (madeCells #[Value.int .i64 0] l.length) 3)).drew).heap.size = w1.heap.size + 1 + 1 by simp)
      generalize hS : w1.heap.size = S at *
      generalize hE : S + 1 = E at *
      have OEE := Q2
      have OSS := P2
      have P3 := hid (show OwnI (((w1.alloc (.cells (madeCells #[Value.int .i64 0] l.length) 3)).alloc (.cells (madeCells #[Value.int .i64 0] l.length) 3)).drew) w.heap.size .i64 3 (.slice (some ⟨E, 0, none⟩) l.length l.length) (List.replicate l.length 0) from OEE.out)
      have Q3 := hid (show OwnI (((w1.alloc (.cells (madeCells #[Value.int .i64 0] l.length) 3)).alloc (.cells (madeCells #[Value.int .i64 0] l.length) 3)).drew) w.heap.size .i64 3 (.slice (some ⟨S, 0, none⟩) l.length l.length) (List.replicate l.length 0) from OSS.out)
      generalize (((w1.alloc (.cells (madeCells #[Value.int .i64 0] l.length) 3)).alloc (.cells (madeCells #[Value.int .i64 0] l.length) 3)).drew) = w2 at *
      clear P2 Q2 OEE OSS
      have BG := hid (begin_any w2)
      go_wp2_with fail
      refine BG.out.mono ?_
      rintro r w3 ⟨vo, vl, B, rfl, g1, g2⟩
      have K3 := hid g1
      have B3 := hid (B2.out.trans (g2.mono B2.out.size))
      have P4 := hid (OwnI.below P3.out g2)
      have Q4 := hid (OwnI.below Q3.out g2)
      have HES := hid (show E < w2.heap.size ∧ S < w2.heap.size ∧ E ≠ S by rw [Z2.out]; omega)
      clear g1 g2 P3 Q3
      go_wp2_with fail
      go_loopw [26] (fun i wr => ∃ (k : Nat) (T : Stk) (ov : Bool) (vo vl : Value) (En El : List Int), k ≤ l.length ∧ i = .int .i64 k ∧ Hid (WkB wr B w2.heap.size vo vl (T, ov)) ∧ Hid (Below w.heap.size w wr) ∧ Hid (OwnI wr w.heap.size .i64 3 (.slice (some ⟨E, 0, none⟩) l.length l.length) En) ∧ Hid (OwnI wr w.heap.size .i64 3 (.slice (some ⟨S, 0, none⟩) l.length l.length) El) ∧ Hid (En.length = l.length ∧ El.length = l.length) ∧ Hid (∀ x ∈ El, x < (l.length : Int)) ∧ Hid (InvT k T) ∧ Hid (chkR itC It.op (l.drop k) k (T, ov) = 0) ∧ Hid (matR It.op (l.drop k) k (T, ov) (En, El) = fin)) (fun i _ => l.length - (RowKit.intOf i).toNat)
      case atStart => exact ⟨0, _, _, vo, vl, _, _, Nat.zero_le _, rfl, K3, B3, P4, Q4, hid ⟨by simp, by simp⟩, hid (fun x hx => by have := List.eq_of_mem_replicate hx; have := HL0.out; omega), hid (fun x hx => by simp at hx; subst hx; exact .inl ⟨rfl, rfl⟩), HCHK, HFIN⟩
      case round =>
        obtain ⟨k, T, ov, vo, vl, En, El, hk, rfl, WK, BL, PE, PS, LL, HV, IT, HCK, HF⟩ := hrel
        by_cases hlt : k < l.length
        · have hlt2 : (k : Int) < (l.length : Int) := by omega
          obtain ⟨b, off, cap', u, hv, _, _, c0, c1, c2, c3, hto⟩ := (H.out.below BL.out).open k hlt
          simp only [Value.slice.injEq] at hv
          obtain ⟨rfl, -, rfl⟩ := hv
          have hx : l[k]? = some l[k] := List.getElem?_eq_getElem hlt
          have hxok := HOK.out l[k] (List.getElem_mem hlt)
          have HX := hid hx
          clear hx
          generalize l[k] = x at *
          obtain ⟨op, A, C, xs⟩ := x
          simp only at c0 c1 c2 c3 hto
          obtain ⟨hop, hA⟩ := hxok
          simp only at hop hA
          obtain ⟨au, cu, rfl, -⟩ := id hto
          clear hto
          have W2 := hid (WK.out.below (Below.alloc (Below.refl _ _) (Nat.le_refl _) (.cells #[.int .u8 op, .int .i64 A, .int .i64 C, .slice au xs.length cu] 90)))
          have BL2 := hid (BL.out.alloc BL.out.size (.cells #[.int .u8 op, .int .i64 A, .int .i64 C, .slice au xs.length cu] 90))
          have PE2 := hid (OwnI.below PE.out (Below.alloc (Below.refl _ _) (Nat.le_refl _) (.cells #[.int .u8 op, .int .i64 A, .int .i64 C, .slice au xs.length cu] 90)))
          have PS2 := hid (OwnI.below PS.out (Below.alloc (Below.refl _ _) (Nat.le_refl _) (.cells #[.int .u8 op, .int .i64 A, .int .i64 C, .slice au xs.length cu] 90)))
          have hN : k < En.length ∧ k < El.length := by have := LL.out; omega
          have e0 := PE2.out.at1 LL.out.1 k hN.1
          have s0 := PS2.out.at1 LL.out.2 k hN.2
          have hneS : ¬ (E = S) := HES.out.2.2
          have hneS' : ¬ (S = E) := fun e => HES.out.2.2 e.symm
          obtain ⟨ev, e0, ef⟩ := e0
          obtain ⟨sv, s0, sf⟩ := s0
          have PE3 := hid ((own_setCell2 (PE2.out.put LL.out.1.symm k (-1) hN.1) (HES.out.2.2) (k, Value.int .i64 (-1))))
          have PS3 := hid ((own_setCell2 PS2.out (fun e => HES.out.2.2 e.symm) (k, Value.int .i64 (-1))).put LL.out.2.symm k (-1) hN.2)
          have HXN : Hid (wr.heap.size ≠ E ∧ wr.heap.size ≠ S) := hid (by have := HES.out; have := (WK.out.feet B (.inl rfl)); have := WK.out.le; omega)
          have X3 := hid (((Blk.new wr #[.int .u8 op, .int .i64 A, .int .i64 C, .slice au xs.length cu] 90 _ rfl).other (a := ⟨E, k, none⟩) (fun e => HXN.out.1 e.symm) (.int .i64 (-1))).other (a := ⟨S, k, none⟩) (fun e => HXN.out.2 e.symm) (.int .i64 (-1)))
          have hx1 : ¬ (wr.heap.size = E) := HXN.out.1
          have hx2 : ¬ (wr.heap.size = S) := HXN.out.2
          have hx1' : ¬ (E = wr.heap.size) := fun e => HXN.out.1 e.symm
          have hx2' : ¬ (S = wr.heap.size) := fun e => HXN.out.2 e.symm
          have W3 := hid ((W2.out.put HES.out.1 k (.int .i64 (-1))).put HES.out.2.1 k (.int .i64 (-1)))
          have BL3 := hid ((BL2.out.trans ((Touch.setCell (F := fun j => j = E) (a := ⟨E, k, none⟩) rfl (.int .i64 (-1))).below BL2.out.size (fun j hj => by have := (World.ownsRow.lt PE.out E rfl).1; clear hneS hneS' hx1 hx2 hx1' hx2'; omega))).trans ((Touch.setCell (F := fun j => j = S) (a := ⟨S, k, none⟩) rfl (.int .i64 (-1))).below (by have := BL2.out.size; simpa using this) (fun j hj => by have := (World.ownsRow.lt PS.out S rfl).1; clear hneS hneS' hx1 hx2 hx1' hx2'; omega)))
          have HZS := chk_zero_step HX.out HCK.out
          have HMS := mat_step (o := It.op) (st := (T, ov)) HX.out (En, El)
          have HNI := next_inv (op := op) IT.out WK.out.full HZS.1
          rw [HF.out] at HMS
          simp only at HZS HMS
          have HN1 := hid (next_any _ B w2.heap.size vo vl T ov op hop A C (.slice au xs.length cu) k W3.out)
          generalize wnext (T, ov) op k = nx at *
          obtain ⟨⟨is, er⟩, T2, ov2⟩ := nx
          simp only at HN1 HZS HMS HNI
          obtain ⟨hz1, hz2⟩ := HZS
          subst hz1
          have HI2 := hid HNI
          have HMS2 := hid HMS
          have HCK2 := hid hz2
          clear HNI HMS hz2
          go_wp2_with fail
          refine HN1.out.mono ?_
          rintro r w5 ⟨rfl, ⟨vo', vl', g1⟩, g2⟩
          have K5 := hid g1
          have BL5 := hid (BL3.out.trans (g2.below BL3.out.size (fun j hj => by have := (WK.out.feet j hj).1; have := B2.out.size; clear hneS hneS' hx1 hx2 hx1' hx2'; omega)))
          have PE5 := hid (show OwnI w5 w.heap.size .i64 3 (.slice (some ⟨E, 0, none⟩) l.length l.length) (En.set k (-1)) from own_touch PE3.out g2 (fun j hj hf => by have := (WK.out.feet j hf).1; have := HES.out.1; have hj2 : E = j := (by simpa [Value.ownBlock] using hj); clear hneS hneS' hx1 hx2 hx1' hx2'; omega))
          have PS5 := hid (show OwnI w5 w.heap.size .i64 3 (.slice (some ⟨S, 0, none⟩) l.length l.length) (El.set k (-1)) from own_touch PS3.out g2 (fun j hj hf => by have := (WK.out.feet j hf).1; have := HES.out.2.1; have hj2 : S = j := (by simpa [Value.ownBlock] using hj); clear hneS hneS' hx1 hx2 hx1' hx2'; omega))
          have X5 := hid (X3.out.touch g2 (fun hf => by have := (WK.out.feet _ hf).2; clear hneS hneS' hx1 hx2 hx1' hx2'; omega))
          clear g1 g2 e0 ef s0 sf
          have x0 := X5.out.cell (i := 0) rfl
          have LL3 := hid (show (En.set k (-1)).length = l.length ∧ (El.set k (-1)).length = l.length by simpa using LL.out)
          have HV3 := hid (set_bound (n := (l.length : Int)) HV.out k (a := -1) (by clear hneS hneS' hx1 hx2 hx1' hx2'; omega))
          have HWK := hid (show wrap64 ((k : Int) + 1) = ((k + 1 : Nat) : Int) by unfold wrap64; clear hneS hneS' hx1 hx2 hx1' hx2'; omega)
          by_cases h5 : op = 5
          · have e5 : ((op : Int) == 5) = true := by clear hneS hneS' hx1 hx2 hx1' hx2'; simp; omega
            obtain ⟨q, rfl, hq⟩ := HI2.out.2.1 h5
            rw [show matS op (q : Int) k (En, El) = matS 5 (q : Int) k (En, El) by rw [h5], mat_else] at HMS2
            simp only at HMS2
            have HQQ := hid hq
            have hqn : (q : Int) < (l.length : Int) := by clear hneS hneS' hx1 hx2 hx1' hx2'; omega
            obtain ⟨sv, s0, sf⟩ := PS5.out.at1 LL3.out.2 k (by rw [LL3.out.2]; exact hlt)
            have PS6 := hid (PS5.out.put LL3.out.2.symm k (q : Int) (by rw [LL3.out.2]; exact hlt))
            have LL6 := hid (show ((El.set k (-1)).set k (q : Int)).length = l.length by simpa using LL.out.2)
            obtain ⟨sv2, t0, tf⟩ := PS6.out.at1 LL6.out q (by rw [LL6.out]; exact Nat.lt_trans HQQ.out hlt)
            have PS7 := hid (PS6.out.put LL6.out.symm q (k : Int) (by rw [LL6.out]; exact Nat.lt_trans HQQ.out hlt))
            have PE7 := hid (own_setCell2 (own_setCell2 PE5.out (HES.out.2.2) (k, Value.int .i64 (q : Int))) (HES.out.2.2) (q, Value.int .i64 (k : Int)))
            have K7 := hid ((K5.out.put HES.out.2.1 k (.int .i64 (q : Int))).put HES.out.2.1 q (.int .i64 (k : Int)))
            have BL7 := hid ((BL5.out.trans ((Touch.setCell (F := fun j => j = S) (a := ⟨S, k, none⟩) rfl (.int .i64 (q : Int))).below BL5.out.size (fun j hj => by have := (World.ownsRow.lt PS.out S rfl).1; clear hneS hneS' hx1 hx2 hx1' hx2'; omega))).trans ((Touch.setCell (F := fun j => j = S) (a := ⟨S, q, none⟩) rfl (.int .i64 (k : Int))).below (by have := BL5.out.size; simpa using this) (fun j hj => by have := (World.ownsRow.lt PS.out S rfl).1; clear hneS hneS' hx1 hx2 hx1' hx2'; omega)))
            have HV7 := hid (set_bound (set_bound HV3.out k (a := (q : Int)) (by clear hneS hneS' hx1 hx2 hx1' hx2'; omega)) q (a := (k : Int)) (by clear hneS hneS' hx1 hx2 hx1' hx2'; omega))
            have HQ := hid hq
            clear h5 hq
            go_wp2_with fail
            go_roundw
            case rel => exact ⟨k + 1, T2, ov2, vo', vl', _, _, by clear hneS hneS' hx1 hx2 hx1' hx2'; omega, by go_num, K7, BL7, PE7, PS7, hid ⟨LL3.out.1, by simpa using LL.out.2⟩, HV7, hid HI2.out.1, HCK2, hid HMS2.out.symm⟩
            case measure => clear hneS hneS' hx1 hx2 hx1' hx2'; simp [RowKit.intOf]; omega
          · by_cases h11 : op = 11
            · have e5 : ((op : Int) == 5) = false := by clear hneS hneS' hx1 hx2 hx1' hx2'; simp; omega
              have e11 : ((op : Int) == 11) = true := by clear hneS hneS' hx1 hx2 hx1' hx2'; simp; omega
              obtain ⟨ev, e0, ef⟩ := PE5.out.at1 LL3.out.1 k (by rw [LL3.out.1]; exact hlt)
              have HBE := hid (show ∀ wx : World, Below w.heap.size w wx → ∀ (j : Nat) (x : Value), Below w.heap.size w (wx.setCell ⟨E, j, none⟩ x) from fun wx hb j x => hb.trans ((Touch.setCell (F := fun i => i = E) (a := ⟨E, j, none⟩) rfl x).below hb.size (fun i hi => by have := (World.ownsRow.lt PE.out E rfl).1; clear hneS hneS' hx1 hx2 hx1' hx2'; omega)))
              rcases HI2.out.2.2 h11 with rfl | ⟨q, rfl, hq⟩
              · rw [show matS op (-1) k (En, El) = matS 11 (-1) k (En, El) by rw [h11], mat_end0] at HMS2
                simp only at HMS2
                have PE6 := hid (PE5.out.put LL3.out.1.symm k (-1) (by rw [LL3.out.1]; exact hlt))
                have PS6 := hid (own_setCell2 PS5.out (fun e => HES.out.2.2 e.symm) (k, Value.int .i64 (-1)))
                have K6 := hid (K5.out.put HES.out.1 k (.int .i64 (-1)))
                have BL6 := hid (HBE.out _ BL5.out k (.int .i64 (-1)))
                clear h5 h11
                go_wp2_with fail
                go_roundw
                case rel => exact ⟨k + 1, T2, ov2, vo', vl', _, _, by clear hneS hneS' hx1 hx2 hx1' hx2'; omega, by go_num, K6, BL6, PE6, PS6, hid ⟨by simpa using LL.out.1, LL3.out.2⟩, HV3, hid HI2.out.1, HCK2, hid HMS2.out.symm⟩
                case measure => clear hneS hneS' hx1 hx2 hx1' hx2'; simp [RowKit.intOf]; omega
              · have hql : q < l.length := Nat.lt_trans hq hlt
                have hqn : (q : Int) < (l.length : Int) := Int.ofNat_lt.2 hql
                obtain ⟨z, hz⟩ : ∃ z, (El.set k (-1))[q]? = some z := ⟨_, List.getElem?_eq_getElem (by rw [LL3.out.2]; exact hql)⟩
                have hzb := HV3.out z (List.mem_of_getElem? hz)
                have PE6 := hid (PE5.out.put LL3.out.1.symm k (q : Int) (by rw [LL3.out.1]; exact hlt))
                have LL6 := hid (show ((En.set k (-1)).set k (q : Int)).length = l.length by simpa using LL.out.1)
                obtain ⟨ev2, t0, tf⟩ := PE6.out.at1 LL6.out q (by rw [LL6.out]; exact hql)
                have PE7 := hid (PE6.out.put LL6.out.symm q (k : Int) (by rw [LL6.out]; exact hql))
                have LL7 := hid (show (((En.set k (-1)).set k (q : Int)).set q (k : Int)).length = l.length by simpa using LL.out.1)
                have PS7 := hid (own_setCell2 (own_setCell2 PS5.out (fun e => HES.out.2.2 e.symm) (k, Value.int .i64 (q : Int))) (fun e => HES.out.2.2 e.symm) (q, Value.int .i64 (k : Int)))
                have u0 := PS7.out.val1 LL3.out.2 hz
                have K7 := hid ((K5.out.put HES.out.1 k (.int .i64 (q : Int))).put HES.out.1 q (.int .i64 (k : Int)))
                have BL7 := hid (HBE.out _ (HBE.out _ BL5.out k (.int .i64 (q : Int))) q (.int .i64 (k : Int)))
                by_cases h0 : 0 ≤ z
                · obtain ⟨zn, rfl⟩ := Int.eq_ofNat_of_zero_le h0
                  have hzl : zn < l.length := Int.ofNat_lt.1 hzb
                  rw [show matS op (q : Int) k (En, El) = matS 11 (q : Int) k (En, El) by rw [h11], mat_end2 (m := (En, El)) hz] at HMS2
                  simp only at HMS2
                  obtain ⟨ev3, v0, vf⟩ := PE7.out.at1 LL7.out zn (by rw [LL7.out]; exact hzl)
                  have PE8 := hid (PE7.out.put LL7.out.symm zn (k : Int) (by rw [LL7.out]; exact hzl))
                  have PS8 := hid (own_setCell2 PS7.out (fun e => HES.out.2.2 e.symm) (zn, Value.int .i64 (k : Int)))
                  have K8 := hid (K7.out.put HES.out.1 zn (.int .i64 (k : Int)))
                  have BL8 := hid (HBE.out _ BL7.out zn (.int .i64 (k : Int)))
                  clear h5 h11 hq hz
                  go_wp2_with fail
                  go_roundw
                  case rel => exact ⟨k + 1, T2, ov2, vo', vl', _, _, by clear hneS hneS' hx1 hx2 hx1' hx2'; omega, by go_num, K8, BL8, PE8, PS8, hid ⟨by simpa using LL.out.1, LL3.out.2⟩, HV3, hid HI2.out.1, HCK2, hid HMS2.out.symm⟩
                  case measure => clear hneS hneS' hx1 hx2 hx1' hx2'; simp [RowKit.intOf]; omega
                · rw [show matS op (q : Int) k (En, El) = matS 11 (q : Int) k (En, El) by rw [h11], mat_end1 (m := (En, El)) hz h0] at HMS2
                  simp only at HMS2
                  clear h5 h11 hq hz
                  go_wp2_with fail
                  go_roundw
                  case rel => exact ⟨k + 1, T2, ov2, vo', vl', _, _, by clear hneS hneS' hx1 hx2 hx1' hx2'; omega, by go_num, K7, BL7, PE7, PS7, hid ⟨by simpa using LL.out.1, LL3.out.2⟩, HV3, hid HI2.out.1, HCK2, hid HMS2.out.symm⟩
                  case measure => clear hneS hneS' hx1 hx2 hx1' hx2'; simp [RowKit.intOf]; omega
            · have e5 : ((op : Int) == 5) = false := by clear hneS hneS' hx1 hx2 hx1' hx2'; simp; omega
              have e11 : ((op : Int) == 11) = false := by clear hneS hneS' hx1 hx2 hx1' hx2'; simp; omega
              rw [mat_plain h5 h11] at HMS2
              clear h5 h11
              go_wp2_with fail
              go_roundw
              case rel => exact ⟨k + 1, T2, ov2, vo', vl', En.set k (-1), El.set k (-1), by clear hneS hneS' hx1 hx2 hx1' hx2'; omega, by go_num, K5, BL5, PE5, PS5, LL3, HV3, hid HI2.out.1, HCK2, hid HMS2.out.symm⟩
              case measure => clear hneS hneS' hx1 hx2 hx1' hx2'; simp [RowKit.intOf]; omega
        · have hlt2 : ¬ (k : Int) < (l.length : Int) := by omega
          have HR := hid (show (En, El) = fin by rw [← HF.out, List.drop_eq_nil_of_le (by omega)]; rfl)
          go_wp2_with fail
          go_ret3
          rw [← HR.out]
          exact ⟨_, _, rfl, PE.out.ints, PS.out.ints, BL.out⟩
  · have hE2 : (E != 0) = true := by simpa using hE
    have hn0 : ∀ wx, Ints wx .i64 (.slice none 0 0) [] := fun wx => ⟨none, 0, rfl, by simp, by simp, by simp, .inl rfl⟩
    have HN := hid hn0
    simp only [if_neg hE]
    clear hE hbig hn0
    go_enter Try.func61, Try.ntmps61
    go_wp2_with fail
    refine HC.out.mono ?_
    rintro r w1 ⟨rfl, g1⟩
    have B1 := hid g1
    clear g1
    go_wp2_with fail
    go_ret3
    exact ⟨_, _, rfl, HN.out _, HN.out _, B1.out⟩
end Go.Proofs.Ytomaiolhaenmhaa
