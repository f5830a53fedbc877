/-
  BODIES: the program's walker. No condition.
-/
import Derived.Test.YtakfineljffoaaaGreatDoorGFoldSays2
import Derived.Test.YtakfineljffoaaaGreatDoorGFoldSays3
import Derived.Test.YtakfineljffoaaaGreatDoorGFoldSays8
import Derived.Deep.RegionLaw
namespace Go.Proofs.YtakfineljffoaaaGreatDoor
open Go.RowKit Go.Lib
attribute [local go_sem ↓] Go.wp_at_zero Go.wp_at_succ

theorem elem_intv : Elem Tryz.prog 70 3 (.int .i64 0) 1 8 := ⟨Tryz.underlying70, by kernel_rfl, rfl, by decide⟩
theorem elem_u8v : Elem Tryz.prog 47 5 (.int .u8 0) 1 1 := ⟨Tryz.underlying47, by kernel_rfl, rfl, by decide⟩
def opens (T : Stk) : List Int := (T.map (fun x => x.1)).reverse
def lasts (T : Stk) : List Int := (T.map (fun x => (x.2 : Int))).reverse
theorem opens_len (T : Stk) : (opens T).length = T.length := by simp [opens]
theorem lasts_len (T : Stk) : (lasts T).length = T.length := by simp [lasts]
theorem opens_cons (p : Int) (v : Nat) (T : Stk) : opens ((p, v) :: T) = opens T ++ [p] := by simp [opens]
theorem lasts_cons (p : Int) (v : Nat) (T : Stk) : lasts ((p, v) :: T) = lasts T ++ [(v : Int)] := by simp [lasts]
theorem opens_top (p : Int) (v : Nat) (T : Stk) : (opens ((p, v) :: T))[T.length]? = some p := by rw [opens_cons, List.getElem?_append_right (by rw [opens_len]; exact Nat.le_refl _), opens_len, Nat.sub_self]; rfl
theorem lasts_top (p : Int) (v : Nat) (T : Stk) : (lasts ((p, v) :: T))[T.length]? = some (v : Int) := by rw [lasts_cons, List.getElem?_append_right (by rw [lasts_len]; exact Nat.le_refl _), lasts_len, Nat.sub_self]; rfl
theorem opens_take (p : Int) (v : Nat) (T : Stk) : (opens ((p, v) :: T)).take T.length = opens T := by rw [opens_cons, List.take_append_of_le_length (by rw [opens_len]; exact Nat.le_refl _), List.take_of_length_le (by rw [opens_len]; exact Nat.le_refl _)]
theorem lasts_take (p : Int) (v : Nat) (T : Stk) : (lasts ((p, v) :: T)).take T.length = lasts T := by rw [lasts_cons, List.take_append_of_le_length (by rw [lasts_len]; exact Nat.le_refl _), List.take_of_length_le (by rw [lasts_len]; exact Nat.le_refl _)]
theorem lasts_set (p : Int) (v u : Nat) (T : Stk) : (lasts ((p, v) :: T)).set T.length (u : Int) = lasts ((p, u) :: T) := by rw [lasts_cons, lasts_cons, List.set_append_right _ _ (by rw [lasts_len]; exact Nat.le_refl _), lasts_len, Nat.sub_self]; rfl
structure WkB (w : World) (B base : Nat) (vo vl : Value) (st : Stk × Bool) : Prop where
  blk : Blk w B 123 [vo, vl, .bool st.2]
  op : OwnI w base .i64 3 vo (opens st.1)
  la : OwnI w base .u8 5 vl (lasts st.1)
  le : base ≤ B
  full : st.2 = false → st.1 ≠ []
  most : st.1.length ≤ 13
abbrev Fw (B : Nat) (vo vl : Value) (j : Nat) : Prop := j = B ∨ vo.ownBlock = some j ∨ vl.ownBlock = some j
theorem WkB.feet {w : World} {B base : Nat} {vo vl : Value} {st : Stk × Bool} (h : WkB w B base vo vl st) (j : Nat) (hj : Fw B vo vl j) : base ≤ j ∧ j < w.heap.size := by
  rcases hj with rfl | hj | hj
  · exact ⟨h.le, h.blk.lt⟩
  · exact World.ownsRow.lt h.op j hj
  · exact World.ownsRow.lt h.la j hj
theorem WkB.below {w w' : World} {B base : Nat} {vo vl : Value} {st : Stk × Bool} (h : WkB w B base vo vl st) (hb : Below w.heap.size w w') : WkB w' B base vo vl st := ⟨h.blk.below hb, h.op.below hb, h.la.below hb, h.le, h.full, h.most⟩

theorem own_made1 (w : World) (base : Nat) (k : IntKind) (e : TypeId) (x : Int) (hb : base ≤ w.heap.size) : OwnI (w.alloc (.cells #[.int k x] e)) base k e (.slice (some ⟨w.heap.size, 0, none⟩) 1 1) [x] :=
  ⟨rfl, .inr ⟨_, 1, #[.int k x], rfl, hb, Blk.new w _ _ _ rfl, Nat.le_refl _, by decide, rfl, rfl⟩⟩
set_option maxRecDepth 100000 in
set_option maxHeartbeats 1000000 in
theorem begin_any (w : World) : Calls Tryz.prog 62 #[] w fun e w' => ∃ vo vl B, e = .returned (.pointer (some ⟨B, 0, none⟩)) ∧ WkB w' B w.heap.size vo vl ([(-1, 2)], false) ∧ Below w.heap.size w w' := by
  go_enter Tryz.func62, Tryz.ntmps62
  go_wp2_with fail
  go_ret
  refine ⟨_, _, w.heap.size + 1 + 1, rfl, ⟨Blk.new _ _ _ _ (by simp), ?_, ?_, by omega, fun _ h => by simp at h, by simp⟩, ((((Below.refl _ _).alloc (Nat.le_refl _) _).alloc (by simp) _).alloc (by simp; omega) _)⟩
  · exact ((own_made1 w w.heap.size .i64 3 (-1) (Nat.le_refl _)).below ((Below.refl _ _).alloc (Nat.le_refl _) _)).below ((Below.refl _ _).alloc (Nat.le_refl _) _)
  · have h1 := own_made1 (w.alloc (.cells #[.int .i64 (-1)] 3)) w.heap.size .u8 5 2 (by simp)
    rw [show (w.alloc (.cells #[.int .i64 (-1)] 3)).heap.size = w.heap.size + 1 by simp] at h1
    exact h1.below ((Below.refl _ _).alloc (Nat.le_refl _) _)

set_option maxRecDepth 100000 in
set_option maxHeartbeats 4000000 in
theorem next_any (w : World) (B base : Nat) (vo vl : Value) (T : Stk) (ov : Bool) (op : Nat) (hop : op < 256) (A C : Int) (v : Value) (k : Int) (h : WkB w B base vo vl (T, ov)) :
    Calls Tryz.prog 64 #[.pointer (some ⟨B, 0, none⟩), insV op A C v, .int .i64 k] w fun e w' => e = .returned (.tuple #[.int .i64 (wnext (T, ov) op k).1.1, .int .i64 (wnext (T, ov) op k).1.2]) ∧
      (∃ vo' vl', WkB w' B base vo' vl' (wnext (T, ov) op k).2) ∧ Touch (Fw B vo vl) w w' := by
  have hX := Blk.new w #[.int .u8 op, .int .i64 A, .int .i64 C, v] 97 _ rfl
  have H1 := hid (h.below (Below.alloc (Below.refl _ _) (Nat.le_refl _) (.cells #[.int .u8 op, .int .i64 A, .int .i64 C, v] 97)))
  have T1 := hid (show Touch (Fw B vo vl) w (w.alloc (.cells #[.int .u8 op, .int .i64 A, .int .i64 C, v] 97)) from (Touch.refl _ _).alloc _)
  have x0 := hX.cell (i := 0) rfl
  have hne : B ≠ w.heap.size := by have := h.blk.lt; omega
  have HBS := hid (show base ≤ w.heap.size by have := h.blk.lt; have := h.le; omega)
  clear h hX
  cases ov with
  | true =>
    obtain ⟨ao, co, rfl, _⟩ := own_sl H1.out.op
    have b0 := H1.out.blk.cell (i := 0) rfl
    have b2 := H1.out.blk.cell (i := 2) rfl
    rw [show wnext (T, true) op k = ((-2, 4), (T, true)) from by unfold wnext; rw [if_pos rfl]]
    go_enter Tryz.func64, Tryz.ntmps64
    go_wp2_with fail
    go_ret2
    exact ⟨rfl, ⟨_, _, H1.out⟩, T1.out⟩
  | false =>
    obtain ⟨p, u, r, rfl⟩ : ∃ p u r, T = (p, u) :: r := by
      have := H1.out.full rfl
      simp only at this
      match T, this with
      | (p, u) :: r, _ => exact ⟨p, u, r, rfl⟩
    have hol := opens_len ((p, u) :: r)
    have hll := lasts_len ((p, u) :: r)
    obtain ⟨M, hM⟩ : ∃ M, M = r.length + 1 := ⟨_, rfl⟩
    have h13 : M ≤ 13 := by have := H1.out.most; simp at this; omega
    obtain ⟨g, co, rfl, hg1, hg2, -, hg4, hg5, hg6, gcs, hg7⟩ := H1.out.op.at (n := M) (by simp only; rw [hol, hM]; simp) (by omega)
    obtain ⟨gl, cl, rfl, hl1, hl2, -, hl4, hl5, hl6, lcs, hl7⟩ := H1.out.la.at (n := M) (by simp only; rw [hll, hM]; simp) (by omega)
    have y0 := hg4 r.length p (opens_top p u r)
    have y1 := hl4 r.length (u : Int) (lasts_top p u r)
    have n1 : ¬ (B = g) := blk_diff H1.out.blk hg7 (by decide)
    have n2 : ¬ (B = gl) := blk_diff H1.out.blk hl7 (by decide)
    have n3 : ¬ (g = gl) := blk_diff hg7 hl7 (by decide)
    have n1' : ¬ (g = B) := fun e => n1 e.symm
    have n2' : ¬ (gl = B) := fun e => n2 e.symm
    have n3' : ¬ (gl = g) := fun e => n3 e.symm
    have b0 := H1.out.blk.cell (i := 0) rfl
    have b1 := H1.out.blk.cell (i := 1) rfl
    have b2 := H1.out.blk.cell (i := 2) rfl
    have bf := H1.out.blk.free
    simp only at b0 b1 b2
    have hw1 : (M : Int) - 1 = (r.length : Int) := by omega
    have hoM : (opens ((p, u) :: r)).length = M := by rw [hol, hM]; simp
    have hlM : (lasts ((p, u) :: r)).length = M := by rw [hll, hM]; simp
    have HOPr := hid (show World.ownsRow _ base 3 1 (.slice (some ⟨g, 0, none⟩) M co) M ((opens ((p, u) :: r)).map (.int .i64)) from by have := H1.out.op; rw [← hoM]; rw [← hoM] at this; exact this)
    have HLAr := hid (show World.ownsRow _ base 5 1 (.slice (some ⟨gl, 0, none⟩) M cl) M ((lasts ((p, u) :: r)).map (.int .u8)) from by have := H1.out.la; rw [← hlM]; rw [← hlM] at this; exact this)
    have HLN := hid (And.intro hoM hlM)
    have hNM : (r.length : Int) < (M : Int) := by omega
    have hN0 : (0 : Int) ≤ (r.length : Int) := by omega
    have HM := hid hM
    have HOP := hid (show OwnI _ base .i64 3 _ (opens ((p, u) :: r)) from H1.out.op)
    have HLA := hid (show OwnI _ base .u8 5 _ (lasts ((p, u) :: r)) from H1.out.la)
    have HG := hid (And.intro hg7 hl7)
    clear hM hg7 hl7 hol hll hg4 hl4 hoM hlM
    generalize hN : r.length = N at *
    have HN := hid hN
    clear hN
    have hw2 : wrap64 (N : Int) = (N : Int) := by clear y0 y1 b0 b1 b2 bf x0; unfold wrap64; omega
    have hw3 : IntKind.i64.wrap (N : Int) = (N : Int) := by clear y0 y1 b0 b1 b2 bf x0; rw [IntKind.wrap_i64]; omega
    by_cases h2 : op = 2 ∨ op = 3 ∨ op = 4
    · by_cases hd : 13 ≤ ((p, u) :: r).length
      · rw [wn_deep h2 hd]
        have hd2 : (12 : Int) ≤ (N : Int) := by have := HN.out; simp at hd; omega
        clear hd
        have hsw : ((op : Int) == 2) = true ∨ ((op : Int) == 2) = false ∧ ((op : Int) == 3) = true ∨ ((op : Int) == 2) = false ∧ ((op : Int) == 3) = false ∧ ((op : Int) == 4) = true := by rcases h2 with rfl | rfl | rfl <;> simp
        clear h2
        rcases hsw with e2 | ⟨e2, e3⟩ | ⟨e2, e3, e4⟩
        all_goals
          go_enter Tryz.func64, Tryz.ntmps64
          go_wp2_with fail
          go_ret2
          exact ⟨rfl, ⟨_, _, H1.out⟩, T1.out⟩
      · rw [wn_push h2 hd]
        have hd2 : ¬ (12 : Int) ≤ (N : Int) := by have := HN.out; simp at hd; omega
        have hle : (opens ((p, u) :: r)).length + 1 ≤ 14 ∧ (lasts ((p, u) :: r)).length + 1 ≤ 14 := by rw [opens_len, lasts_len]; simp at hd ⊢; omega
        have hle1 := hle.1
        have hle2 := hle.2
        have HD := hid hd
        have HX := hid (Blk.new w #[.int .u8 op, .int .i64 A, .int .i64 C, v] 97 _ rfl)
        have HZ := hid (show base ≤ (w.alloc (.cells #[.int .u8 op, .int .i64 A, .int .i64 C, v] 97)).heap.size by have := HBS.out; simp; omega)
        clear hd hle
        have hsw : ((op : Int) == 2) = true ∨ ((op : Int) == 2) = false ∧ ((op : Int) == 3) = true ∨ ((op : Int) == 2) = false ∧ ((op : Int) == 3) = false ∧ ((op : Int) == 4) = true := by rcases h2 with rfl | rfl | rfl <;> simp
        clear h2
        rcases hsw with e2 | ⟨e2, e3⟩ | ⟨e2, e3, e4⟩
        all_goals
          go_enter Tryz.func64, Tryz.ntmps64
          go_wp2_with (at_builtin; go_loud (refine app_one elem_intv (cs := [.int .i64 k]) rfl _ _ rfl rfl rfl (by simp) HOPr.out (by rfl) (by intro c hc; simp at hc; subst hc; rfl) (by omega) (by omega) HZ.out ?_); intro v2 w2 ho hb hg; have O2 := hid ho; obtain ⟨ao2, cap2, rfl, _⟩ := own_sl ho; have K2 := hid (KT.grown hg.1 HOPr.out); have T2 := hid (T1.out.trans (Touch.grown hg.1 (fun j e => Or.inr (Or.inl e)))); have B2 := hid (K2.out.blk H1.out.blk rfl); have L2 := hid (K2.out.own HLAr.out rfl); have X2 := hid (K2.out.blk HX.out rfl); have SZ2 := hid (Nat.le_trans HZ.out hb.size); have c0 := B2.out.cell (i := 0) rfl; have cf := B2.out.free; clear ho hb hg)
          have B3 := hid ((B2.out.set 0 (.slice ao2 (M + 1) cap2)))
          have L3 := hid ((KT.set B2.out (.slice ao2 (M + 1) cap2) (i := 0)).own L2.out rfl)
          have O3 := hid ((KT.set B2.out (.slice ao2 (M + 1) cap2) (i := 0)).own O2.out rfl)
          have X3 := hid (X2.out.other (a := ⟨B, 0, none⟩) hne (.slice ao2 (M + 1) cap2))
          have T3 := hid (T2.out.trans (Touch.setCell (F := Fw B (.slice (some ⟨g, 0, none⟩) M co) (.slice (some ⟨gl, 0, none⟩) M cl)) (a := ⟨B, 0, none⟩) (Or.inl rfl) (.slice ao2 (M + 1) cap2)))
          have SZ3 := hid (show base ≤ (w2.setCell ⟨B, 0, none⟩ (.slice ao2 (M + 1) cap2)).drew.heap.size by have := SZ2.out; simpa using this)
          have q1 : (w2.setCell ⟨B, 0, none⟩ (.slice ao2 (M + 1) cap2)).drew.cell? ⟨B, 1, none⟩ = some (.slice (some ⟨gl, 0, none⟩) M cl) := B3.out.cell (i := 1) rfl
          have q1a := fun oo => cell_alloc oo q1
          have qx : (w2.setCell ⟨B, 0, none⟩ (.slice ao2 (M + 1) cap2)).drew.cell? ⟨w.heap.size, 0, none⟩ = some (.int .u8 op) := X3.out.cell (i := 0) rfl
          have qxa := fun oo => cell_alloc oo qx
          have L4 := hid (show World.ownsRow ((w2.setCell ⟨B, 0, none⟩ (.slice ao2 (M + 1) cap2)).alloc (.cells #[.int .u8 op] 5)).drew base 5 1 (.slice (some ⟨gl, 0, none⟩) M cl) M _ from L3.out.alloc _)
          have B3a := hid (show Blk ((w2.setCell ⟨B, 0, none⟩ (.slice ao2 (M + 1) cap2)).alloc (.cells #[.int .u8 op] 5)).drew B _ _ from B3.out.alloc _)
          have O3a := hid (show World.ownsRow ((w2.setCell ⟨B, 0, none⟩ (.slice ao2 (M + 1) cap2)).alloc (.cells #[.int .u8 op] 5)).drew _ _ _ _ _ _ from O3.out.alloc _)
          have T3a := hid (show Touch _ w ((w2.setCell ⟨B, 0, none⟩ (.slice ao2 (M + 1) cap2)).alloc (.cells #[.int .u8 op] 5)).drew from ((T3.out.alloc _).drew 1))
          have SZa := hid (show base ≤ (((w2.setCell ⟨B, 0, none⟩ (.slice ao2 (M + 1) cap2)).alloc (.cells #[.int .u8 op] 5)).drew).heap.size by have := SZ2.out; simp; omega)
          have HAT := hid (show At ((w2.setCell ⟨B, 0, none⟩ (.slice ao2 (M + 1) cap2)).alloc (.cells #[.int .u8 op] 5)).drew w2.heap.size 0 [.int .u8 op] from fun j hj => by
            have hj0 : j = 0 := by simp at hj; omega
            subst hj0
            exact (Blk.new (w2.setCell ⟨B, 0, none⟩ (.slice ao2 (M + 1) cap2)) #[.int .u8 op] 5 w2.heap.size (by simp)).cell (i := 0) rfl)
          have q1w : ((w2.setCell ⟨B, 0, none⟩ (.slice ao2 (M + 1) cap2)).alloc (.cells #[.int .u8 op] 5)).cell? ⟨B, 1, none⟩ = some (.slice (some ⟨gl, 0, none⟩) M cl) := B3a.out.cell (i := 1) rfl
          have qxw : ((w2.setCell ⟨B, 0, none⟩ (.slice ao2 (M + 1) cap2)).alloc (.cells #[.int .u8 op] 5)).cell? ⟨w.heap.size, 0, none⟩ = some (.int .u8 op) := (X3.out.alloc _).cell (i := 0) rfl
          have q1v : (w2.setCell ⟨B, 0, none⟩ (.slice ao2 (M + 1) cap2)).cell? ⟨B, 1, none⟩ = some (.slice (some ⟨gl, 0, none⟩) M cl) := B3.out.cell (i := 1) rfl
          have qxv : (w2.setCell ⟨B, 0, none⟩ (.slice ao2 (M + 1) cap2)).cell? ⟨w.heap.size, 0, none⟩ = some (.int .u8 op) := X3.out.cell (i := 0) rfl
          clear B3 SZ3
          go_wp2_with fail
          go_region_law (go_loud (refine step_one elem_u8v (cs := [.int .u8 op]) (by rfl) _ _ (by rfl) (by rfl) (by rfl) HAT.out L4.out (by rfl) (by intro c hc; simp at hc; subst hc; rfl) (by omega) (by omega) SZa.out ?_); intro v4 w4 ho hb hg; have O4 := hid ho; obtain ⟨ao4, cap4, rfl, _⟩ := own_sl ho; have K4 := hid (KT.grown hg.1 L4.out); have T4 := hid (T3a.out.trans (Touch.grown hg.1 (fun j e => Or.inr (Or.inr e)))); have B4 := hid (K4.out.blk B3a.out rfl); have P4 := hid (K4.out.own O3a.out rfl); have z1 := B4.out.cell (i := 1) rfl; have zf := B4.out.free; clear ho hb hg)
          all_goals
            go_wp2_with fail
            go_ret2
            refine ⟨rfl, ⟨(.slice ao2 (M + 1) cap2), (.slice ao4 (M + 1) cap4), ⟨B4.out.set 1 _, ?_, ?_, H1.out.le, fun _ h => by simp at h, by have := HD.out; simp at this ⊢; omega⟩⟩, T4.out.trans (Touch.setCell (F := Fw B (.slice (some ⟨g, 0, none⟩) M co) (.slice (some ⟨gl, 0, none⟩) M cl)) (a := ⟨B, 1, none⟩) (Or.inl rfl) _)⟩
            · show World.ownsRow _ _ _ _ _ (opens ((k, op) :: (p, u) :: r)).length ((opens ((k, op) :: (p, u) :: r)).map _)
              rw [opens_cons k op, List.length_append, HLN.out.1, List.map_append]
              exact (KT.set B4.out _ (i := 1)).own P4.out rfl
            · show World.ownsRow _ _ _ _ _ (lasts ((k, op) :: (p, u) :: r)).length ((lasts ((k, op) :: (p, u) :: r)).map _)
              rw [lasts_cons k op, List.length_append, HLN.out.2, List.map_append]
              exact (KT.set B4.out _ (i := 1)).own O4.out rfl
    · by_cases h5 : op = 5
      · have e2 : ((op : Int) == 2) = false := by simp; omega
        have e3 : ((op : Int) == 3) = false := by simp; omega
        have e4 : ((op : Int) == 4) = false := by simp; omega
        have e5 : ((op : Int) == 5) = true := by simp; omega
        by_cases hu : u = 4
        · have hu1 : ((u : Int) != 4) = false := by simp; omega
          rw [show wnext ((p, u) :: r, false) op k = ((p, 0), ((p, 5) :: r, false)) from by rw [h5]; exact wn_else hu]
          clear h5 h2 hu
          go_enter Tryz.func64, Tryz.ntmps64
          go_wp2_with fail
          go_ret2
          have e1 := HLA.out.put (by rw [lasts_len]; simp; have := HN.out; have := HM.out; omega) N 5 (by rw [lasts_len]; simp; have := HN.out; omega)
          rw [← HN.out, show (5 : Int) = ((5 : Nat) : Int) from rfl] at e1
          simp only [lasts_set] at e1
          rw [HN.out] at e1
          exact ⟨rfl, ⟨_, _, H1.out.blk.other (a := ⟨gl, N, none⟩) n2' _, ownsRow_setCell_other (a := ⟨gl, N, none⟩) H1.out.op (fun e => n3 (by injection e)) _, e1, H1.out.le, fun _ h => by simp at h, H1.out.most⟩, T1.out.trans (Touch.setCell (F := Fw B (.slice (some ⟨g, 0, none⟩) M co) (.slice (some ⟨gl, 0, none⟩) M cl)) (a := ⟨gl, N, none⟩) (Or.inr (Or.inr rfl)) _)⟩
        · rw [show wnext ((p, u) :: r, false) op k = ((-2, 4), ((p, u) :: r, false)) from by rw [h5]; exact wn_noelse hu]
          clear h5 h2
          have e1 : ((u : Int) != 4) = true := by simp; omega
          clear hu
          go_enter Tryz.func64, Tryz.ntmps64
          go_wp2_with fail
          go_ret2
          exact ⟨rfl, ⟨_, _, H1.out⟩, T1.out⟩
      · by_cases h11 : op = 11
        · have e2 : ((op : Int) == 2) = false := by simp; omega
          have e3 : ((op : Int) == 3) = false := by simp; omega
          have e4 : ((op : Int) == 4) = false := by simp; omega
          have e5 : ((op : Int) == 5) = false := by simp; omega
          have e11 : ((op : Int) == 11) = true := by simp; omega
          rw [show wnext ((p, u) :: r, false) op k = ((p, 0), (r, decide (r.length = 0))) from by rw [h11]; exact wn_end]
          clear h2 h5 h11
          have hb0 : ((N : Int) == 0) = decide (r.length = 0) := by rw [HN.out, Bool.eq_iff_iff]; simp
          have HDN := hid (show decide (r.length = 0) = false → r ≠ [] from fun h e => by subst e; simp at h)
          generalize decide (r.length = 0) = bz at *
          have hco : N ≤ co := by omega
          have hcl : N ≤ cl := by omega
          have q0 : (w.alloc (.cells #[.int .u8 op, .int .i64 A, .int .i64 C, v] 97)).drew.cell? ⟨B, 0, none⟩ = some (.slice (some ⟨g, 0, none⟩) M co) := b0
          have q1 : (w.alloc (.cells #[.int .u8 op, .int .i64 A, .int .i64 C, v] 97)).drew.cell? ⟨B, 1, none⟩ = some (.slice (some ⟨gl, 0, none⟩) M cl) := b1
          have qf : ∀ i, (w.alloc (.cells #[.int .u8 op, .int .i64 A, .int .i64 C, v] 97)).drew.frozen? ⟨B, i, none⟩ = false := bf
          go_enter Tryz.func64, Tryz.ntmps64
          go_wp2_with fail
          go_region_law (fail)
          all_goals
            go_wp2_with fail
            go_ret2
            refine ⟨rfl, ⟨_, _, ((H1.out.blk.set 0 (.slice (some ⟨g, 0, none⟩) N co)).set 1 (.slice (some ⟨gl, 0, none⟩) N cl)).set 2 (.bool bz), ?_, ?_, H1.out.le, fun h => HDN.out h, by have := H1.out.most; simp at this ⊢; omega⟩, (((T1.out.trans (Touch.setCell (F := Fw B (.slice (some ⟨g, 0, none⟩) M co) (.slice (some ⟨gl, 0, none⟩) M cl)) (a := ⟨B, 0, none⟩) (Or.inl rfl) _)).trans (Touch.setCell (F := Fw B (.slice (some ⟨g, 0, none⟩) M co) (.slice (some ⟨gl, 0, none⟩) M cl)) (a := ⟨B, 1, none⟩) (Or.inl rfl) _)).trans (Touch.setCell (F := Fw B (.slice (some ⟨g, 0, none⟩) M co) (.slice (some ⟨gl, 0, none⟩) M cl)) (a := ⟨B, 2, none⟩) (Or.inl rfl) _)).drew 1⟩
            · refine OwnI.cut (xs := opens ((p, u) :: r)) (n := M) ?_ HLN.out.1.symm N (by rw [HLN.out.1]; omega) (by rw [← HN.out]; exact opens_take p u r)
              exact (KT.set ((H1.out.blk.set 0 _).set 1 _) _ (i := 2)).own ((KT.set (H1.out.blk.set 0 _) _ (i := 1)).own ((KT.set H1.out.blk _ (i := 0)).own HOP.out rfl) rfl) rfl
            · refine OwnI.cut (xs := lasts ((p, u) :: r)) (n := M) ?_ HLN.out.2.symm N (by rw [HLN.out.2]; omega) (by rw [← HN.out]; exact lasts_take p u r)
              exact (KT.set ((H1.out.blk.set 0 _).set 1 _) _ (i := 2)).own ((KT.set (H1.out.blk.set 0 _) _ (i := 1)).own ((KT.set H1.out.blk _ (i := 0)).own HLA.out rfl) rfl) rfl
        · rw [wn_plain h2 h5 h11]
          have e2 : ((op : Int) == 2) = false := by simp; omega
          have e3 : ((op : Int) == 3) = false := by simp; omega
          have e4 : ((op : Int) == 4) = false := by simp; omega
          have e5 : ((op : Int) == 5) = false := by simp; omega
          have e11 : ((op : Int) == 11) = false := by simp; omega
          clear h2 h5 h11
          go_enter Tryz.func64, Tryz.ntmps64
          go_wp2_with fail
          go_ret2
          exact ⟨rfl, ⟨_, _, H1.out⟩, T1.out⟩
end Go.Proofs.YtakfineljffoaaaGreatDoor
