/-
  TREES OF BODIES: the program's copy of an instruction. No condition beside its list's length.
-/
import Derived.Test.YtomaiolhaenmhaaInE
import Derived.Test.YtomaiolhaenmhaaGNestTrees6
import Derived.Test.YtomaiolhaenmhaaGNestTrees7
import Derived.Lib.MinMax
import Derived.Deep.RegionHeld3
namespace Go.Proofs.Ytomaiolhaenmhaa
open Go.RowKit Go.Lib
attribute [local go_sem ↓] Go.wp_at_zero Go.wp_at_succ

theorem elem_i64l : Elem Try.prog 88 2 (.int .i64 0) 1 8 := ⟨Try.underlying88, by kernel_rfl, rfl, by decide⟩
set_option maxRecDepth 100000 in
set_option maxHeartbeats 1000000 in
theorem copied_any (w : World) (x : It) (u : Value) (hx : x.tos.length ≤ 16) (hu : Ints w .i64 u x.tos) :
    Calls Try.prog 177 #[singleV x u] w fun e w' => ∃ a c, e = .returned (singleV x (.slice a x.tos.length c)) ∧ OwnI w' w.heap.size .i64 2 (.slice a x.tos.length c) x.tos ∧ Below w.heap.size w w' := by
  obtain ⟨op, A, B, xs⟩ := x
  simp only at hx hu ⊢
  have hb : Below w.heap.size w ((w.alloc (.cells #[.int .u8 op, .int .i64 A, .int .i64 B, u] 90)).alloc (.cells #[.int .u8 0, .int .i64 0, .int .i64 0, .slice none 0 0] 90)) := ((Below.refl _ _).alloc (Nat.le_refl _) _).alloc (by simp) _
  have X := hid ((Blk.new w #[.int .u8 op, .int .i64 A, .int .i64 B, u] 90 _ rfl).alloc (.cells #[.int .u8 0, .int .i64 0, .int .i64 0, .slice none 0 0] 90))
  have Y := hid (Blk.new (w.alloc (.cells #[.int .u8 op, .int .i64 A, .int .i64 B, u] 90)) #[.int .u8 0, .int .i64 0, .int .i64 0, .slice none 0 0] 90 (w.heap.size + 1) (by simp))
  have U := hid (L1.below hu hb)
  have HB := hid hb
  have hsz : w.heap.size ≤ ((w.alloc (.cells #[.int .u8 op, .int .i64 A, .int .i64 B, u] 90)).alloc (.cells #[.int .u8 0, .int .i64 0, .int .i64 0, .slice none 0 0] 90)).heap.size := hb.size
  obtain ⟨ao, cap, rfl, -⟩ := id hu
  have x3 := X.out.cell (i := 3) rfl
  clear hu hb
  go_enter Try.func177, Try.ntmps177
  have hne : ¬ (w.heap.size = w.heap.size + 1) := by omega
  have hne2 : ¬ (w.heap.size + 1 = w.heap.size) := by omega
  clear x3
  have x3 := X.out.cell (i := 3) rfl
  go_wp2_with (at_builtin; go_must (refine app_ints elem_i64l (k := .i64) (base := w.heap.size) rfl _ _ rfl rfl rfl (OwnI.nil _ _ _ _) U.out (by simp; omega) (by simp; omega) hsz ?_); intro v' w3 ho hb2 hg; rw [List.nil_append] at ho; obtain ⟨a3, c3, rfl, _⟩ := own_sl ho; have KK := KT.grown hg.1 (OwnI.nil _ w.heap.size .i64 2); have X3 := hid (KK.blk X.out rfl); have Y3 := hid (KK.blk Y.out rfl); have B3 := hid (HB.out.trans hb2); have HO := hid ho; have y0 := X3.out.cell (i := 0) rfl; have y1 := X3.out.cell (i := 1) rfl; have y2 := X3.out.cell (i := 2) rfl; have y3 := X3.out.cell (i := 3) rfl; have yf := X3.out.free; have z0 := Y3.out.cell (i := 0) rfl; have z1 := Y3.out.cell (i := 1) rfl; have z2 := Y3.out.cell (i := 2) rfl; have z3 := Y3.out.cell (i := 3) rfl; have zf := Y3.out.free; clear KK ho hb2 hg x3)
  refine bodyPost_ret (v := .agg #[.int .u8 op, .int .i64 A, .int .i64 B, .slice a3 xs.length c3]) (by simp [results, Try.results177, go_sem, z0, z1, z2, z3]) rfl ?_
  have T := ((((Touch.setCell (F := fun j => j = w.heap.size ∨ j = w.heap.size + 1) (w := w3) (a := ⟨w.heap.size, 3, none⟩) (.inl rfl) (.slice a3 xs.length c3)).trans (Touch.setCell (a := ⟨w.heap.size + 1, 0, none⟩) (.inr rfl) (.int .u8 op))).trans (Touch.setCell (a := ⟨w.heap.size + 1, 1, none⟩) (.inr rfl) (.int .i64 A))).trans (Touch.setCell (a := ⟨w.heap.size + 1, 2, none⟩) (.inr rfl) (.int .i64 B))).trans (Touch.setCell (a := ⟨w.heap.size + 1, 3, none⟩) (.inr rfl) (.slice a3 xs.length c3))
  refine ⟨a3, c3, rfl, own_touch HO.out T (fun k hk hF => ?_), B3.out.trans (T.below B3.out.size (fun j hj => by omega))⟩
  obtain ⟨cur, fr, hh⟩ := own_type HO.out hk
  have hX := X3.out
  have hY := Y3.out
  unfold Blk at hX hY
  rcases hF with rfl | rfl
  · rw [hX] at hh
    simp only [Option.some.injEq, Obj.cells.injEq] at hh
    exact absurd hh.2.1 (by decide)
  · rw [hY] at hh
    simp only [Option.some.injEq, Obj.cells.injEq] at hh
    exact absurd hh.2.1 (by decide)
end Go.Proofs.Ytomaiolhaenmhaa
/-
  TREES OF BODIES: a list of instructions without its first. No condition.
-/
namespace Go.Proofs.Ytomaiolhaenmhaa
open Go.RowKit Go.Lib

theorem cell_below {w w' : World} {a : Addr} {v : Value} (hb : Below w.heap.size w w') (h : w.cell? a = some v) : w'.cell? a = some v := (hb.cell (World.block_lt_of_cell? w a h)).trans h
/-- s[1:] of a row at any place, whatever its capacity -/
theorem run_tail1 {P : Program} {T E : TypeId} {z : Value} {size bytes : Nat} (hE : Elem P T E z size bytes) (b off n cap : Nat) (hn : 1 ≤ n) :
    ∃ o, (1 < cap → o = off + size) ∧ ∀ w : World, (Instr.slice T (.slice (some ⟨b, off, none⟩) n cap) (some (.int .i64 1)) none none).run P w = .ok (.slice (some ⟨b, o, none⟩) (n - 1) (cap - 1)) w := by
  obtain ⟨ht, hinfo, hz2, hpos⟩ := hE
  obtain ⟨i0, hi, hz0, hz1, hzb⟩ := info_parts hinfo
  have hel : P.elem T = E := by simp [Program.elem, ht]
  refine ⟨if cap = 1 then off else off + size, fun h => by rw [if_neg (by omega)], fun w => ?_⟩
  rw [run_slice_l (P := P) w T (some ⟨b, off, none⟩) n cap (by rw [hel]; exact ht) .i64 1 (by omega) (by omega), hel]
  have hadd : (⟨b, off, none⟩ : Addr).add size = ⟨b, off + size, none⟩ := by
    unfold Addr.add; split <;> simp_all
  by_cases h : cap = 1
  · simp [sizeOf, typeInfo, hi, hz1, sliced, h]
  · simp [sizeOf, typeInfo, hi, hz1, sliced, h, hadd]
theorem BodS.tail {w : World} {b off n cap o : Nat} {x : It} {l : List It} (h : BodS w (.slice (some ⟨b, off, none⟩) n cap) (x :: l)) (ho : 1 < cap → o = off + 4) : BodS w (.slice (some ⟨b, o, none⟩) (n - 1) (cap - 1)) l := by
  obtain ⟨css, h1, ⟨ao, cap', hv, hc1, hc2, _, hcs⟩, h3⟩ := h
  simp only [Value.slice.injEq] at hv
  obtain ⟨rfl, rfl, rfl⟩ := hv
  cases css with
  | nil => simp at h1
  | cons c css =>
    simp only [List.length_cons] at h1 hc1 ⊢
    have hc4 : c.length = 4 := by
      obtain ⟨u, e, _⟩ := h3 0 (by simp) (by simp)
      simp only [List.getElem_cons_zero] at e
      rw [e]; rfl
    refine ⟨css, by omega, ⟨_, _, by rw [Nat.add_sub_cancel], by omega, by omega, by simp, ?_⟩, fun i g1 g2 => ?_⟩
    · by_cases hl : css.flatten = []
      · exact .inl hl
      · refine .inr ⟨b, o, rfl, fun i hi => ?_⟩
        have hpos : 0 < l.length := by
          rcases Nat.eq_zero_or_pos l.length with h | h
          · have : css = [] := List.length_eq_zero_iff.1 (by omega)
            rw [this] at hl; exact absurd rfl hl
          · exact h
        have he := ho (by omega)
        rcases hcs with hcs | ⟨b', off', hao, hat⟩
        · rw [List.flatten_cons] at hcs
          have := congrArg List.length hcs
          rw [List.length_append, hc4] at this
          simp at this
        · simp only [Option.some.injEq, Addr.mk.injEq, and_true] at hao
          obtain ⟨rfl, rfl⟩ := hao
          have := hat (4 + i) (by rw [List.flatten_cons, List.length_append, hc4]; omega)
          rw [he, Nat.add_assoc, this]
          congr 1
          simp only [List.flatten_cons]
          rw [List.getElem_append_right (by omega)]
          simp [hc4]
    · have := h3 (i + 1) (by simp; omega) (by simp; omega)
      simpa using this
/-- the first, and what is behind it -/
theorem BodS.uncons {w : World} {v : Value} {x : It} {l : List It} (h : BodS w v (x :: l)) :
    ∃ b off n cap o, v = .slice (some ⟨b, off, none⟩) n cap ∧ 1 ≤ n ∧ n ≤ cap ∧ cap ≤ 9223372036854775807 ∧
      (∀ wx : World, (Instr.slice 105 (.slice (some ⟨b, off, none⟩) n cap) (some (.int .i64 1)) none none).run Try.prog wx = .ok (.slice (some ⟨b, o, none⟩) (n - 1) (cap - 1)) wx) ∧
      BodS w (.slice (some ⟨b, o, none⟩) (n - 1) (cap - 1)) l ∧
      ∀ wx, Below w.heap.size w wx → ∃ a c, wx.cell? ⟨b, off, none⟩ = some (.int .u8 x.op) ∧ wx.cell? ⟨b, off + 1, none⟩ = some (.int .i64 x.A) ∧ wx.cell? ⟨b, off + 2, none⟩ = some (.int .i64 x.B) ∧ wx.cell? ⟨b, off + 3, none⟩ = some (.slice a x.tos.length c) ∧ Ints wx .i64 (.slice a x.tos.length c) x.tos := by
  obtain ⟨b, off, cap, u, hv, hc1, hc2, c0, c1, c2, c3, hto⟩ := h.open 0 (by simp)
  obtain ⟨o, ho, hr⟩ := run_tail1 elem_insv b off (x :: l).length cap (by simp)
  subst hv
  obtain ⟨a, c, rfl, -⟩ := id hto
  simp only [Nat.zero_mul, Nat.add_zero, List.getElem_cons_zero] at c0 c1 c2 c3 hto
  refine ⟨b, off, _, cap, o, rfl, by simp, hc1, hc2, hr, h.tail ho, fun wx hb => ⟨a, c, cell_below hb c0, cell_below hb c1, cell_below hb c2, cell_below hb c3, L1.below hto hb⟩⟩
theorem BodS.len {w : World} {v : Value} {l : List It} (h : BodS w v l) : slLen v = l.length := by
  obtain ⟨css, h1, ⟨ao, cap, rfl, _⟩, _⟩ := h
  rfl
/-- an append to a row of parts that is none of F -/
theorem KN.grown {F : Nat → Prop} {w w' : World} {base n : Nat} {v : Value} {cs : List Value} (ho : w.ownsRow base 216 1 v n cs) (hg : w.grownBy w' v.ownBlock) (hF : ∀ k, F k → v.ownBlock ≠ some k) : KN F w w' := by
  intro k hk hh
  refine hg.block k hk (fun e => ?_)
  rcases hh with hh | ⟨cs', fr, hh⟩
  · exact hF k hh e.symm
  · obtain ⟨cur, fr', h2⟩ := own_type ho e.symm
    rw [h2] at hh
    simp only [Option.some.injEq, Obj.cells.injEq] at hh
    exact absurd hh.2.1 (by decide)
theorem KN.trans {F : Nat → Prop} {a b c : World} (h : KN F a b) (g : KN F b c) (hs : a.heap.size ≤ b.heap.size) : KN F a c := by
  intro k hk hh
  have e := h k hk hh
  have e2 := g k (by omega) (by
    rcases hh with hh | ⟨cs, fr, hh⟩
    · exact .inl hh
    · exact .inr ⟨cs, fr, e.trans hh⟩)
  exact e2.trans e
theorem KN.sub {F G : Nat → Prop} {a b : World} (h : KN G a b) (hg : ∀ k, F k → G k) : KN F a b := fun k hk hh => h k hk (hh.imp (hg k) id)
theorem KN.set {F : Nat → Prop} {w : World} {N i : Nat} {ty : TypeId} {cs : List Value} (h : Blk w N ty cs) (hty : ty ≠ 2) (hN : ¬ F N) (v : Value) : KN F w (w.setCell ⟨N, i, none⟩ v) := by
  intro k hk hh
  refine Below.heap_setCell _ _ _ _ (fun e => ?_)
  simp only at e
  subst e
  rcases hh with hh | ⟨cs', fr, hh⟩
  · exact hN hh
  · unfold Blk at h
    rw [h] at hh
    simp only [Option.some.injEq, Obj.cells.injEq] at hh
    exact hty hh.2.1
/-- the own block of a row that grew -/
theorem grew_block {w w' : World} {v v' : Value} (h : Grew w v w' v') {k : Nat} (hk : v'.ownBlock = some k) : v.ownBlock = some k ∨ w.heap.size ≤ k := by
  rcases h.2 with e | ⟨j, e, hj⟩
  · exact .inl (by rw [← e]; exact hk)
  · rw [e] at hk; simp only [Option.some.injEq] at hk; subst hk; exact .inr hj
end Go.Proofs.Ytomaiolhaenmhaa
/-
  TREES OF BODIES: the reference's NestDeep. No condition beside the length.
-/
namespace Go.Proofs.Ytomaiolhaenmhaa
open Go.RowKit Go.Lib
attribute [local go_sem ↓] Go.wp_at_zero Go.wp_at_succ

theorem dp_drop {l : List It} {k : Nat} (hk : k < l.length) (q : Int × Int × Int) : dpL (l.drop k) q = dpL (l.drop (k + 1)) (dp1 q l[k].op) := by
  rw [List.drop_eq_getElem_cons hk, dp_cons]
set_option maxRecDepth 100000 in
set_option maxHeartbeats 4000000 in
theorem rndeep_any (w : World) (v : Value) (l : List It) (h : BodS w v l) (hl : l.length ≤ 200) :
    Calls Try.prog 71 #[v] w fun e w' => e = .returned (.tuple #[.int .i64 (dpL l (0, 0, 0)).2.1, .int .i64 (dpL l (0, 0, 0)).2.2]) ∧ Below w.heap.size w w' := by
  generalize hfin : dpL l (0, 0, 0) = fin
  have HFIN := hid (show dpL (l.drop 0) (0, 0, 0) = fin from hfin)
  have H := hid h
  obtain ⟨css, _, ⟨ao, cap, rfl, _⟩, _⟩ := h
  clear hfin
  go_enter Try.func71, Try.ntmps71
  go_wp2_with fail
  go_loopw [4, 5, 6, 11] (fun i1 i2 i3 i4 wr => ∃ (k : Nat) (o m a : Int), k ≤ l.length ∧ i1 = .int .i64 o ∧ i2 = .int .i64 m ∧ i3 = .int .i64 a ∧ i4 = .int .i64 k ∧ (-(k : Int) ≤ o ∧ o ≤ k) ∧ (0 ≤ m ∧ m ≤ k) ∧ (0 ≤ a ∧ a ≤ k) ∧ Hid (Below w.heap.size w wr) ∧ Hid (dpL (l.drop k) (o, m, a) = fin)) (fun _ _ _ i4 _ => l.length - (RowKit.intOf i4).toNat)
  case atStart => exact ⟨0, 0, 0, 0, Nat.zero_le _, rfl, rfl, rfl, rfl, by omega, by omega, by omega, hid (Below.refl _ _), HFIN⟩
  case round =>
    obtain ⟨k, o, m, a, hk, rfl, rfl, rfl, rfl, ho, hm, ha, BL, HF⟩ := hrel
    by_cases hlt : k < l.length
    · have hlt2 : (k : Int) < (l.length : Int) := by omega
      obtain ⟨b, off, cap', u, hv, _, _, c0, c1, c2, c3, hto⟩ := (H.out.below BL.out).open k hlt
      simp only [Value.slice.injEq] at hv
      obtain ⟨rfl, -, rfl⟩ := hv
      have HD := dp_drop hlt (o, m, a)
      rw [HF.out] at HD
      generalize l[k] = x at *
      obtain ⟨op, A, C, xs⟩ := x
      simp only at c0 c1 c2 c3 hto HD
      obtain ⟨au, cu, rfl, -⟩ := hto
      have X1 := hid (Blk.new wr #[.int .u8 op, .int .i64 A, .int .i64 C, .slice au xs.length cu] 90 _ rfl)
      have B1 := hid (BL.out.alloc BL.out.size (.cells #[.int .u8 op, .int .i64 A, .int .i64 C, .slice au xs.length cu] 90))
      have x0 := X1.out.cell (i := 0) rfl
      unfold dp1 at HD
      by_cases h1 : 2 ≤ op ∧ op ≤ 4
      · rw [if_pos h1] at HD
        have HD2 := hid HD.symm
        have h2 : (2 : Int) ≤ (op : Int) := by omega
        have h3 : (op : Int) ≤ 4 := by omega
        have h11 : ((op : Int) == 11) = false := by simp; omega
        have e1 : wrap64 (o + 1) = o + 1 := by unfold wrap64; omega
        have e2 : wrap64 (a + 1) = a + 1 := by unfold wrap64; omega
        clear HD h1
        go_wp2_with fail
        all_goals
          go_roundw
          case rel => exact ⟨k + 1, o + 1, max m (o + 1), a + 1, by omega, by go_num, by first | rfl | (congr 1; omega), by go_num, by go_num, by omega, by omega, by omega, B1, HD2⟩
          case measure => simp [RowKit.intOf]; omega
      · rw [if_neg h1] at HD
        by_cases h11' : op = 11
        · rw [if_pos h11'] at HD
          have HD2 := hid HD.symm
          have h3 : ¬ ((op : Int) ≤ 4) := by omega
          have h2 : (2 : Int) ≤ (op : Int) := by omega
          have h11 : ((op : Int) == 11) = true := by simp; omega
          have e1 : wrap64 (o - 1) = o - 1 := by unfold wrap64; omega
          clear HD h1 h11'
          go_wp2_with fail
          all_goals
            go_roundw
            case rel => exact ⟨k + 1, o - 1, max m (o - 1), a, by omega, by go_num, by first | rfl | (congr 1; omega), by go_num, by go_num, by omega, by omega, by omega, B1, HD2⟩
            case measure => simp [RowKit.intOf]; omega
        · rw [if_neg h11'] at HD
          have HD2 := hid HD.symm
          have h11 : ((op : Int) == 11) = false := by simp; omega
          by_cases h2' : 2 ≤ op
          · have h2 : (2 : Int) ≤ (op : Int) := by omega
            have h3 : ¬ ((op : Int) ≤ 4) := by omega
            clear HD h1 h11'
            go_wp2_with fail
            all_goals
              go_roundw
              case rel => exact ⟨k + 1, o, max m o, a, by omega, by go_num, by first | rfl | (congr 1; omega), by go_num, by go_num, by omega, by omega, by omega, B1, HD2⟩
              case measure => simp [RowKit.intOf]; omega
          · have h2 : ¬ ((2 : Int) ≤ (op : Int)) := by omega
            clear HD h1 h11'
            go_wp2_with fail
            all_goals
              go_roundw
              case rel => exact ⟨k + 1, o, max m o, a, by omega, by go_num, by first | rfl | (congr 1; omega), by go_num, by go_num, by omega, by omega, by omega, B1, HD2⟩
              case measure => simp [RowKit.intOf]; omega
    · obtain rfl : k = l.length := by omega
      have hnl : ¬ ((l.length : Int) < (l.length : Int)) := by omega
      have HX : (o, m, a) = fin := by rw [← HF.out, List.drop_length]; rfl
      subst HX
      go_wp2_with fail
      go_ret2
      exact ⟨rfl, BL.out⟩
end Go.Proofs.Ytomaiolhaenmhaa
/-
  SameAll AT troupe/api.Ins, BY ITS CLOSURE: lists whose elements are the same, one by one, are the same. Conditions: readings. Printed by a program of mine.
-/
namespace Go.Proofs.Ytomaiolhaenmhaa
open Go.RowKit Go.Lib
attribute [local go_sem ↓] Go.wp_at_zero Go.wp_at_succ

set_option maxRecDepth 100000 in
set_option maxHeartbeats 2000000 in
theorem sameAll_SaI (w : World) (va vb : Value) (ca cb : List (List Value)) (hl : ca.length = cb.length) (hla : ∀ c ∈ ca, c.length = 4) (hlb : ∀ c ∈ cb, c.length = 4) (ha : Sl w va ca.length ca.flatten) (hb : Sl w vb cb.length cb.flatten)
    (hs : ∀ i (h1 : i < ca.length) (h2 : i < cb.length) (w' : World), Below w.heap.size w w' → Calls Try.prog 51 #[.agg ca[i].toArray, .agg cb[i].toArray] w' fun e w2 => e = .returned (.bool true) ∧ Below w'.heap.size w' w2) :
    Calls Try.prog 136 #[va, vb, .func (.func 51) #[] #[]] w fun e w' => e = .returned (.bool true) ∧ Below w.heap.size w w' := by
  rcases sm_open (s := 4) (by decide) hla ha with ⟨ao, cap, rfl, h0⟩ | ⟨b, off, cap, rfl, h0, hcap, hm, hca⟩
  · have hb0 : cb.length = 0 := by omega
    obtain ⟨ao', cap', rfl, _, _, _, _⟩ := hb
    rw [hb0]
    clear hs hb0 hl hla hlb ha h0
    go_enter Try.func136, Try.ntmps136
    go_wp2
    refine wp_loop_rounds 1 ?_; rw [rounds_succ]; go_wp2
    go_ret
    exact ⟨rfl, Below.refl _ _⟩
  rcases sm_open (s := 4) (by decide) hlb hb with ⟨ao', cap', rfl, h0'⟩ | ⟨b', off', cap', rfl, h0', hcap', hm', hcb⟩
  · omega
  have hne : ((ca.length : Int) != cb.length) = false := by simp [hl]
  have HL := hid hl
  have HCA := hid hca
  have HCB := hid hcb
  have HS := hid hs
  have HLA := hid hla
  have HLB := hid hlb
  clear hl hca hcb hs hla hlb ha hb
  go_enter Try.func136, Try.ntmps136
  go_wp2
  go_loopw [15] (fun i wr => ∃ k : Nat, k ≤ ca.length ∧ i = .int .i64 k ∧ Hid (Below w.heap.size w wr)) (fun i _ => ca.length - (RowKit.intOf i).toNat)
  case atStart => exact ⟨0, Nat.zero_le _, rfl, hid (Below.refl _ _)⟩
  case round =>
    obtain ⟨k, hk, rfl, HB⟩ := hrel
    by_cases hlt : k < ca.length
    · have hlt' : k < cb.length := by have := HL.out; omega
      have hh := HS.out k hlt hlt' wr.drew (below_dr HB.out)
      obtain ⟨c0, c1, c2, c3, hea⟩ := sm_split4 (HLA.out _ (List.getElem_mem hlt))
      obtain ⟨d0, d1, d2, d3, heb⟩ := sm_split4 (HLB.out _ (List.getElem_mem hlt'))
      rw [hea, heb] at hh
      have HH := hid hh
      have HEA := hid hea
      have HEB := hid heb
      have e0 : wr.drew.cell? ⟨b, off + k * 4, none⟩ = some c0 := sm_at HCA.out (below_dr HB.out) hlt HLA.out hea (f := 0) rfl
      have e1 : wr.drew.cell? ⟨b, off + k * 4 + 1, none⟩ = some c1 := sm_at HCA.out (below_dr HB.out) hlt HLA.out hea (f := 1) rfl
      have e2 : wr.drew.cell? ⟨b, off + k * 4 + 2, none⟩ = some c2 := sm_at HCA.out (below_dr HB.out) hlt HLA.out hea (f := 2) rfl
      have e3 : wr.drew.cell? ⟨b, off + k * 4 + 3, none⟩ = some c3 := sm_at HCA.out (below_dr HB.out) hlt HLA.out hea (f := 3) rfl
      have f0 : wr.drew.cell? ⟨b', off' + k * 4, none⟩ = some d0 := sm_at HCB.out (below_dr HB.out) hlt' HLB.out heb (f := 0) rfl
      have f1 : wr.drew.cell? ⟨b', off' + k * 4 + 1, none⟩ = some d1 := sm_at HCB.out (below_dr HB.out) hlt' HLB.out heb (f := 1) rfl
      have f2 : wr.drew.cell? ⟨b', off' + k * 4 + 2, none⟩ = some d2 := sm_at HCB.out (below_dr HB.out) hlt' HLB.out heb (f := 2) rfl
      have f3 : wr.drew.cell? ⟨b', off' + k * 4 + 3, none⟩ = some d3 := sm_at HCB.out (below_dr HB.out) hlt' HLB.out heb (f := 3) rfl
      clear hh hea heb
      have hi0 : (0 : Int) ≤ (k : Int) := by omega
      have hi1 : (k : Int) < (ca.length : Int) := by omega
      have hi2 : (k : Int) < (cb.length : Int) := by omega
      go_wp2_with fail
      go_region_held3 (fun w' => w'.cell? ⟨b, off + k * 4, none⟩ = some c0 ∧ w'.cell? ⟨b, off + k * 4 + 1, none⟩ = some c1 ∧ w'.cell? ⟨b, off + k * 4 + 2, none⟩ = some c2 ∧ w'.cell? ⟨b, off + k * 4 + 3, none⟩ = some c3 ∧ w'.cell? ⟨b', off' + k * 4, none⟩ = some d0 ∧ w'.cell? ⟨b', off' + k * 4 + 1, none⟩ = some d1 ∧ w'.cell? ⟨b', off' + k * 4 + 2, none⟩ = some d2 ∧ w'.cell? ⟨b', off' + k * 4 + 3, none⟩ = some d3) (first | exact ⟨e0, e1, e2, e3, f0, f1, f2, f3⟩ | exact ⟨sm_at HCA.out HB3.out hlt HLA.out HEA.out (f := 0) rfl, sm_at HCA.out HB3.out hlt HLA.out HEA.out (f := 1) rfl, sm_at HCA.out HB3.out hlt HLA.out HEA.out (f := 2) rfl, sm_at HCA.out HB3.out hlt HLA.out HEA.out (f := 3) rfl, sm_at HCB.out HB3.out hlt' HLB.out HEB.out (f := 0) rfl, sm_at HCB.out HB3.out hlt' HLB.out HEB.out (f := 1) rfl, sm_at HCB.out HB3.out hlt' HLB.out HEB.out (f := 2) rfl, sm_at HCB.out HB3.out hlt' HLB.out HEB.out (f := 3) rfl⟩ | go_keep) (first | (go_at_call 51; (with_reducible refine HH.out.mono ?_); rintro r w3 ⟨rfl, h1⟩; have HB3 := hid (HB.out.trans ((below_dr (Below.refl wr.heap.size wr)).trans h1 |>.mono HB.out.size)); clear h1))
      all_goals
        go_wp2_with fail
        go_roundw
        case rel => exact ⟨k + 1, by omega, by go_num, HB3⟩
        case measure => simp [RowKit.intOf]; omega
    · go_wp2
      go_ret
      exact ⟨rfl, HB.out⟩
end Go.Proofs.Ytomaiolhaenmhaa
