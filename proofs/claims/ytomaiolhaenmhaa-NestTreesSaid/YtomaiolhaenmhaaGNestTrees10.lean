/-
  TREES OF BODIES: flat, of every kind of part; Flat. Printed by a program of mine. No condition beside lengths.
-/
import Derived.Test.YtomaiolhaenmhaaGNestTrees9
namespace Go.Proofs.Ytomaiolhaenmhaa
open Go.RowKit Go.Lib
attribute [local go_sem ↓] Go.wp_at_zero Go.wp_at_succ

def FlatP (w0 w : World) (l : List It) (e : Ending) (w' : World) : Prop := ∃ lv, e = .returned lv ∧ OwnB w' w0.heap.size lv l ∧ Below w0.heap.size w0 w' ∧ KT 90 w w'
theorem OwnB.pushN {w w' : World} {base n : Nat} {v v' : Value} {l : List It} {css : List (List Value)} (hn : n = l.length) (h1 : Its w base css l) (h2 : w.ownsRow base 90 4 v n css.flatten) {op : Nat} {A B : Int} {u : Value} {xs : List Int} (hu : OwnI w base .i64 2 u xs)
    (hg : w.grownBy w' v.ownBlock) (ho : w'.ownsRow base 90 4 v' (n + 1) (css.flatten ++ [.int .u8 op, .int .i64 A, .int .i64 B, u])) : OwnB w' base v' (l ++ [⟨op, A, B, xs⟩]) := by
  subst hn
  exact OwnB.push h1 h2 hu hg ho
/-- a part's flat writes these -/
def FlatC (w0 : World) (v : Value) (xs : List It) : Prop :=
  (∃ r, v = .iface 263 r ∧ ∀ (w : World) (lv : Value) (l : List It), Below w0.heap.size w0 w → OwnB w w0.heap.size lv l → l.length + xs.length ≤ 1000 → Calls Try.prog 218 #[r, lv] w fun e w' => FlatP w0 w (l ++ xs) e w') ∨
  (∃ r, v = .iface 259 r ∧ ∀ (w : World) (lv : Value) (l : List It), Below w0.heap.size w0 w → OwnB w w0.heap.size lv l → l.length + xs.length ≤ 1000 → Calls Try.prog 216 #[r, lv] w fun e w' => FlatP w0 w (l ++ xs) e w') ∨
  (∃ r, v = .iface 261 r ∧ ∀ (w : World) (lv : Value) (l : List It), Below w0.heap.size w0 w → OwnB w w0.heap.size lv l → l.length + xs.length ≤ 1000 → Calls Try.prog 217 #[r, lv] w fun e w' => FlatP w0 w (l ++ xs) e w')
theorem meth_single (r : Value) (w : World) : (method (Try.prog.types.size + Made.depth) 263 r "troupe/nest.flat").run Try.prog w = .ok (218, r) w := by kernel_rfl
theorem meth_block (r : Value) (w : World) : (method (Try.prog.types.size + Made.depth) 259 r "troupe/nest.flat").run Try.prog w = .ok (216, r) w := by kernel_rfl
theorem meth_choice (r : Value) (w : World) : (method (Try.prog.types.size + Made.depth) 261 r "troupe/nest.flat").run Try.prog w = .ok (217, r) w := by kernel_rfl

set_option maxRecDepth 100000 in
set_option maxHeartbeats 1000000 in
theorem flat_single (w0 : World) (x : It) (u : Value) (hx : ItS x) (hu0 : OwnI w0 0 .i64 2 u x.tos) (w : World) (lv : Value) (l : List It) (hb : Below w0.heap.size w0 w) (ho : OwnB w w0.heap.size lv l) (hl : l.length + ([x]).length ≤ 1000) :
    Calls Try.prog 218 #[singleV x u, lv] w fun e w' => FlatP w0 w (l ++ [x]) e w' := by
  obtain ⟨css0, its0, own0⟩ := id ho
  obtain ⟨ao0, cap0, rfl, -⟩ := own_sl own0
  clear its0 own0
  have HB := hid hb
  have HO := hid ho
  simp only [List.length_cons, List.length_nil] at hl
  obtain ⟨au, cu, rfl, -⟩ := own_sl hu0
  unfold FlatP
  clear hb ho
  have X1 := hid (Blk.new w #[.int .u8 x.op, .int .i64 x.A, .int .i64 x.B, .slice au x.tos.length cu] 263 _ rfl)
  have BA := hid ((Below.refl w.heap.size w).alloc (Nat.le_refl _) (.cells #[.int .u8 x.op, .int .i64 x.A, .int .i64 x.B, .slice au x.tos.length cu] 263))
  have B1 := hid (HB.out.trans (BA.out.mono HB.out.size))
  have K1 := hid (KT.below (bad := 90) BA.out)
  have O1 := hid (HO.out.below BA.out)
  have x0 := X1.out.cell (i := 0) rfl
  have x1 := X1.out.cell (i := 1) rfl
  have x2 := X1.out.cell (i := 2) rfl
  have x3 := X1.out.cell (i := 3) rfl
  have HC := hid (copied_any (w.alloc (.cells #[.int .u8 x.op, .int .i64 x.A, .int .i64 x.B, .slice au x.tos.length cu] 263)) x (.slice au x.tos.length cu) hx.2 (OwnI.ints (OwnI.below (OwnI.below hu0 HB.out) BA.out)))
  clear hu0 hx
  go_enter Try.func218, Try.ntmps218
  go_wp2_with fail
  refine HC.out.mono ?_
  rintro q w2 ⟨a2, k2, rfl, ho2, hb2⟩
  have B2 := hid (B1.out.trans (hb2.mono B1.out.size))
  have O2 := hid (O1.out.below hb2)
  have K2 := hid (K1.out.trans (KT.below (bad := 90) hb2))
  have HU2 := hid (own_mono' ho2 B1.out.size)
  have X2 := hid (X1.out.below hb2)
  clear ho2 hb2 x0 x1 x2 x3
  obtain ⟨css3, its3, own3⟩ := O2.out
  have ITS3 := hid its3
  have OWN3 := hid own3
  have hsz3 := B2.out.size
  clear its3 own3
  go_wp2_with (at_builtin; go_must (refine app_one elem_insv (base := w0.heap.size) (cs := [.int .u8 x.op, .int .i64 x.A, .int .i64 x.B, .slice a2 x.tos.length k2]) rfl _ _ rfl rfl rfl rfl OWN3.out rfl (by intro c hc; simp at hc; rcases hc with rfl | rfl | rfl | rfl <;> rfl) (by omega) (by omega) hsz3 ?_); intro lv3 w3 ho3 hb3 hg3; have O3 := hid (OwnB.push ITS3.out OWN3.out HU2.out hg3.1 ho3); have B3 := hid (B2.out.trans hb3); have KK3 := hid (KT.grown hg3.1 OWN3.out); have K3 := hid (K2.out.trans KK3.out); obtain ⟨an3, cn3, rfl, -⟩ := own_sl ho3; clear ho3 hb3 hg3 hsz3; have X3 := hid (KK3.out.blk X2.out rfl))
  first | go_wp2_with fail | skip
  go_ret
  exact ⟨_, rfl, O3.out, B3.out, K3.out⟩

set_option maxRecDepth 100000 in
set_option maxHeartbeats 4000000 in
theorem flat_block (w0 : World) (F : Nat → Prop) (x : It) (u t : Value) (ps : List Nd) (hx : ItS x) (hu0 : OwnI w0 0 .i64 2 u x.tos) (hr : RowF w0 F t ps) (ih : ∀ p ∈ ps, FlatC w0 p.1 p.2.1) (w : World) (lv : Value) (l : List It) (hb : Below w0.heap.size w0 w) (ho : OwnB w w0.heap.size lv l) (hl : l.length + (x :: (cat ps ++ [endI])).length ≤ 1000) :
    Calls Try.prog 216 #[blockV x u t, lv] w fun e w' => FlatP w0 w (l ++ x :: (cat ps ++ [endI])) e w' := by
  obtain ⟨css0, its0, own0⟩ := id ho
  obtain ⟨ao0, cap0, rfl, -⟩ := own_sl own0
  clear its0 own0
  have HB := hid hb
  have HO := hid ho
  simp only [List.length_cons, List.length_append, List.length_nil] at hl
  obtain ⟨au, cu, rfl, -⟩ := own_sl hu0
  unfold FlatP
  obtain ⟨at1, ct1, rfl⟩ := hr.open
  have IH := hid ih
  have HR := hid hr
  clear hb ho ih hr
  have X1 := hid (Blk.new w #[.int .u8 x.op, .int .i64 x.A, .int .i64 x.B, .slice au x.tos.length cu, .slice at1 ps.length ct1] 259 _ rfl)
  have BA := hid ((Below.refl w.heap.size w).alloc (Nat.le_refl _) (.cells #[.int .u8 x.op, .int .i64 x.A, .int .i64 x.B, .slice au x.tos.length cu, .slice at1 ps.length ct1] 259))
  have B1 := hid (HB.out.trans (BA.out.mono HB.out.size))
  have K1 := hid (KT.below (bad := 90) BA.out)
  have O1 := hid (HO.out.below BA.out)
  have x0 := X1.out.cell (i := 0) rfl
  have x1 := X1.out.cell (i := 1) rfl
  have x2 := X1.out.cell (i := 2) rfl
  have x3 := X1.out.cell (i := 3) rfl
  have x4 := X1.out.cell (i := 4) rfl
  have HC := hid (copied_any (w.alloc (.cells #[.int .u8 x.op, .int .i64 x.A, .int .i64 x.B, .slice au x.tos.length cu, .slice at1 ps.length ct1] 259)) x (.slice au x.tos.length cu) hx.2 (OwnI.ints (OwnI.below (OwnI.below hu0 HB.out) BA.out)))
  clear hu0 hx
  go_enter Try.func216, Try.ntmps216
  go_wp2_with fail
  refine HC.out.mono ?_
  rintro q w2 ⟨a2, k2, rfl, ho2, hb2⟩
  have B2 := hid (B1.out.trans (hb2.mono B1.out.size))
  have O2 := hid (O1.out.below hb2)
  have K2 := hid (K1.out.trans (KT.below (bad := 90) hb2))
  have HU2 := hid (own_mono' ho2 B1.out.size)
  have X2 := hid (X1.out.below hb2)
  clear ho2 hb2 x0 x1 x2 x3 x4
  obtain ⟨css3, its3, own3⟩ := O2.out
  have ITS3 := hid its3
  have OWN3 := hid own3
  have hsz3 := B2.out.size
  clear its3 own3
  go_wp2_with (at_builtin; go_must (refine app_one elem_insv (base := w0.heap.size) (cs := [.int .u8 x.op, .int .i64 x.A, .int .i64 x.B, .slice a2 x.tos.length k2]) rfl _ _ rfl rfl rfl rfl OWN3.out rfl (by intro c hc; simp at hc; rcases hc with rfl | rfl | rfl | rfl <;> rfl) (by omega) (by omega) hsz3 ?_); intro lv3 w3 ho3 hb3 hg3; have O3 := hid (OwnB.push ITS3.out OWN3.out HU2.out hg3.1 ho3); have B3 := hid (B2.out.trans hb3); have KK3 := hid (KT.grown hg3.1 OWN3.out); have K3 := hid (K2.out.trans KK3.out); obtain ⟨an3, cn3, rfl, -⟩ := own_sl ho3; clear ho3 hb3 hg3 hsz3; have X3 := hid (KK3.out.blk X2.out rfl); have x4 := X3.out.cell (i := 4) rfl)
  first | go_wp2_with fail | skip
  go_loopw [1, 16] (fun i j wr => ∃ k : Nat, k ≤ ps.length ∧ j = .int .i64 k ∧ Hid (OwnB wr w0.heap.size i ((l ++ [x]) ++ cat (ps.take k))) ∧ Hid (Below w0.heap.size w0 wr) ∧ Hid (KT 90 w wr)) (fun _ j _ => ps.length - (RowKit.intOf j).toNat)
  case atStart => exact ⟨0, Nat.zero_le _, rfl, hid (by rw [List.take_zero, show cat [] = [] from rfl, List.append_nil]; exact O3.out), B3, K3⟩
  case round =>
    obtain ⟨k, hk, rfl, OL, BL, KL⟩ := hrel
    obtain ⟨cssl, itsl, ownl⟩ := OL.out
    obtain ⟨aol, capl, rfl, -⟩ := own_sl ownl
    clear itsl ownl
    by_cases hlt : k < ps.length
    · have hlt2 : (k : Int) < (ps.length : Int) := by omega
      obtain ⟨g, cg, hv, _, _, hcell⟩ := RowF.at HR.out k hlt
      simp only [Value.slice.injEq] at hv
      obtain ⟨rfl, -, rfl⟩ := hv
      have hcw := cell_below BL.out hcell
      have hple : (cat (ps.take k)).length + ps[k].2.1.length ≤ (cat ps).length := by
        have := cat_take_le ps (k + 1)
        rw [cat_take hlt, List.length_append] at this
        exact this
      have HLE := hid (show ((l ++ [x]) ++ cat (ps.take k)).length + ps[k].2.1.length ≤ 1000 from by simp only [List.length_append, List.length_cons, List.length_nil]; omega)
      have hfc := IH.out ps[k] (List.getElem_mem hlt)
      have HCT := hid (cat_take hlt)
      clear hcell hple
      generalize ps[k] = p at *
      obtain ⟨pv, pxs, pd, pn⟩ := p
      simp only at hcw hfc HCT HLE
      rcases hfc with ⟨rv, rfl, hc⟩ | ⟨rv, rfl, hc⟩ | ⟨rv, rfl, hc⟩
      · have HC := hid (hc wr _ _ BL.out OL.out HLE.out)
        clear hc
        generalize ((l ++ [x]) ++ cat (ps.take k)).length = m at *
        go_wp2_with fail
        refine HC.out.mono ?_
        rintro q wn ⟨lvn, rfl, on, bn, kn⟩
        have ON := hid on
        have BN := hid bn
        have KN2 := hid (KL.out.trans kn)
        clear on bn kn
        go_wp2_with fail
        go_roundw
        case rel => exact ⟨k + 1, by omega, by go_num, hid (by rw [HCT.out, ← List.append_assoc]; exact ON.out), BN, KN2⟩
        case measure => simp [RowKit.intOf]; omega
      · have HC := hid (hc wr _ _ BL.out OL.out HLE.out)
        clear hc
        generalize ((l ++ [x]) ++ cat (ps.take k)).length = m at *
        go_wp2_with fail
        refine HC.out.mono ?_
        rintro q wn ⟨lvn, rfl, on, bn, kn⟩
        have ON := hid on
        have BN := hid bn
        have KN2 := hid (KL.out.trans kn)
        clear on bn kn
        go_wp2_with fail
        go_roundw
        case rel => exact ⟨k + 1, by omega, by go_num, hid (by rw [HCT.out, ← List.append_assoc]; exact ON.out), BN, KN2⟩
        case measure => simp [RowKit.intOf]; omega
      · have HC := hid (hc wr _ _ BL.out OL.out HLE.out)
        clear hc
        generalize ((l ++ [x]) ++ cat (ps.take k)).length = m at *
        go_wp2_with fail
        refine HC.out.mono ?_
        rintro q wn ⟨lvn, rfl, on, bn, kn⟩
        have ON := hid on
        have BN := hid bn
        have KN2 := hid (KL.out.trans kn)
        clear on bn kn
        go_wp2_with fail
        go_roundw
        case rel => exact ⟨k + 1, by omega, by go_num, hid (by rw [HCT.out, ← List.append_assoc]; exact ON.out), BN, KN2⟩
        case measure => simp [RowKit.intOf]; omega
    · obtain rfl : k = ps.length := by omega
      have hLM0 : ((l ++ [x]) ++ cat (ps.take ps.length)).length + 1 ≤ 1000 := by rw [List.take_of_length_le (Nat.le_refl _)]; simp only [List.length_append, List.length_cons, List.length_nil]; omega
      generalize ((l ++ [x]) ++ cat (ps.take ps.length)).length = m at *
      rw [List.take_of_length_le (Nat.le_refl _)] at OL
      have hnl : ¬ ((ps.length : Int) < (ps.length : Int)) := by omega
      obtain ⟨css9, its9, own9⟩ := OL.out
      have hml9 : m = _ := OL.out.len
      rw [← hml9] at own9
      have HML9 := hid hml9
      clear hml9
      have ITS9 := hid its9
      have OWN9 := hid own9
      have hsz9 := BL.out.size
      clear its9 own9
      go_wp2_with (at_builtin; go_must (refine app_one elem_insv (base := w0.heap.size) (cs := [.int .u8 11, .int .i64 0, .int .i64 0, .slice none 0 0]) rfl _ _ rfl rfl rfl rfl OWN9.out rfl (by intro c hc; simp at hc; rcases hc with rfl | rfl | rfl | rfl <;> rfl) (by omega) (by omega) hsz9 ?_); intro lv9 w9 ho9 hb9 hg9; have O9 := hid (OwnB.pushN HML9.out ITS9.out OWN9.out (OwnI.nil _ _ _ _) hg9.1 ho9); have B9 := hid (BL.out.trans hb9); have KK9 := hid (KT.grown hg9.1 OWN9.out); have K9 := hid (KL.out.trans KK9.out); obtain ⟨an9, cn9, rfl, -⟩ := own_sl ho9; clear ho9 hb9 hg9 hsz9)
      first | go_wp2_with fail | skip
      have HX := hid (O9.out)
      rw [show l ++ [x] ++ cat ps ++ [(⟨11, 0, 0, []⟩ : It)] = l ++ x :: (cat ps ++ [endI]) by simp [endI]] at HX
      go_ret
      exact ⟨_, rfl, HX.out, B9.out, K9.out⟩

set_option maxRecDepth 100000 in
set_option maxHeartbeats 1000000 in
theorem flat_half (w0 : World) (F : Nat → Prop) (x : It) (u t : Value) (ps : List Nd) (hx : ItS x) (hu0 : OwnI w0 0 .i64 2 u x.tos) (hr : RowF w0 F t ps) (ih : ∀ p ∈ ps, FlatC w0 p.1 p.2.1) (w : World) (lv : Value) (l : List It) (hb : Below w0.heap.size w0 w) (ho : OwnB w w0.heap.size lv l) (hl : l.length + (x :: (cat ps ++ [endI])).length ≤ 1000) :
    Calls Try.prog 217 #[choiceV x u t (.slice none 0 0) false, lv] w fun e w' => FlatP w0 w (l ++ x :: (cat ps ++ [endI])) e w' := by
  have HB := hid hb
  have HO := hid ho
  obtain ⟨au, cu, rfl, -⟩ := own_sl hu0
  obtain ⟨at1, ct1, rfl⟩ := hr.open
  have X1 := hid (Blk.new w #[.int .u8 x.op, .int .i64 x.A, .int .i64 x.B, .slice au x.tos.length cu, .slice at1 ps.length ct1, .slice none 0 0, .bool false] 261 _ rfl)
  have BA := hid ((Below.refl w.heap.size w).alloc (Nat.le_refl _) (.cells #[.int .u8 x.op, .int .i64 x.A, .int .i64 x.B, .slice au x.tos.length cu, .slice at1 ps.length ct1, .slice none 0 0, .bool false] 261))
  have B1 := hid (HB.out.trans (BA.out.mono HB.out.size))
  have K1 := hid (KT.below (bad := 90) BA.out)
  have O1 := hid (HO.out.below BA.out)
  have x0 := X1.out.cell (i := 0) rfl
  have x1 := X1.out.cell (i := 1) rfl
  have x2 := X1.out.cell (i := 2) rfl
  have x3 := X1.out.cell (i := 3) rfl
  have x4 := X1.out.cell (i := 4) rfl
  have x5 := X1.out.cell (i := 5) rfl
  have x6 := X1.out.cell (i := 6) rfl
  have HC := hid (flat_block w0 F x (.slice au x.tos.length cu) (.slice at1 ps.length ct1) ps hx hu0 hr ih (w.alloc (.cells #[.int .u8 x.op, .int .i64 x.A, .int .i64 x.B, .slice au x.tos.length cu, .slice at1 ps.length ct1, .slice none 0 0, .bool false] 261)) lv l B1.out O1.out hl)
  unfold FlatP at HC ⊢
  obtain ⟨css, its, own⟩ := ho
  obtain ⟨ao, cap, rfl, -⟩ := own_sl own
  clear its own hb hr ih hu0 hl
  go_enter Try.func217, Try.ntmps217
  go_wp2_with fail
  refine HC.out.mono ?_
  rintro q w2 ⟨lv2, rfl, on, bn, kn⟩
  have ON := hid on
  have BN := hid bn
  have KN2 := hid (K1.out.trans kn)
  clear on bn kn
  go_wp2_with fail
  go_ret
  exact ⟨_, rfl, ON.out, BN.out, KN2.out⟩

set_option maxRecDepth 100000 in
set_option maxHeartbeats 8000000 in
theorem flat_both (w0 : World) (F : Nat → Prop) (x : It) (u t o : Value) (ps qs : List Nd) (hx : ItS x) (hu0 : OwnI w0 0 .i64 2 u x.tos) (hr : RowF w0 F t ps) (ih : ∀ p ∈ ps, FlatC w0 p.1 p.2.1) (hr2 : RowF w0 F o qs) (ih2 : ∀ p ∈ qs, FlatC w0 p.1 p.2.1) (w : World) (lv : Value) (l : List It) (hb : Below w0.heap.size w0 w) (ho : OwnB w w0.heap.size lv l) (hl : l.length + (x :: (cat ps ++ elseI :: (cat qs ++ [endI]))).length ≤ 1000) :
    Calls Try.prog 217 #[choiceV x u t o true, lv] w fun e w' => FlatP w0 w (l ++ x :: (cat ps ++ elseI :: (cat qs ++ [endI]))) e w' := by
  obtain ⟨css0, its0, own0⟩ := id ho
  obtain ⟨ao0, cap0, rfl, -⟩ := own_sl own0
  clear its0 own0
  have HB := hid hb
  have HO := hid ho
  simp only [List.length_cons, List.length_append, List.length_nil] at hl
  obtain ⟨au, cu, rfl, -⟩ := own_sl hu0
  unfold FlatP
  obtain ⟨at1, ct1, rfl⟩ := hr.open
  obtain ⟨at2, ct2, rfl⟩ := hr2.open
  have IH := hid ih
  have HR := hid hr
  have IH2 := hid ih2
  have HR2 := hid hr2
  clear hb ho ih hr ih2 hr2
  have X1 := hid (Blk.new w #[.int .u8 x.op, .int .i64 x.A, .int .i64 x.B, .slice au x.tos.length cu, .slice at1 ps.length ct1, .slice at2 qs.length ct2, .bool true] 261 _ rfl)
  have BA := hid ((Below.refl w.heap.size w).alloc (Nat.le_refl _) (.cells #[.int .u8 x.op, .int .i64 x.A, .int .i64 x.B, .slice au x.tos.length cu, .slice at1 ps.length ct1, .slice at2 qs.length ct2, .bool true] 261))
  have B1 := hid (HB.out.trans (BA.out.mono HB.out.size))
  have K1 := hid (KT.below (bad := 90) BA.out)
  have O1 := hid (HO.out.below BA.out)
  have x0 := X1.out.cell (i := 0) rfl
  have x1 := X1.out.cell (i := 1) rfl
  have x2 := X1.out.cell (i := 2) rfl
  have x3 := X1.out.cell (i := 3) rfl
  have x4 := X1.out.cell (i := 4) rfl
  have x5 := X1.out.cell (i := 5) rfl
  have x6 := X1.out.cell (i := 6) rfl
  have HC := hid (copied_any (w.alloc (.cells #[.int .u8 x.op, .int .i64 x.A, .int .i64 x.B, .slice au x.tos.length cu, .slice at1 ps.length ct1, .slice at2 qs.length ct2, .bool true] 261)) x (.slice au x.tos.length cu) hx.2 (OwnI.ints (OwnI.below (OwnI.below hu0 HB.out) BA.out)))
  clear hu0 hx
  go_enter Try.func217, Try.ntmps217
  go_wp2_with fail
  refine HC.out.mono ?_
  rintro q w2 ⟨a2, k2, rfl, ho2, hb2⟩
  have B2 := hid (B1.out.trans (hb2.mono B1.out.size))
  have O2 := hid (O1.out.below hb2)
  have K2 := hid (K1.out.trans (KT.below (bad := 90) hb2))
  have HU2 := hid (own_mono' ho2 B1.out.size)
  have X2 := hid (X1.out.below hb2)
  clear ho2 hb2 x0 x1 x2 x3 x4 x5 x6
  obtain ⟨css3, its3, own3⟩ := O2.out
  have ITS3 := hid its3
  have OWN3 := hid own3
  have hsz3 := B2.out.size
  clear its3 own3
  go_wp2_with (at_builtin; go_must (refine app_one elem_insv (base := w0.heap.size) (cs := [.int .u8 x.op, .int .i64 x.A, .int .i64 x.B, .slice a2 x.tos.length k2]) rfl _ _ rfl rfl rfl rfl OWN3.out rfl (by intro c hc; simp at hc; rcases hc with rfl | rfl | rfl | rfl <;> rfl) (by omega) (by omega) hsz3 ?_); intro lv3 w3 ho3 hb3 hg3; have O3 := hid (OwnB.push ITS3.out OWN3.out HU2.out hg3.1 ho3); have B3 := hid (B2.out.trans hb3); have KK3 := hid (KT.grown hg3.1 OWN3.out); have K3 := hid (K2.out.trans KK3.out); obtain ⟨an3, cn3, rfl, -⟩ := own_sl ho3; clear ho3 hb3 hg3 hsz3; have X3 := hid (KK3.out.blk X2.out rfl); have x4 := X3.out.cell (i := 4) rfl)
  first | go_wp2_with fail | skip
  go_loopw [1, 27] (fun i j wr => ∃ k : Nat, k ≤ ps.length ∧ j = .int .i64 k ∧ Hid (OwnB wr w0.heap.size i ((l ++ [x]) ++ cat (ps.take k))) ∧ Hid (Below w0.heap.size w0 wr) ∧ Hid (KT 90 w wr) ∧ Hid (KT 90 w3 wr)) (fun _ j _ => ps.length - (RowKit.intOf j).toNat)
  case atStart => exact ⟨0, Nat.zero_le _, rfl, hid (by rw [List.take_zero, show cat [] = [] from rfl, List.append_nil]; exact O3.out), B3, K3, hid (KT.below (Below.refl _ _))⟩
  case round =>
    obtain ⟨k, hk, rfl, OL, BL, KL, KL2⟩ := hrel
    obtain ⟨cssl, itsl, ownl⟩ := OL.out
    obtain ⟨aol, capl, rfl, -⟩ := own_sl ownl
    clear itsl ownl
    by_cases hlt : k < ps.length
    · have hlt2 : (k : Int) < (ps.length : Int) := by omega
      obtain ⟨g, cg, hv, _, _, hcell⟩ := RowF.at HR.out k hlt
      simp only [Value.slice.injEq] at hv
      obtain ⟨rfl, -, rfl⟩ := hv
      have hcw := cell_below BL.out hcell
      have hple : (cat (ps.take k)).length + ps[k].2.1.length ≤ (cat ps).length := by
        have := cat_take_le ps (k + 1)
        rw [cat_take hlt, List.length_append] at this
        exact this
      have HLE := hid (show ((l ++ [x]) ++ cat (ps.take k)).length + ps[k].2.1.length ≤ 1000 from by simp only [List.length_append, List.length_cons, List.length_nil]; omega)
      have hfc := IH.out ps[k] (List.getElem_mem hlt)
      have HCT := hid (cat_take hlt)
      clear hcell hple
      generalize ps[k] = p at *
      obtain ⟨pv, pxs, pd, pn⟩ := p
      simp only at hcw hfc HCT HLE
      rcases hfc with ⟨rv, rfl, hc⟩ | ⟨rv, rfl, hc⟩ | ⟨rv, rfl, hc⟩
      · have HC := hid (hc wr _ _ BL.out OL.out HLE.out)
        clear hc
        generalize ((l ++ [x]) ++ cat (ps.take k)).length = m at *
        go_wp2_with fail
        refine HC.out.mono ?_
        rintro q wn ⟨lvn, rfl, on, bn, kn⟩
        have ON := hid on
        have BN := hid bn
        have KN2 := hid (KL.out.trans kn)
        have KN3 := hid (KL2.out.trans kn)
        clear on bn kn
        go_wp2_with fail
        go_roundw
        case rel => exact ⟨k + 1, by omega, by go_num, hid (by rw [HCT.out, ← List.append_assoc]; exact ON.out), BN, KN2, KN3⟩
        case measure => simp [RowKit.intOf]; omega
      · have HC := hid (hc wr _ _ BL.out OL.out HLE.out)
        clear hc
        generalize ((l ++ [x]) ++ cat (ps.take k)).length = m at *
        go_wp2_with fail
        refine HC.out.mono ?_
        rintro q wn ⟨lvn, rfl, on, bn, kn⟩
        have ON := hid on
        have BN := hid bn
        have KN2 := hid (KL.out.trans kn)
        have KN3 := hid (KL2.out.trans kn)
        clear on bn kn
        go_wp2_with fail
        go_roundw
        case rel => exact ⟨k + 1, by omega, by go_num, hid (by rw [HCT.out, ← List.append_assoc]; exact ON.out), BN, KN2, KN3⟩
        case measure => simp [RowKit.intOf]; omega
      · have HC := hid (hc wr _ _ BL.out OL.out HLE.out)
        clear hc
        generalize ((l ++ [x]) ++ cat (ps.take k)).length = m at *
        go_wp2_with fail
        refine HC.out.mono ?_
        rintro q wn ⟨lvn, rfl, on, bn, kn⟩
        have ON := hid on
        have BN := hid bn
        have KN2 := hid (KL.out.trans kn)
        have KN3 := hid (KL2.out.trans kn)
        clear on bn kn
        go_wp2_with fail
        go_roundw
        case rel => exact ⟨k + 1, by omega, by go_num, hid (by rw [HCT.out, ← List.append_assoc]; exact ON.out), BN, KN2, KN3⟩
        case measure => simp [RowKit.intOf]; omega
    · obtain rfl : k = ps.length := by omega
      have hLM0 : ((l ++ [x]) ++ cat (ps.take ps.length)).length + 1 ≤ 1000 := by rw [List.take_of_length_le (Nat.le_refl _)]; simp only [List.length_append, List.length_cons, List.length_nil]; omega
      generalize ((l ++ [x]) ++ cat (ps.take ps.length)).length = m at *
      rw [List.take_of_length_le (Nat.le_refl _)] at OL
      have hnl : ¬ ((ps.length : Int) < (ps.length : Int)) := by omega
      obtain ⟨css7, its7, own7⟩ := OL.out
      have hml7 : m = _ := OL.out.len
      rw [← hml7] at own7
      have HML7 := hid hml7
      clear hml7
      have ITS7 := hid its7
      have OWN7 := hid own7
      have hsz7 := BL.out.size
      clear its7 own7
      go_wp2_with (at_builtin; go_must (refine app_one elem_insv (base := w0.heap.size) (cs := [.int .u8 5, .int .i64 0, .int .i64 0, .slice none 0 0]) rfl _ _ rfl rfl rfl rfl OWN7.out rfl (by intro c hc; simp at hc; rcases hc with rfl | rfl | rfl | rfl <;> rfl) (by omega) (by omega) hsz7 ?_); intro lv7 w7 ho7 hb7 hg7; have O7 := hid (OwnB.pushN HML7.out ITS7.out OWN7.out (OwnI.nil _ _ _ _) hg7.1 ho7); have B7 := hid (BL.out.trans hb7); have KK7 := hid (KT.grown hg7.1 OWN7.out); have K7 := hid (KL.out.trans KK7.out); obtain ⟨an7, cn7, rfl, -⟩ := own_sl ho7; clear ho7 hb7 hg7 hsz7; have X7 := hid (KT.blk (KL2.out.trans KK7.out) X3.out rfl); have y5 := X7.out.cell (i := 5) rfl)
      first | go_wp2_with fail | skip
      go_loopw [1, 42] (fun i j wr => ∃ k : Nat, k ≤ qs.length ∧ j = .int .i64 k ∧ Hid (OwnB wr w0.heap.size i ((l ++ [x] ++ cat ps ++ [elseI]) ++ cat (qs.take k))) ∧ Hid (Below w0.heap.size w0 wr) ∧ Hid (KT 90 w wr)) (fun _ j _ => qs.length - (RowKit.intOf j).toNat)
      case atStart => exact ⟨0, Nat.zero_le _, rfl, hid (by rw [List.take_zero, show cat [] = [] from rfl, List.append_nil]; exact O7.out), B7, K7⟩
      case round =>
        obtain ⟨k, hk, rfl, OL, BL, KL⟩ := hrel
        obtain ⟨cssl, itsl, ownl⟩ := OL.out
        obtain ⟨aol, capl, rfl, -⟩ := own_sl ownl
        clear itsl ownl
        by_cases hlt : k < qs.length
        · have hlt2 : (k : Int) < (qs.length : Int) := by omega
          obtain ⟨g, cg, hv, _, _, hcell⟩ := RowF.at HR2.out k hlt
          simp only [Value.slice.injEq] at hv
          obtain ⟨rfl, -, rfl⟩ := hv
          have hcw := cell_below BL.out hcell
          have hple : (cat (qs.take k)).length + qs[k].2.1.length ≤ (cat qs).length := by
            have := cat_take_le qs (k + 1)
            rw [cat_take hlt, List.length_append] at this
            exact this
          have HLE := hid (show ((l ++ [x] ++ cat ps ++ [elseI]) ++ cat (qs.take k)).length + qs[k].2.1.length ≤ 1000 from by simp only [List.length_append, List.length_cons, List.length_nil]; omega)
          have hfc := IH2.out qs[k] (List.getElem_mem hlt)
          have HCT := hid (cat_take hlt)
          clear hcell hple
          generalize qs[k] = p at *
          obtain ⟨pv, pxs, pd, pn⟩ := p
          simp only at hcw hfc HCT HLE
          rcases hfc with ⟨rv, rfl, hc⟩ | ⟨rv, rfl, hc⟩ | ⟨rv, rfl, hc⟩
          · have HC := hid (hc wr _ _ BL.out OL.out HLE.out)
            clear hc
            generalize ((l ++ [x] ++ cat ps ++ [elseI]) ++ cat (qs.take k)).length = m at *
            go_wp2_with fail
            refine HC.out.mono ?_
            rintro q wn ⟨lvn, rfl, on, bn, kn⟩
            have ON := hid on
            have BN := hid bn
            have KN2 := hid (KL.out.trans kn)
            clear on bn kn
            go_wp2_with fail
            go_roundw
            case rel => exact ⟨k + 1, by omega, by go_num, hid (by rw [HCT.out, ← List.append_assoc]; exact ON.out), BN, KN2⟩
            case measure => simp [RowKit.intOf]; omega
          · have HC := hid (hc wr _ _ BL.out OL.out HLE.out)
            clear hc
            generalize ((l ++ [x] ++ cat ps ++ [elseI]) ++ cat (qs.take k)).length = m at *
            go_wp2_with fail
            refine HC.out.mono ?_
            rintro q wn ⟨lvn, rfl, on, bn, kn⟩
            have ON := hid on
            have BN := hid bn
            have KN2 := hid (KL.out.trans kn)
            clear on bn kn
            go_wp2_with fail
            go_roundw
            case rel => exact ⟨k + 1, by omega, by go_num, hid (by rw [HCT.out, ← List.append_assoc]; exact ON.out), BN, KN2⟩
            case measure => simp [RowKit.intOf]; omega
          · have HC := hid (hc wr _ _ BL.out OL.out HLE.out)
            clear hc
            generalize ((l ++ [x] ++ cat ps ++ [elseI]) ++ cat (qs.take k)).length = m at *
            go_wp2_with fail
            refine HC.out.mono ?_
            rintro q wn ⟨lvn, rfl, on, bn, kn⟩
            have ON := hid on
            have BN := hid bn
            have KN2 := hid (KL.out.trans kn)
            clear on bn kn
            go_wp2_with fail
            go_roundw
            case rel => exact ⟨k + 1, by omega, by go_num, hid (by rw [HCT.out, ← List.append_assoc]; exact ON.out), BN, KN2⟩
            case measure => simp [RowKit.intOf]; omega
        · obtain rfl : k = qs.length := by omega
          have hLM0 : ((l ++ [x] ++ cat ps ++ [elseI]) ++ cat (qs.take qs.length)).length + 1 ≤ 1000 := by rw [List.take_of_length_le (Nat.le_refl _)]; simp only [List.length_append, List.length_cons, List.length_nil]; omega
          generalize ((l ++ [x] ++ cat ps ++ [elseI]) ++ cat (qs.take qs.length)).length = m at *
          rw [List.take_of_length_le (Nat.le_refl _)] at OL
          have hnl : ¬ ((qs.length : Int) < (qs.length : Int)) := by omega
          obtain ⟨css9, its9, own9⟩ := OL.out
          have hml9 : m = _ := OL.out.len
          rw [← hml9] at own9
          have HML9 := hid hml9
          clear hml9
          have ITS9 := hid its9
          have OWN9 := hid own9
          have hsz9 := BL.out.size
          clear its9 own9
          go_wp2_with (at_builtin; go_must (refine app_one elem_insv (base := w0.heap.size) (cs := [.int .u8 11, .int .i64 0, .int .i64 0, .slice none 0 0]) rfl _ _ rfl rfl rfl rfl OWN9.out rfl (by intro c hc; simp at hc; rcases hc with rfl | rfl | rfl | rfl <;> rfl) (by omega) (by omega) hsz9 ?_); intro lv9 w9 ho9 hb9 hg9; have O9 := hid (OwnB.pushN HML9.out ITS9.out OWN9.out (OwnI.nil _ _ _ _) hg9.1 ho9); have B9 := hid (BL.out.trans hb9); have KK9 := hid (KT.grown hg9.1 OWN9.out); have K9 := hid (KL.out.trans KK9.out); obtain ⟨an9, cn9, rfl, -⟩ := own_sl ho9; clear ho9 hb9 hg9 hsz9)
          first | go_wp2_with fail | skip
          have HX := hid (O9.out)
          rw [show l ++ [x] ++ cat ps ++ [elseI] ++ cat qs ++ [(⟨11, 0, 0, []⟩ : It)] = l ++ x :: (cat ps ++ elseI :: (cat qs ++ [endI])) by simp [endI, elseI]] at HX
          go_ret
          exact ⟨_, rfl, HX.out, B9.out, K9.out⟩

theorem flat_node {w0 : World} {F : Nat → Prop} {v : Value} {xs : List It} {d s : Nat} (h : NodeI w0 F v xs d s) : FlatC w0 v xs := by
  induction h with
  | single x u hx hu => exact .inl ⟨_, rfl, fun w lv l hb ho hl => flat_single w0 x u hx hu w lv l hb ho hl⟩
  | block x u t ps hx hu ht _ ih => exact .inr (.inl ⟨_, rfl, fun w lv l hb ho hl => flat_block w0 F x u t ps hx hu ht ih w lv l hb ho hl⟩)
  | half x u t ps hx hu ht _ ih => exact .inr (.inr ⟨_, rfl, fun w lv l hb ho hl => flat_half w0 F x u t ps hx hu ht ih w lv l hb ho hl⟩)
  | both x u t o ps qs hx hu ht _ ho _ ih ih2 => exact .inr (.inr ⟨_, rfl, fun w lv l hb hO hl => flat_both w0 F x u t o ps qs hx hu ht ih ho ih2 w lv l hb hO hl⟩)

set_option maxRecDepth 100000 in
set_option maxHeartbeats 4000000 in
theorem flat_tree (w0 : World) (F : Nat → Prop) (t : Value) (ps : List Nd) (hr : RowF w0 F t ps) (hp : PartsI w0 F ps) (B : Nat) (hB : Blk w0 B 214 [t]) (hl : (cat ps).length ≤ 900) :
    Calls Try.prog 72 #[.pointer (some ⟨B, 0, none⟩)] w0 fun e w' => ∃ lv, e = .returned lv ∧ OwnB w' w0.heap.size lv (cat ps ++ [endI]) ∧ Below w0.heap.size w0 w' := by
  obtain ⟨at1, ct1, rfl⟩ := hr.open
  have IH := hid (fun p (g : p ∈ ps) => flat_node (hp p g))
  have HR := hid hr
  have x0 := hB.cell (i := 0) rfl
  have O3 := hid (OwnB.nil w0 w0.heap.size)
  have B3 := hid (Below.refl w0.heap.size w0)
  have K3 := hid (KT.below (bad := 90) (Below.refl w0.heap.size w0))
  clear hr hp hB
  go_enter Try.func72, Try.ntmps72
  go_wp2_with fail
  go_loopw [3, 11] (fun i j wr => ∃ k : Nat, k ≤ ps.length ∧ j = .int .i64 k ∧ Hid (OwnB wr w0.heap.size i (([] : List It) ++ cat (ps.take k))) ∧ Hid (Below w0.heap.size w0 wr) ∧ Hid (KT 90 w0 wr)) (fun _ j _ => ps.length - (RowKit.intOf j).toNat)
  case atStart => exact ⟨0, Nat.zero_le _, rfl, hid (by rw [List.take_zero, show cat [] = [] from rfl, List.append_nil]; exact O3.out), B3, K3⟩
  case round =>
    obtain ⟨k, hk, rfl, OL, BL, KL⟩ := hrel
    obtain ⟨cssl, itsl, ownl⟩ := OL.out
    obtain ⟨aol, capl, rfl, -⟩ := own_sl ownl
    clear itsl ownl
    by_cases hlt : k < ps.length
    · have hlt2 : (k : Int) < (ps.length : Int) := by omega
      obtain ⟨g, cg, hv, _, _, hcell⟩ := RowF.at HR.out k hlt
      simp only [Value.slice.injEq] at hv
      obtain ⟨rfl, -, rfl⟩ := hv
      have hcw := cell_below BL.out hcell
      have hple : (cat (ps.take k)).length + ps[k].2.1.length ≤ (cat ps).length := by
        have := cat_take_le ps (k + 1)
        rw [cat_take hlt, List.length_append] at this
        exact this
      have HLE := hid (show (([] : List It) ++ cat (ps.take k)).length + ps[k].2.1.length ≤ 1000 from by simp only [List.length_append, List.length_nil]; omega)
      have hfc := IH.out ps[k] (List.getElem_mem hlt)
      have HCT := hid (cat_take hlt)
      clear hcell hple
      generalize ps[k] = p at *
      obtain ⟨pv, pxs, pd, pn⟩ := p
      simp only at hcw hfc HCT HLE
      rcases hfc with ⟨rv, rfl, hc⟩ | ⟨rv, rfl, hc⟩ | ⟨rv, rfl, hc⟩
      · have HC := hid (hc wr _ _ BL.out OL.out HLE.out)
        clear hc
        generalize (([] : List It) ++ cat (ps.take k)).length = m at *
        go_wp2_with fail
        refine HC.out.mono ?_
        rintro q wn ⟨lvn, rfl, on, bn, kn⟩
        have ON := hid on
        have BN := hid bn
        have KN2 := hid (KL.out.trans kn)
        clear on bn kn
        go_wp2_with fail
        go_roundw
        case rel => exact ⟨k + 1, by omega, by go_num, hid (by rw [HCT.out, ← List.append_assoc]; exact ON.out), BN, KN2⟩
        case measure => simp [RowKit.intOf]; omega
      · have HC := hid (hc wr _ _ BL.out OL.out HLE.out)
        clear hc
        generalize (([] : List It) ++ cat (ps.take k)).length = m at *
        go_wp2_with fail
        refine HC.out.mono ?_
        rintro q wn ⟨lvn, rfl, on, bn, kn⟩
        have ON := hid on
        have BN := hid bn
        have KN2 := hid (KL.out.trans kn)
        clear on bn kn
        go_wp2_with fail
        go_roundw
        case rel => exact ⟨k + 1, by omega, by go_num, hid (by rw [HCT.out, ← List.append_assoc]; exact ON.out), BN, KN2⟩
        case measure => simp [RowKit.intOf]; omega
      · have HC := hid (hc wr _ _ BL.out OL.out HLE.out)
        clear hc
        generalize (([] : List It) ++ cat (ps.take k)).length = m at *
        go_wp2_with fail
        refine HC.out.mono ?_
        rintro q wn ⟨lvn, rfl, on, bn, kn⟩
        have ON := hid on
        have BN := hid bn
        have KN2 := hid (KL.out.trans kn)
        clear on bn kn
        go_wp2_with fail
        go_roundw
        case rel => exact ⟨k + 1, by omega, by go_num, hid (by rw [HCT.out, ← List.append_assoc]; exact ON.out), BN, KN2⟩
        case measure => simp [RowKit.intOf]; omega
    · obtain rfl : k = ps.length := by omega
      have hLM0 : (([] : List It) ++ cat (ps.take ps.length)).length + 1 ≤ 1000 := by rw [List.take_of_length_le (Nat.le_refl _)]; simp only [List.length_append, List.length_nil]; omega
      generalize (([] : List It) ++ cat (ps.take ps.length)).length = m at *
      rw [List.take_of_length_le (Nat.le_refl _)] at OL
      have hnl : ¬ ((ps.length : Int) < (ps.length : Int)) := by omega
      obtain ⟨css9, its9, own9⟩ := OL.out
      have hml9 : m = _ := OL.out.len
      rw [← hml9] at own9
      have HML9 := hid hml9
      clear hml9
      have ITS9 := hid its9
      have OWN9 := hid own9
      have hsz9 := BL.out.size
      clear its9 own9
      go_wp2_with (at_builtin; go_must (refine app_one elem_insv (base := w0.heap.size) (cs := [.int .u8 11, .int .i64 0, .int .i64 0, .slice none 0 0]) rfl _ _ rfl rfl rfl rfl OWN9.out rfl (by intro c hc; simp at hc; rcases hc with rfl | rfl | rfl | rfl <;> rfl) (by omega) (by omega) hsz9 ?_); intro lv9 w9 ho9 hb9 hg9; have O9 := hid (OwnB.pushN HML9.out ITS9.out OWN9.out (OwnI.nil _ _ _ _) hg9.1 ho9); have B9 := hid (BL.out.trans hb9); have KK9 := hid (KT.grown hg9.1 OWN9.out); have K9 := hid (KL.out.trans KK9.out); obtain ⟨an9, cn9, rfl, -⟩ := own_sl ho9; clear ho9 hb9 hg9 hsz9)
      first | go_wp2_with fail | skip
      have HX := hid (O9.out)
      rw [show ([] ++ cat ps ++ [(⟨11, 0, 0, []⟩ : It)]) = cat ps ++ [endI] by simp [endI]] at HX
      go_ret
      exact ⟨_, rfl, HX.out, B9.out⟩
end Go.Proofs.Ytomaiolhaenmhaa
