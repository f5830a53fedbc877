/-
  HEADS OF MODULES, the program's: parts. Conditions: the module has passed the first check; its types' numbers are good.
-/
import Derived.Test.YtdiiefhklcchmaaDoorGValidHeads10
import Derived.Maps.OwnSet
import Derived.Maps.Views
import Derived.StringKeys
import Derived.ProofKit
import Derived.HandedShaped
import Derived.JoinedCond
import Derived.Deep.CondSized
import Derived.LaidLaws
namespace Go.Proofs.YtdiiefhklcchmaaDoor
open Go.RowKit Go.Lib

theorem fold_hit {α : Type} {F : α → Int} {l : List α} {k : Nat} {e : Int} (h : foldE F (l.take k) = 0) (hk : k < l.length) (hf : F l[k] = e) (he : e ≠ 0) : foldE F l = e := by
  have h1 := foldE_next F l k hk 0
  rw [orE_zero, orE_zero, h, orE_zero, hf] at h1
  have h2 := foldE_stop F l (k + 1) 0 (by rw [orE_zero, ← h1]; exact he)
  rw [orE_zero, orE_zero] at h2
  rw [h2, ← h1]
theorem fold_step {α : Type} {F : α → Int} {l : List α} {k : Nat} (h : foldE F (l.take k) = 0) (hk : k < l.length) (hf : F l[k] = 0) : foldE F (l.take (k + 1)) = 0 := by
  have h1 := foldE_next F l k hk 0
  rw [orE_zero, orE_zero, h, orE_zero, hf] at h1
  exact h1.symm
/-- the module's box -/
structure MB (W w : World) (M : Nat) (cs : List Value) : Prop where
  m : Blk w M 30 cs
  bel : Below W.heap.size W w
theorem MB.below {W w w' : World} {M : Nat} {cs : List Value} (h : MB W w M cs) (hb : Below w.heap.size w w') : MB W w' M cs := ⟨h.m.below hb, h.bel.trans (hb.mono h.bel.size)⟩
theorem MB.alloc {W w : World} {M : Nat} {cs : List Value} (h : MB W w M cs) (o : Obj) : MB W (w.alloc o) M cs := h.below ((Below.refl _ _).alloc (Nat.le_refl _) _)
theorem vIdx_in {y : D_api_Module} {n : Int} (hi : vIs y n = true) : vIdx (vMany y) n = 0 := by
  have := of_decide_eq_true hi
  unfold vIdx
  rw [decide_eq_false (by omega)]; rfl
theorem vIdx_out {y : D_api_Module} {n : Int} (h0 : 0 ≤ n) (hi : vIs y n = false) : vIdx (vMany y) n = 8 := by
  have := of_decide_eq_false hi
  unfold vIdx
  rw [decide_eq_true (by omega)]; rfl
set_option maxRecDepth 100000 in
set_option maxHeartbeats 8000000 in
theorem pparts_any (W w : World) (cs : List Value) (y : D_api_Module) (hb : Below W.heap.size W w) (hg : GoodM y) (ht : ∀ t ∈ vTys y, 0 ≤ t ∧ t < y.1.length) (hR : R_api_Module W cs y) :
    Calls Tryd.prog 37 #[.agg cs.toArray] w fun e w' => e = .returned (.int .i64 (vParts y)) ∧ Below W.heap.size W w' := by
  have HTY := hid (fun wx (hx : Below W.heap.size W wx) n (hn : 0 ≤ n ∧ n ≤ 4294967295) => ptyp_any wx cs y n (by omega) hg ht (module_bel hR hx))
  have HG := hid hg
  obtain ⟨_, _, rfl, h1, _, _, rfl, h2, _, _, rfl, h3, _, _, rfl, ⟨rfl, _⟩, _, _, rfl, ⟨rfl, _⟩, _, _, rfl, ⟨rfl, _⟩, _, _, rfl, h4, _, _, rfl, h5, _, _, rfl, ⟨rfl, _⟩, _, _, rfl, h6, _, _, rfl, h7, rfl⟩ := hR
  obtain ⟨u1, rfl⟩ := sl_one h1
  have K1 := hid h1
  obtain ⟨u2, rfl⟩ := sl_one h2
  have K2 := hid h2
  obtain ⟨u3, rfl⟩ := sl_one h3
  have K3 := hid h3
  obtain ⟨u4, rfl⟩ := sl_one h4
  have K4 := hid h4
  obtain ⟨u5, rfl⟩ := sl_one h5
  have K5 := hid h5
  obtain ⟨u6, rfl⟩ := sl_one h6
  have K6 := hid h6
  obtain ⟨u7, rfl⟩ := sl_one h7
  have K7 := hid h7
  obtain ⟨a1, k1, rfl, kb1, kc1, _⟩ := sl_shape h1
  obtain ⟨a2, k2, rfl, kb2, kc2, _⟩ := sl_shape h2
  obtain ⟨a3, k3, rfl, kb3, kc3, _⟩ := sl_shape h3
  obtain ⟨a4, k4, rfl, kb4, kc4, _⟩ := sl_shape h4
  obtain ⟨a5, k5, rfl, kb5, kc5, _⟩ := sl_shape h5
  obtain ⟨a6, k6, rfl, kb6, kc6, _⟩ := sl_shape h6
  obtain ⟨a7, k7, rfl, kb7, kc7, _⟩ := sl_shape h7
  clear h1 h2 h3 h4 h5 h6 h7
  have HM0 := hid (show MB W (w.alloc (.cells #[.slice a1 y.1.length k1, .slice a2 y.2.1.length k2, .slice a3 y.2.2.1.length k3, .int .i64 y.2.2.2.1, .int .i64 y.2.2.2.2.1, .int .i64 y.2.2.2.2.2.1, .slice a4 y.2.2.2.2.2.2.1.length k4, .slice a5 y.2.2.2.2.2.2.2.1.length k5, .int .i64 y.2.2.2.2.2.2.2.2.1, .slice a6 y.2.2.2.2.2.2.2.2.2.1.length k6, .slice a7 y.2.2.2.2.2.2.2.2.2.2.1.length k7] 30)) w.heap.size [.slice a1 y.1.length k1, .slice a2 y.2.1.length k2, .slice a3 y.2.2.1.length k3, .int .i64 y.2.2.2.1, .int .i64 y.2.2.2.2.1, .int .i64 y.2.2.2.2.2.1, .slice a4 y.2.2.2.2.2.2.1.length k4, .slice a5 y.2.2.2.2.2.2.2.1.length k5, .int .i64 y.2.2.2.2.2.2.2.2.1, .slice a6 y.2.2.2.2.2.2.2.2.2.1.length k6, .slice a7 y.2.2.2.2.2.2.2.2.2.2.1.length k7] from ⟨Blk.new w #[.slice a1 y.1.length k1, .slice a2 y.2.1.length k2, .slice a3 y.2.2.1.length k3, .int .i64 y.2.2.2.1, .int .i64 y.2.2.2.2.1, .int .i64 y.2.2.2.2.2.1, .slice a4 y.2.2.2.2.2.2.1.length k4, .slice a5 y.2.2.2.2.2.2.2.1.length k5, .int .i64 y.2.2.2.2.2.2.2.2.1, .slice a6 y.2.2.2.2.2.2.2.2.2.1.length k6, .slice a7 y.2.2.2.2.2.2.2.2.2.2.1.length k7] 30 _ rfl, hb.alloc hb.size _⟩)
  have hel4 : (y.2.2.2.2.2.2.2.2.2.1.length : Int) ≤ 4 := by have := HG.out.elem.1; omega
  clear hg ht hb
  go_enter Tryd.func37, Tryd.ntmps37
  go_wp2_with fail
  go_loopw [4, 12] (fun _ i wr => ∃ k : Nat, k ≤ y.2.2.2.2.2.2.2.2.2.1.length ∧ i = .int .i64 k ∧ Hid (foldE (vElem y) (y.2.2.2.2.2.2.2.2.2.1.take k) = 0) ∧ Hid (MB W wr w.heap.size [.slice a1 y.1.length k1, .slice a2 y.2.1.length k2, .slice a3 y.2.2.1.length k3, .int .i64 y.2.2.2.1, .int .i64 y.2.2.2.2.1, .int .i64 y.2.2.2.2.2.1, .slice a4 y.2.2.2.2.2.2.1.length k4, .slice a5 y.2.2.2.2.2.2.2.1.length k5, .int .i64 y.2.2.2.2.2.2.2.2.1, .slice a6 y.2.2.2.2.2.2.2.2.2.1.length k6, .slice a7 y.2.2.2.2.2.2.2.2.2.2.1.length k7])) (fun _ i _ => y.2.2.2.2.2.2.2.2.2.1.length - (RowKit.intOf i).toNat)
  case atStart => exact ⟨0, Nat.zero_le _, rfl, hid rfl, HM0⟩
  case round =>
    obtain ⟨k, hk, rfl, ZZ, MM⟩ := hrel
    by_cases hlt : k < y.2.2.2.2.2.2.2.2.2.1.length
    · obtain ⟨lb, lo, cap', xs, hv, _, _, _, hX, hcc⟩ := sliceR_at K6.out (by decide) k hlt
      simp only [Value.slice.injEq] at hv
      obtain ⟨rfl, -, rfl⟩ := hv
      have HEL := hid (HG.out.elem.2 _ (List.getElem_mem hlt))
      have HST := hid (fun e => fold_step (F := vElem y) ZZ.out hlt e)
      have HHI := hid (fun e (h : vElem y _ = e) h0 => fold_hit (F := vElem y) ZZ.out hlt h h0)
      generalize y.2.2.2.2.2.2.2.2.2.1[k] = x at *
      obtain ⟨_, _, rfl, ⟨rfl, _⟩, _, _, rfl, g1, rfl⟩ := hX
      obtain ⟨q1, rfl⟩ := sl_one g1
      have J1 := hid (ints_of g1)
      obtain ⟨e1, d1, rfl, _, hd1, _⟩ := sl_shape g1
      clear g1
      have y0 : wr.cell? ⟨lb, lo + k * 2, none⟩ = some (.int .i64 x.1) := hcc wr MM.out.bel 0 (by decide)
      have y1 : wr.cell? ⟨lb, lo + k * 2 + 1, none⟩ = some (.slice e1 x.2.1.length d1) := hcc wr MM.out.bel 1 (by decide)
      clear hcc
      have MA := hid (MM.out.alloc (.cells #[.int .i64 x.1, .slice e1 x.2.1.length d1] 67))
      have m3 := MA.out.m.cell (i := 3) rfl
      by_cases htb : y.2.2.2.1 = 0
      · have hz : (y.2.2.2.1 == 0) = true := by simpa using htb
        have HV := hid (show vParts y = 8 from by
          have e : vElem y x = 8 := by unfold vElem; rw [decide_eq_true htb]; exact orE_stop (by decide) _
          unfold vParts
          rw [HHI.out 8 e (by decide)]
          exact orE_stop (by decide) _)
        go_wp2_with fail
        go_ret
        rw [HV.out]
        exact ⟨rfl, MA.out.bel⟩
      · have hz : (y.2.2.2.1 == 0) = false := by simpa using htb
        have HVE := hid (show vElem y x = foldE (vIdx (vMany y)) x.2.1 from by unfold vElem; rw [decide_eq_false htb]; rfl)
        have hx16 : (x.2.1.length : Int) ≤ 16 := by have := HEL.out.1; omega
        go_wp2_with fail
        clear m3 y0 y1
        go_loopw [6, 7, 8, 22] (fun _ _ _ i wq => ∃ j : Nat, j ≤ x.2.1.length ∧ i = .int .i64 j ∧ Hid (foldE (vIdx (vMany y)) (x.2.1.take j) = 0) ∧ Hid (MB W wq w.heap.size [.slice a1 y.1.length k1, .slice a2 y.2.1.length k2, .slice a3 y.2.2.1.length k3, .int .i64 y.2.2.2.1, .int .i64 y.2.2.2.2.1, .int .i64 y.2.2.2.2.2.1, .slice a4 y.2.2.2.2.2.2.1.length k4, .slice a5 y.2.2.2.2.2.2.2.1.length k5, .int .i64 y.2.2.2.2.2.2.2.2.1, .slice (some ⟨lb, lo, none⟩) y.2.2.2.2.2.2.2.2.2.1.length k6, .slice a7 y.2.2.2.2.2.2.2.2.2.2.1.length k7])) (fun _ _ _ i _ => x.2.1.length - (RowKit.intOf i).toNat)
        case atStart => exact ⟨0, Nat.zero_le _, rfl, hid rfl, MA⟩
        case round =>
          obtain ⟨j, hj, rfl, ZI, MI⟩ := hrel
          by_cases hjl : j < x.2.1.length
          · have hI := L1.below J1.out MI.out.bel
            rcases hI.open with ⟨_, _, _, e, _⟩ | ⟨ib, io, icap, hv, _, ic1, ic2, ic⟩
            · rw [e] at hjl; simp at hjl
            simp only [Value.slice.injEq] at hv
            obtain ⟨rfl, -, rfl⟩ := hv
            have yi := ic j hjl
            have HNB := hid (HEL.out.2 _ (List.getElem_mem hjl))
            have HSJ := hid (fun e => fold_step (F := vIdx (vMany y)) ZI.out hjl e)
            have HHJ := hid (fun e (h : vIdx (vMany y) _ = e) h0 => fold_hit (F := vIdx (vMany y)) ZI.out hjl h h0)
            generalize x.2.1[j] = nn at *
            clear ic hI
            have m0 := MI.out.m.cell (i := 0) rfl
            have m1 := MI.out.m.cell (i := 1) rfl
            have m2 := MI.out.m.cell (i := 2) rfl
            have m3 := MI.out.m.cell (i := 3) rfl
            have m4 := MI.out.m.cell (i := 4) rfl
            have m5 := MI.out.m.cell (i := 5) rfl
            have m6 := MI.out.m.cell (i := 6) rfl
            have m7 := MI.out.m.cell (i := 7) rfl
            have m8 := MI.out.m.cell (i := 8) rfl
            have m9 := MI.out.m.cell (i := 9) rfl
            have m10 := MI.out.m.cell (i := 10) rfl
            go_wp2_with fail
            clear m0 m1 m2 m3 m4 m5 m6 m7 m8 m9 m10
            refine (HTY.out _ MI.out.bel nn HNB.out).mono ?_
            rintro r w3 ⟨⟨b1, c1, b2, c2, rfl⟩, hb3⟩
            have M3 := hid (MI.out.below hb3)
            clear hb3
            cases hi : vIs y nn with
            | false =>
              have HV := hid (show vParts y = 8 from by
                unfold vParts
                rw [HHI.out 8 (by rw [HVE.out]; exact HHJ.out 8 (vIdx_out HNB.out.1 hi) (by decide)) (by decide)]
                exact orE_stop (by decide) _)
              rw [hi] at *
              clear hi
              go_wp2_with fail
              go_ret
              rw [HV.out]
              exact ⟨rfl, (M3.out.alloc _).bel⟩
            | true =>
              have HV := hid (HSJ.out (vIdx_in hi))
              rw [hi] at *
              clear hi
              go_wp2_with fail
              go_roundw
              case rel => exact ⟨j + 1, by omega, by go_num, HV, hid (M3.out.alloc _)⟩
              case measure => simp [RowKit.intOf]; omega
          · obtain rfl : j = x.2.1.length := by omega
            have HV := hid (HST.out (by rw [HVE.out]; have := ZI.out; rwa [List.take_length] at this))
            go_wp2_with fail
            go_roundw
            case rel => exact ⟨k + 1, by omega, by go_num, HV, MI⟩
            case measure => simp [RowKit.intOf]; omega
    · obtain rfl : k = y.2.2.2.2.2.2.2.2.2.1.length := by omega
      have HV0 := hid (show foldE (vElem y) y.2.2.2.2.2.2.2.2.2.1 = 0 from by have := ZZ.out; rwa [List.take_length] at this)
      have HVP := hid (show vParts y = vData y from by unfold vParts; rw [HV0.out]; rfl)
      have m10 := MM.out.m.cell (i := 10) rfl
      have m5 := MM.out.m.cell (i := 5) rfl
      by_cases hd : 0 < (y.2.2.2.2.2.2.2.2.2.2.1.length : Int)
      · by_cases hm : y.2.2.2.2.2.1 = 0
        · have hz : (y.2.2.2.2.2.1 == 0) = true := by simpa using hm
          have HV := hid (show vParts y = 8 from by rw [HVP.out]; unfold vData; rw [decide_eq_true ⟨hd, hm⟩]; rfl)
          go_wp2_with fail
          go_ret
          rw [HV.out]
          exact ⟨rfl, MM.out.bel⟩
        · have hz : (y.2.2.2.2.2.1 == 0) = false := by simpa using hm
          have HV := hid (show vParts y = 0 from by rw [HVP.out]; unfold vData; rw [decide_eq_false (fun g => hm g.2)]; rfl)
          go_wp2_with fail
          go_ret
          rw [HV.out]
          exact ⟨rfl, MM.out.bel⟩
      · have HV := hid (show vParts y = 0 from by rw [HVP.out]; unfold vData; rw [decide_eq_false (fun g => hd g.1)]; rfl)
        go_wp2_with fail
        go_ret
        rw [HV.out]
        exact ⟨rfl, MM.out.bel⟩
end Go.Proofs.YtdiiefhklcchmaaDoor
/-
  HEADS OF MODULES: the map of the names that were seen. Condition: the names' lengths.
-/
namespace Go.Proofs.YtdiiefhklcchmaaDoor
open Go.RowKit Go.Lib Go.Maps Go.WideMaps

theorem ba_iff (a b : ByteArray) : (a == b) = decide (a = b) := by
  cases a; cases b
  rename_i x y
  show (x == y) = _
  by_cases h : x = y
  · subst h; simp
  · simp [h]

def SeenM (w : World) (M n : Nat) (ks : List ByteArray) : Prop := ∃ D : DataW Unit, w.ownsMap Tryd.prog 9 (plainElem Tryd.prog 3) M n D ∧ ∀ s : ByteArray, s.size ≤ maxLen → has D (.string s.data.toList) = ks.any (fun z => s == z)
theorem SeenM.made (w : World) : SeenM (w.alloc (.map #[] 0)) w.heap.size 0 [] := ⟨.map [], World.ownsMap_made w _ _ _, fun _ _ => rfl⟩
theorem SeenM.lt {w : World} {M n : Nat} {ks : List ByteArray} (h : SeenM w M n ks) : M < w.heap.size := by
  obtain ⟨D, h1, _⟩ := h
  exact h1.lt
theorem SeenM.below {w w' : World} {M n : Nat} {ks : List ByteArray} (h : SeenM w M n ks) (hb : Below w.heap.size w w') : SeenM w' M n ks := by
  obtain ⟨D, h1, h2⟩ := h
  exact ⟨D, h1.kept (row := none) ⟨hb.os, hb.tape, hb.output, hb.size, fun k hk _ => hb.block k hk⟩ (by simp), h2⟩
theorem bytes_eq {s z : ByteArray} (h : s.data.toList = z.data.toList) : s = z := by
  have := congrArg S h
  rwa [S_of, S_of] at this
set_option maxRecDepth 100000 in
theorem SeenM.look {w : World} {M n : Nat} {ks : List ByteArray} (h : SeenM w M n ks) (s : ByteArray) (hs : s.size ≤ maxLen) :
    ∃ a : Int, (Instr.lookup 79 (.map (some M)) (.string s) true).run Tryd.prog w = .ok (.tuple #[.int .i64 a, .bool (ks.any fun z => s == z)]) w := by
  obtain ⟨D, hown, hD⟩ := h
  have hz : (zeroValue 3).run Tryd.prog w = .ok (.int .i64 0) w := by kernel_rfl
  obtain ⟨v, ps, hrun, hv⟩ := hown.look_ok (string_keyed Tryd.underlying9) Tryd.underlying79 hz (zd := .lit (.int .i64 0)) (zp := []) (plainElem_int Tryd.underlying3 (by decide)) (keyOf_string_mk Tryd.underlying9 hs)
  obtain ⟨a, rfl, _, _⟩ := plainElem_int_inv Tryd.underlying3 hv
  exact ⟨a, by rw [hrun, hD s hs]⟩
set_option maxRecDepth 100000 in
theorem SeenM.put {w : World} {M n : Nat} {ks : List ByteArray} (h : SeenM w M n ks) (hn : n < maxLen) (s : ByteArray) (hs : s.size ≤ maxLen) (i : Int) (hi : -9223372036854775808 ≤ i ∧ i ≤ 9223372036854775807) :
    ∃ w', (Instr.mapUpdate 79 (.map (some M)) (.string s) (.int .i64 i)).run Tryd.prog w = .ok () w' ∧ SeenM w' M (n + 1) (ks ++ [s]) ∧ Touch (fun k => k = M) w w' := by
  obtain ⟨D, hown, hD⟩ := h
  obtain ⟨w', hrun, hown', ht⟩ := hown.store (string_keyed Tryd.underlying9) Tryd.underlying79 hn (keyOf_string_mk Tryd.underlying9 hs) (plainElem_int Tryd.underlying3 (WalkArith.wf_i64 (by omega)))
  refine ⟨w', hrun, ⟨_, hown', fun z hz => ?_⟩, Touch.grown (F := fun k => k = M) ht.grown (fun k hk => by injection hk with hk; exact hk.symm)⟩
  rw [List.any_append, List.any_cons, List.any_nil, Bool.or_false]
  by_cases e : z = s
  · subst e
    rw [has_put_same hown.isMap (by first | exact trivial | simp [WideAt.IsKeyLit]), show (z == z) = true from by rw [ba_iff]; simp, Bool.or_true]
  · have hne : (Lit.string z.data.toList) ≠ .string s.data.toList := fun g => e (bytes_eq (by injection g))
    rw [has_put_other hne, hD z hz]
    have : (z == s) = false := by rw [ba_iff]; exact decide_eq_false e
    rw [this, Bool.or_false]
end Go.Proofs.YtdiiefhklcchmaaDoor
/-
  HEADS OF MODULES, the reference's: SigOf. Conditions: the module has passed the first check; its types' numbers are good.
-/
namespace Go.Proofs.YtdiiefhklcchmaaDoor
open Go.RowKit Go.Lib
attribute [local go_sem ↓] Go.wp_at_zero Go.wp_at_succ

theorem elem_intq : Elem Tryd.prog 65 3 (.int .i64 0) 1 8 := ⟨Tryd.underlying65, by kernel_rfl, rfl, by decide⟩
theorem vTys_impT {y : D_api_Module} {k : Nat} (h : k < y.2.1.length) : (vTys y).take k ++ [(y.2.1[k]).2.1] = (vTys y).take (k + 1) := by
  have e : (vTys y)[k]? = some (y.2.1[k]).2.1 := by unfold vTys; rw [List.getElem?_append_left (by simpa using h)]; simp [h]
  rw [List.take_add_one, e]; rfl
theorem vTys_funT {y : D_api_Module} {k : Nat} (h : k < y.2.2.1.length) : (vTys y).take (y.2.1.length + k) ++ [(y.2.2.1[k]).1] = (vTys y).take (y.2.1.length + (k + 1)) := by
  have e : (vTys y)[y.2.1.length + k]? = some (y.2.2.1[k]).1 := by unfold vTys; rw [List.getElem?_append_right (by simp)]; simp [h]
  rw [← Nat.add_assoc, List.take_add_one, e]; rfl
set_option maxRecDepth 100000 in
set_option maxHeartbeats 8000000 in
theorem rsig_any (w : World) (cs : List Value) (y : D_api_Module) (n : Int) (hnb : -9000000000000000000 ≤ n ∧ n ≤ 9000000000000000000) (hg : GoodM y) (ht : ∀ t ∈ vTys y, 0 ≤ t ∧ t < y.1.length) (hR : R_api_Module w cs y) :
    Calls Tryd.prog 38 #[.agg cs.toArray, .int .i64 n] w (TPost w (vSig y n) (vIs y n)) := by
  have HT := hid ht
  obtain ⟨_, _, rfl, h1, _, _, rfl, h2, _, _, rfl, h3, _, _, rfl, ⟨rfl, _⟩, _, _, rfl, ⟨rfl, _⟩, _, _, rfl, ⟨rfl, _⟩, _, _, rfl, h4, _, _, rfl, h5, _, _, rfl, ⟨rfl, _⟩, _, _, rfl, h6, _, _, rfl, h7, rfl⟩ := hR
  obtain ⟨u1, rfl⟩ := sl_one h1
  have K1 := hid h1
  obtain ⟨u2, rfl⟩ := sl_one h2
  have K2 := hid h2
  obtain ⟨u3, rfl⟩ := sl_one h3
  have K3 := hid h3
  obtain ⟨u4, rfl⟩ := sl_one h4
  have K4 := hid h4
  obtain ⟨u5, rfl⟩ := sl_one h5
  have K5 := hid h5
  obtain ⟨u6, rfl⟩ := sl_one h6
  have K6 := hid h6
  obtain ⟨u7, rfl⟩ := sl_one h7
  have K7 := hid h7
  obtain ⟨a1, k1, rfl, kb1, kc1, _⟩ := sl_shape h1
  obtain ⟨a2, k2, rfl, kb2, kc2, _⟩ := sl_shape h2
  obtain ⟨a3, k3, rfl, kb3, kc3, _⟩ := sl_shape h3
  obtain ⟨a4, k4, rfl, kb4, kc4, _⟩ := sl_shape h4
  obtain ⟨a5, k5, rfl, kb5, kc5, _⟩ := sl_shape h5
  obtain ⟨a6, k6, rfl, kb6, kc6, _⟩ := sl_shape h6
  obtain ⟨a7, k7, rfl, kb7, kc7, _⟩ := sl_shape h7
  clear h1 h2 h3 h4 h5 h6 h7
  have hl2 : (y.2.1.length : Int) ≤ 16 := by have := hg.imp.1; omega
  have hl3 : (y.2.2.1.length : Int) ≤ 16 := by have := hg.fun_.1; omega
  obtain ⟨WB, hWB⟩ : ∃ WB, WB = ((w.alloc (.cells #[.slice a1 y.1.length k1, .slice a2 y.2.1.length k2, .slice a3 y.2.2.1.length k3, .int .i64 y.2.2.2.1, .int .i64 y.2.2.2.2.1, .int .i64 y.2.2.2.2.2.1, .slice a4 y.2.2.2.2.2.2.1.length k4, .slice a5 y.2.2.2.2.2.2.2.1.length k5, .int .i64 y.2.2.2.2.2.2.2.2.1, .slice a6 y.2.2.2.2.2.2.2.2.2.1.length k6, .slice a7 y.2.2.2.2.2.2.2.2.2.2.1.length k7] 30)).alloc (.cells #[.slice none 0 0, .slice none 0 0] 40)) := ⟨_, rfl⟩
  have HWB := hid hWB
  have HBW := hid (show Below w.heap.size w WB from by rw [hWB]; exact ((Below.refl _ _).alloc (Nat.le_refl _) _).alloc (by simp) _)
  have HSZ := hid (show w.heap.size + 2 = WB.heap.size from by rw [hWB]; simp)
  have HX := Blk.new w #[.slice a1 y.1.length k1, .slice a2 y.2.1.length k2, .slice a3 y.2.2.1.length k3, .int .i64 y.2.2.2.1, .int .i64 y.2.2.2.2.1, .int .i64 y.2.2.2.2.2.1, .slice a4 y.2.2.2.2.2.2.1.length k4, .slice a5 y.2.2.2.2.2.2.2.1.length k5, .int .i64 y.2.2.2.2.2.2.2.2.1, .slice a6 y.2.2.2.2.2.2.2.2.2.1.length k6, .slice a7 y.2.2.2.2.2.2.2.2.2.2.1.length k7] 30 _ rfl
  have HX1 := hid (HX.below ((Below.refl _ _).alloc (Nat.le_refl _) (.cells #[.slice none 0 0, .slice none 0 0] 40)))
  have HX2 := hid (Blk.new (w.alloc (.cells #[.slice a1 y.1.length k1, .slice a2 y.2.1.length k2, .slice a3 y.2.2.1.length k3, .int .i64 y.2.2.2.1, .int .i64 y.2.2.2.2.1, .int .i64 y.2.2.2.2.2.1, .slice a4 y.2.2.2.2.2.2.1.length k4, .slice a5 y.2.2.2.2.2.2.2.1.length k5, .int .i64 y.2.2.2.2.2.2.2.2.1, .slice a6 y.2.2.2.2.2.2.2.2.2.1.length k6, .slice a7 y.2.2.2.2.2.2.2.2.2.2.1.length k7] 30)) #[.slice none 0 0, .slice none 0 0] 40 (w.heap.size + 1) (by simp))
  have HM := hid (show Blk WB w.heap.size 30 [.slice a1 y.1.length k1, .slice a2 y.2.1.length k2, .slice a3 y.2.2.1.length k3, .int .i64 y.2.2.2.1, .int .i64 y.2.2.2.2.1, .int .i64 y.2.2.2.2.2.1, .slice a4 y.2.2.2.2.2.2.1.length k4, .slice a5 y.2.2.2.2.2.2.2.1.length k5, .int .i64 y.2.2.2.2.2.2.2.2.1, .slice a6 y.2.2.2.2.2.2.2.2.2.1.length k6, .slice a7 y.2.2.2.2.2.2.2.2.2.2.1.length k7] from by rw [hWB]; exact HX1.out)
  have HRS := hid (show Blk WB (w.heap.size + 1) 40 [.slice none 0 0, .slice none 0 0] from by rw [hWB]; exact HX2.out)
  have e1 := HX1.out.cell (i := 1) rfl
  clear hWB hg ht HX HX1 HX2
  go_enter Tryd.func38, Tryd.ntmps38
  go_wp2_with fail
  clear e1
  go_loopw [6, 8, 14] (fun v _ i wr => ∃ (k : Nat) (vv : Value), k ≤ y.2.1.length ∧ i = .int .i64 k ∧ v = vv ∧ Hid (OwnI wr WB.heap.size .i64 3 vv ((vTys y).take k)) ∧ Hid (Below WB.heap.size WB wr)) (fun _ _ i _ => y.2.1.length - (RowKit.intOf i).toNat)
  case atStart => exact ⟨0, _, Nat.zero_le _, rfl, rfl, hid (OwnI.nil _ _ _ _), hid (by rw [HWB.out]; exact Below.refl _ _)⟩
  case round =>
    obtain ⟨k, vv, hk, rfl, hvv, HO, HB⟩ := hrel
    have hvv2 := hvv.symm
    subst hvv2
    clear hvv
    have HBx := hid (HBW.out.trans (HB.out.mono HBW.out.size))
    by_cases hlt : k < y.2.1.length
    · obtain ⟨lb, lo, cap', xs, hv, _, _, _, hX, hcc⟩ := sliceR_at K2.out (by decide) k hlt
      simp only [Value.slice.injEq] at hv
      obtain ⟨rfl, -, rfl⟩ := hv
      have HTK := hid (vTys_impT hlt)
      generalize y.2.1[k] = x at *
      obtain ⟨_, _, rfl, ⟨rfl, _⟩, _, _, rfl, ⟨rfl, _⟩, rfl⟩ := hX
      have y0 : wr.cell? ⟨lb, lo + k * 2, none⟩ = some (.string x.1) := hcc wr HBx.out 0 (by decide)
      have y1 : wr.cell? ⟨lb, lo + k * 2 + 1, none⟩ = some (.int .i64 x.2.1) := hcc wr HBx.out 1 (by decide)
      clear hcc
      have HBA := hid (HB.out.alloc HB.out.size (.cells #[.string x.1, .int .i64 x.2.1] 44))
      have HOA := hid (HO.out.below ((Below.refl _ _).alloc (Nat.le_refl _) (.cells #[.string x.1, .int .i64 x.2.1] 44)))
      have HLT := hid (show ((vTys y).take k).length ≤ 16 from by have := List.length_take_le k (vTys y); omega)
      obtain ⟨L, hL⟩ : ∃ L, (vTys y).take k = L := ⟨_, rfl⟩
      rw [hL] at HOA HTK HLT
      clear hL HO
      go_wp2_with (at_builtin; go_must (refine app_int elem_intq (y := x.2.1) rfl _ _ rfl rfl rfl (by simp) HOA.out (by have := HLT.out; omega) (by have := HLT.out; omega) HBA.out.size ?_); intro v' w' ho hb _; have HO2 := hid ho; have HB2 := hid hb; clear ho hb)
      go_roundw
      case rel => exact ⟨k + 1, v', by omega, by go_num, rfl, hid (by rw [← HTK.out]; exact HO2.out), hid (HBA.out.trans HB2.out)⟩
      case measure => simp [RowKit.intOf]; omega
    · obtain rfl : k = y.2.1.length := by omega
      have HBC := hid HB.out
      have HOC := hid HO.out
      have e2 := (HM.out.below HB.out).cell (i := 2) rfl
      clear HB HO hk HBx
      go_wp2_with fail
      clear e2
      go_loopw [6, 10, 27] (fun v _ i wr => ∃ (k : Nat) (vv : Value), k ≤ y.2.2.1.length ∧ i = .int .i64 k ∧ v = vv ∧ Hid (OwnI wr WB.heap.size .i64 3 vv ((vTys y).take (y.2.1.length + k))) ∧ Hid (Below WB.heap.size WB wr)) (fun _ _ i _ => y.2.2.1.length - (RowKit.intOf i).toNat)
      case atStart => exact ⟨0, _, Nat.zero_le _, rfl, rfl, HOC, HBC⟩
      case round =>
        obtain ⟨k, vv, hk, rfl, hvv, HO, HB⟩ := hrel
        have hvv2 := hvv.symm
        subst hvv2
        clear hvv
        have HBx := hid (HBW.out.trans (HB.out.mono HBW.out.size))
        by_cases hlt : k < y.2.2.1.length
        · obtain ⟨lb, lo, cap', xs, hv, _, _, _, hX, hcc⟩ := sliceR_at K3.out (by decide) k hlt
          simp only [Value.slice.injEq] at hv
          obtain ⟨rfl, -, rfl⟩ := hv
          have HTK := hid (vTys_funT hlt)
          generalize y.2.2.1[k] = x at *
          obtain ⟨_, _, rfl, ⟨rfl, _⟩, _, _, rfl, g1, _, _, rfl, g2, rfl⟩ := hX
          obtain ⟨q1, rfl⟩ := sl_one g1
          obtain ⟨q2, rfl⟩ := sl_one g2
          obtain ⟨e1, d1, rfl, _, _, _⟩ := sl_shape g1
          obtain ⟨e2, d2, rfl, _, _, _⟩ := sl_shape g2
          clear g1 g2
          have y0 : wr.cell? ⟨lb, lo + k * 3, none⟩ = some (.int .i64 x.1) := hcc wr HBx.out 0 (by decide)
          have y1 : wr.cell? ⟨lb, lo + k * 3 + 1, none⟩ = some (.slice e1 x.2.1.length d1) := hcc wr HBx.out 1 (by decide)
          have y2 : wr.cell? ⟨lb, lo + k * 3 + 2, none⟩ = some (.slice e2 x.2.2.1.length d2) := hcc wr HBx.out 2 (by decide)
          clear hcc
          have HBA := hid (HB.out.alloc HB.out.size (.cells #[.int .i64 x.1, .slice e1 x.2.1.length d1, .slice e2 x.2.2.1.length d2] 51))
          have HOA := hid (HO.out.below ((Below.refl _ _).alloc (Nat.le_refl _) (.cells #[.int .i64 x.1, .slice e1 x.2.1.length d1, .slice e2 x.2.2.1.length d2] 51)))
          have HLT := hid (show ((vTys y).take (y.2.1.length + k)).length ≤ 32 from by have := List.length_take_le (y.2.1.length + k) (vTys y); omega)
          obtain ⟨L, hL⟩ : ∃ L, (vTys y).take (y.2.1.length + k) = L := ⟨_, rfl⟩
          rw [hL] at HOA HTK HLT
          clear hL HO
          go_wp2_with (at_builtin; go_must (refine app_int elem_intq (y := x.1) rfl _ _ rfl rfl rfl (by simp) HOA.out (by have := HLT.out; omega) (by have := HLT.out; omega) HBA.out.size ?_); intro v' w' ho hb _; have HO2 := hid ho; have HB2 := hid hb; clear ho hb)
          go_roundw
          case rel => exact ⟨k + 1, v', by omega, by go_num, rfl, hid (by rw [← HTK.out]; exact HO2.out), hid (HBA.out.trans HB2.out)⟩
          case measure => simp [RowKit.intOf]; omega
        · obtain rfl : k = y.2.2.1.length := by omega
          have HN := hid (show (vTys y).length = y.2.1.length + y.2.2.1.length from by unfold vTys; simp)
          have HOZ := hid (show OwnI wr WB.heap.size .i64 3 vv (vTys y) from by have := HO.out; rwa [← HN.out, List.take_length] at this)
          have HRB := hid (HRS.out.below HB.out)
          have r0 := HRB.out.cell (i := 0) rfl
          have r1 := HRB.out.cell (i := 1) rfl
          have rf := HRB.out.free
          clear HO hk
          by_cases hin : n < 0 ∨ vMany y ≤ n
          · have hi : vIs y n = false := decide_eq_false (by omega)
            have HSG := hid (vSig_no hi)
            have HIS := hid hi
            clear hi
            unfold vMany at hin
            have hvs := OwnI.ints HOZ.out
            obtain ⟨ao, cap, rfl, _⟩ := hvs
            have hgl : (vTys y).length = y.2.1.length + y.2.2.1.length := HN.out
            rw [hgl]
            obtain ⟨N, hN⟩ : ∃ N : Nat, y.2.1.length + y.2.2.1.length = N := ⟨_, rfl⟩
            rw [hN]
            have hN2 : (y.2.1.length : Int) + (y.2.2.1.length : Int) = (N : Int) := by omega
            rw [hN2] at hin
            have hN3 : (N : Int) ≤ 32 := by omega
            clear hgl hN hN2 HN HOZ
            rcases hin with hin | hin
            · have h0 : decide (n < 0) = true := decide_eq_true hin
              clear hin
              go_wp2_with fail
              refine bodyPost_ret (v := .tuple #[.agg #[.slice none 0 0, .slice none 0 0], .bool false]) (by simp [results, Tryd.results38, go_sem, r0, r1]) rfl ?_
              exact ⟨⟨none, 0, none, 0, by rw [HSG.out, HIS.out]; rfl⟩, ((HBx.out.setCell (by simp) _).setCell (by simp) _)⟩
            · have h0 : decide (n < 0) = false := decide_eq_false (by omega)
              have h1 : decide ((N : Int) ≤ n) = true := decide_eq_true hin
              clear hin
              go_wp2_with fail
              refine bodyPost_ret (v := .tuple #[.agg #[.slice none 0 0, .slice none 0 0], .bool false]) (by simp [results, Tryd.results38, go_sem, r0, r1]) rfl ?_
              exact ⟨⟨none, 0, none, 0, by rw [HSG.out, HIS.out]; rfl⟩, ((HBx.out.setCell (by simp) _).setCell (by simp) _)⟩
          · obtain ⟨j, rfl⟩ := Int.eq_ofNat_of_zero_le (show 0 ≤ n by omega)
            have hi : vIs y j = true := decide_eq_true (by omega)
            unfold vMany at hin
            have hj : j < (vTys y).length := by rw [HN.out]; omega
            obtain ⟨g0, g1⟩ := HT.out _ (List.getElem_mem hj)
            obtain ⟨t, htt⟩ := Int.eq_ofNat_of_zero_le g0
            rw [htt] at g1
            have hlt1 : t < y.1.length := by omega
            have HSG := hid (vSig_at hi (show (vTys y).getD j 0 = (t : Int) from by rw [List.getD_eq_getElem?_getD, List.getElem?_eq_getElem hj, htt]; rfl) hlt1)
            have HIS := hid hi
            obtain ⟨tb, tO, tc, tcs, hv1, _, _, _, hR1, hcc1⟩ := sliceR_at K1.out (by decide) t hlt1
            simp only [Value.slice.injEq] at hv1
            obtain ⟨rfl, -, rfl⟩ := hv1
            obtain ⟨p1, q1, p2, q2, rfl⟩ := sig_shape hR1
            obtain ⟨g, cap, rfl, hgb, _, _, hgc, _, hgl, _⟩ := OwnI.at HOZ.out HN.out (by omega)
            have HBd := hid HBx.out.drew
            have t0 : wr.drew.cell? ⟨tb, tO + t * 2, none⟩ = some (.slice p1 (y.1[t]).1.length q1) := hcc1 _ HBd.out 0 (by decide)
            have t1 : wr.drew.cell? ⟨tb, tO + t * 2 + 1, none⟩ = some (.slice p2 (y.1[t]).2.1.length q2) := hcc1 _ HBd.out 1 (by decide)
            have ig : wr.cell? ⟨g, j, none⟩ = some (.int .i64 t) := by have := hgc j _ (List.getElem?_eq_getElem hj); rw [htt] at this; exact this
            have igd : wr.drew.cell? ⟨g, j, none⟩ = some (.int .i64 t) := ig
            have HMB := hid ((HM.out.below HB.out).below (Below.refl _ _).drew)
            have m0 := HMB.out.cell (i := 0) rfl
            have HRD := hid (HRB.out.below (Below.refl _ _).drew)
            have rd0 := HRD.out.cell (i := 0) rfl
            have rd1 := HRD.out.cell (i := 1) rfl
            have rdf := HRD.out.free
            obtain ⟨N, hN⟩ : ∃ N : Nat, y.2.1.length + y.2.2.1.length = N := ⟨_, rfl⟩
            rw [hN]
            have hN2 : (y.2.1.length : Int) + (y.2.2.1.length : Int) = (N : Int) := by omega
            rw [hN2] at hin
            have h0 : decide ((j : Int) < 0) = false := decide_eq_false (by omega)
            have h1 : decide ((N : Int) ≤ (j : Int)) = false := decide_eq_false (by omega)
            have hjN : (j : Int) < (N : Int) := by omega
            have hN3 : (N : Int) ≤ 32 := by omega
            have htl : (t : Int) < (y.1.length : Int) := by omega
            obtain ⟨l1, hl1⟩ : ∃ l1, (y.1[t]).1.length = l1 := ⟨_, rfl⟩
            obtain ⟨l2, hl2'⟩ : ∃ l2, (y.1[t]).2.1.length = l2 := ⟨_, rfl⟩
            rw [hl1] at t0
            rw [hl2'] at t1
            have HL1 := hid hl1
            have HL2 := hid hl2'
            clear hl1 hl2' hcc1 hR1 hgc hgl hgb ig hj g0 g1 htt hi hin hN hN2 HN HOZ HT
            go_wp2_with fail
            go_region_law (fail)
            all_goals
              go_wp2_with fail
              refine bodyPost_ret (v := .tuple #[.agg #[.slice p1 l1 q1, .slice p2 l2 q2], .bool true]) (by simp [results, Tryd.results38, go_sem, r0, r1]) rfl ?_
              refine ⟨⟨_, _, _, _, by rw [HSG.out, HIS.out, HL1.out, HL2.out]⟩, ?_⟩
              exact (((HBx.out.setCell (by simp) _).setCell (by simp) _).drew)
end Go.Proofs.YtdiiefhklcchmaaDoor
/-
  THE STEP OF A ROW WITH A BOUND ON THE ARGUMENTS, LISTED VARIABLES OF THE LIBRARY AND THE WORLD's SHAPE (the kit has each of the three alone). No program, no condition of its own.
-/
namespace Go.Proofs.YtdiiefhklcchmaaDoor
open Go

section
variable {H : Type} {enc : TypeId × Value → H}
theorem handed_cond_and {a : Assume} {C : Checked} {os : Os} {f : FuncId} {fn : Func} {s : OpenSpec} {k : (H : Type) → List (DataW H) → Bool} (hk : s.cond = some k) {F : Stop.Interp} {conds : List PathCond} {apart fresh handsOn again : Bool} {X : World → Array Value → Prop}
    (hX : ∀ (w w' : World) (args : Array Value), w.heap = w'.heap → X w args → X w' args)
    (own : ownKnob C.prog.godebug = none) (started : os.Started) (noInit : C.prog.inits.idxOf? f = none) (hfn : C.prog.funcs[f]? = some fn)
    (witness : ∃ (w : World) (tape : Tape) (i : Input), w.os = os ∧ (w.forCall tape i).Shaped C.prog ∧ i.vars = [] ∧ Input.okWide C.prog (w.forCall tape i) .any w.heap.size f i ∧
      ((s.pre enc C.prog fn conds apart (w.forCall tape i).memory i.args ∧ X (w.forCall tape i).memory i.args) ∧ sizedMet enc C.prog fn s apart (w.forCall tape i).memory i.args) ∧ a.holds C.prog (lone (Frame.enter C.prog f i.args .normal) [] (w.forCall tape i)))
    (contract : ∀ (W : World) (base : Nat) (args : Array Value) (ds gs : List (DataW H)) (before : List MemPlace),
      (∀ (j : Nat) t v, fn.params[j]? = some t → args[j]? = some v → Value.okWide C.prog W .any base t v) →
      DataW.Whole enc C.prog fn.params.toList s.vars apart W args.toList ds gs before →
      conds.all (PathCond.test C.prog ⟨fn.params.toList, ds, s.bare.plain.varTypes C.prog, gs⟩) = true → k H (ds ++ gs) = true →
      (DataW.weightsEach C.prog (fn.params.toList ++ s.bare.plain.varTypes C.prog) (ds ++ gs)).all (· ≤ reachBytes) = true → X W args → W.ShapedOpen C.prog →
      a.holds C.prog (lone (Frame.enter C.prog f args .normal) [] W) →
      Calls C.prog f args W fun e W' => ∃ v, e = .returned v ∧ (s.at F).post enc C.prog fn apart fresh handsOn again W args v W') :
    ReturnsInHanded a C os f .any (fun w args => (s.pre enc C.prog fn conds apart w args ∧ X w args) ∧ sizedMet enc C.prog fn s apart w args) ((s.at F).post enc C.prog fn apart fresh handsOn again) := by
  refine returnsInHanded_of_calls own started noInit witness ?_
  intro w tape i _ hsh _ hok hpre hholds
  obtain ⟨_, _, _, fn', hfn', _, _, _, _, hval⟩ := hok
  have e : fn' = fn := Option.some.inj (hfn'.symm.trans hfn)
  subst e
  obtain ⟨ds, gs, before, hw, hc, hkk⟩ := (OpenSpec.pre_some hk conds apart _ _).1 hpre.1.1
  have hw' := DataW.Whole.of_heap (w' := w.forCall tape i) (by rfl) hw
  refine (contract (w.forCall tape i) w.heap.size i.args ds gs before hval hw' hc hkk (hpre.2.weights hw) (hX _ _ _ (by rfl) hpre.1.2) hsh hholds).mono fun e W' ⟨v, he, hp⟩ => ?_
  subst he
  exact ChangeSpec.post_blind hp
theorem witness_cond_and {C : Checked} {os : Os} {f : FuncId} {fn : Func} {s : OpenSpec} {k : (H : Type) → List (DataW H) → Bool} (hk : s.cond = some k) {conds : List PathCond} {apart : Bool} {X : World → Array Value → Prop} (modest : Bool) (w0 : World) (args : Array Value) (fuel : Nat) (hos : w0.os = os)
    (hsh : (w0.forCall (fun _ _ => 0) ⟨#[], args, []⟩).Shaped C.prog)
    (hok : Input.okWideB C.prog (w0.forCall (fun _ _ => 0) ⟨#[], args, []⟩) f ⟨#[], args, []⟩ = true)
    {x : List (DataW H) × List (DataW H) × List MemPlace} (hx : DataW.whole enc C.prog (w0.forCall (fun _ _ => 0) ⟨#[], args, []⟩).memory fn.params.toList s.vars apart args.toList fuel = some x)
    (hconds : conds.all (PathCond.test C.prog ⟨fn.params.toList, x.1, s.bare.plain.varTypes C.prog, x.2.1⟩) = true) (hkk : k H (x.1 ++ x.2.1) = true)
    (hsz : s.bare.sizedB enc C.prog fn apart (w0.forCall (fun _ _ => 0) ⟨#[], args, []⟩).memory args fuel = true)
    (hX : X (w0.forCall (fun _ _ => 0) ⟨#[], args, []⟩).memory args) :
    ∃ (w : World) (tape : Tape) (i : Input), w.os = os ∧ (w.forCall tape i).Shaped C.prog ∧ i.vars = [] ∧ Input.okWide C.prog (w.forCall tape i) .any w.heap.size f i ∧
      ((s.pre enc C.prog fn conds apart (w.forCall tape i).memory i.args ∧ X (w.forCall tape i).memory i.args) ∧ sizedMet enc C.prog fn s apart (w.forCall tape i).memory i.args) ∧ ({ modest := modest } : Assume).holds C.prog (lone (Frame.enter C.prog f i.args .normal) [] (w.forCall tape i)) :=
  ⟨w0, fun _ _ => 0, ⟨#[], args, []⟩, hos, hsh, (Input.okWide_of_okWideB (base := 0) hok).1, (Input.okWide_of_okWideB hok).2, ⟨⟨(OpenSpec.pre_some hk conds apart _ _).2 ⟨x.1, x.2.1, x.2.2, DataW.Whole_of_whole hx, hconds, hkk⟩, hX⟩, sizedMet_of_sizedB hsz⟩, by
    simp only [Assume.holds]
    exact ⟨by simp, by simp, fun _ => Modest.zero, by simp, by simp⟩⟩
end
end Go.Proofs.YtdiiefhklcchmaaDoor
