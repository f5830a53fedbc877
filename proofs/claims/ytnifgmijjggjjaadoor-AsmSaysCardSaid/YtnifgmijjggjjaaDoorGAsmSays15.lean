/-
  HOW THE ARGUMENTS OF THE LAWS READ, by type. No condition. Printed by a program of mine.
-/
import Derived.Test.YtnifgmijjggjjaaDoorGAsmSays4
import Derived.Test.YtnifgmijjggjjaaDoorGAsmSays14
import Derived.Test.YtnifgmijjggjjaaDoorRows
import Derived.Lib.LaidU8
import Derived.ProofKit
import Derived.HandedShaped
import Derived.LaidLaws
namespace Go.Proofs.YtnifgmijjggjjaaDoor
open Go.RowKit
set_option maxRecDepth 100000

abbrev D_s_int64 : Type := List Int
def R_s_int64 (W : World) : List Value → D_s_int64 → Prop := sliceR W 1 8 (intR .i64)
def b_s_int64 (ys : D_s_int64) : Nat := (ys.map (fun _ => 1)).sum + 1
theorem dec_s_int64 {W : World} : DecT W 43 1 (R_s_int64 W) b_s_int64 := dec_slice Tryd.underlying43 (dec_int Tryd.underlying2) (by kernel_rfl) (by decide) (by kernel_rfl)

abbrev D_api_Ins : Type := Int × Int × Int × D_s_int64 × Unit
def R_api_Ins (W : World) : List Value → D_api_Ins → Prop := (pairR (intR .u8) (pairR (intR .i64) (pairR (intR .i64) (pairR (R_s_int64 W) nilR))))
def c_api_Ins (y : D_api_Ins) : Nat := (fun y => (fun _ => 1) y.1 + (fun y => (fun _ => 1) y.1 + (fun y => (fun _ => 1) y.1 + (fun y => b_s_int64 y.1 + (fun _ : Unit => 0) y.2) y.2) y.2) y.2) y
def b_api_Ins (y : D_api_Ins) : Nat := c_api_Ins y + 1
theorem dec_api_Ins {W : World} : DecT W 45 4 (R_api_Ins W) b_api_Ins := by
  refine dec_struct (R := R_api_Ins W) (bk := c_api_Ins) Tryd.underlying45 ?_ (by kernel_rfl)
  refine decfs_cons (s1 := 1) (s2 := 3) (R1 := (intR .u8)) (b1 := (fun _ => 1)) (R2 := (pairR (intR .i64) (pairR (intR .i64) (pairR (R_s_int64 W) nilR)))) (b2 := (fun y => (fun _ => 1) y.1 + (fun y => (fun _ => 1) y.1 + (fun y => b_s_int64 y.1 + (fun _ : Unit => 0) y.2) y.2) y.2)) ?_ ?_ rfl (by kernel_rfl)
  · exact dec_int Tryd.underlying5
  refine decfs_cons (s1 := 1) (s2 := 2) (R1 := (intR .i64)) (b1 := (fun _ => 1)) (R2 := (pairR (intR .i64) (pairR (R_s_int64 W) nilR))) (b2 := (fun y => (fun _ => 1) y.1 + (fun y => b_s_int64 y.1 + (fun _ : Unit => 0) y.2) y.2)) ?_ ?_ rfl (by kernel_rfl)
  · exact dec_int Tryd.underlying2
  refine decfs_cons (s1 := 1) (s2 := 1) (R1 := (intR .i64)) (b1 := (fun _ => 1)) (R2 := (pairR (R_s_int64 W) nilR)) (b2 := (fun y => b_s_int64 y.1 + (fun _ : Unit => 0) y.2)) ?_ ?_ rfl (by kernel_rfl)
  · exact dec_int Tryd.underlying2
  refine decfs_cons (s1 := 1) (s2 := 0) (R1 := (R_s_int64 W)) (b1 := b_s_int64) (R2 := nilR) (b2 := (fun _ : Unit => 0)) ?_ ?_ rfl (by kernel_rfl)
  · exact dec_s_int64
  exact decfs_nil

abbrev D_s_api_Ins : Type := List D_api_Ins
def R_s_api_Ins (W : World) : List Value → D_s_api_Ins → Prop := sliceR W 4 48 (R_api_Ins W)
def b_s_api_Ins (ys : D_s_api_Ins) : Nat := (ys.map b_api_Ins).sum + 1
theorem dec_s_api_Ins {W : World} : DecT W 22 1 (R_s_api_Ins W) b_s_api_Ins := dec_slice Tryd.underlying22 dec_api_Ins (by kernel_rfl) (by decide) (by kernel_rfl)

end Go.Proofs.YtnifgmijjggjjaaDoor
namespace Go.Proofs.YtnifgmijjggjjaaDoor
open Go.RowKit Go.Lib

theorem i64s_ofN {W : World} {v : Value} {zs : List Int} (h : sliceR W 1 8 (intR .i64) [v] zs) : Ints W .i64 v zs := by
  have hf := slice_flat (fun z => [Value.int .i64 z]) (fun z => -9223372036854775808 ≤ z ∧ z ≤ 9223372036854775807) (fun cs z h => by
    obtain ⟨rfl, w⟩ := h
    exact ⟨rfl, wf_i64 w⟩) h
  have h1 : Sl W v zs.length (zs.flatMap fun z => [Value.int .i64 z]) := hf.1
  have e : (zs.flatMap fun z => [Value.int .i64 z]) = zs.map (Value.int .i64) := by
    clear h hf h1
    induction zs with
    | nil => rfl
    | cons z r ih => rw [List.flatMap_cons, ih]; rfl
  rw [e] at h1
  exact h1
def itOf (y : D_api_Ins) : It := ⟨y.1.toNat, y.2.1, y.2.2.1, y.2.2.2.1⟩
theorem body_of {W : World} {v : Value} {ys : List D_api_Ins} (h : R_s_api_Ins W [v] ys) : BodS W v (ys.map itOf) ∧ ∀ x ∈ ys.map itOf, ItOk x := by
  obtain ⟨v', css, hv, hsl, hl, hb, hel⟩ := h
  simp only [List.cons.injEq, and_true] at hv
  subst hv
  have key : ∀ i (h1 : i < css.length) (h2 : i < ys.length), ItAt W css[i] (itOf ys[i]) ∧ ItOk (itOf ys[i]) := by
    intro i h1 h2
    obtain ⟨_, hr⟩ := hel i h1 h2
    generalize css[i] = cs at *
    generalize ys[i] = y at *
    obtain ⟨op, A, B, xs, u⟩ := y
    obtain ⟨_, _, rfl, ⟨rfl, w0⟩, _, _, rfl, ⟨rfl, w1⟩, _, _, rfl, ⟨rfl, w2⟩, c3, _, rfl, hs, rfl⟩ := hr
    have hs2 := hs
    obtain ⟨v2, _, rfl, _⟩ := hs
    have h0 : 0 ≤ op ∧ op < 256 := by simp [Lit.wf, IntKind.min, IntKind.max, IntKind.signed, IntKind.bits] at w0; omega
    obtain ⟨n, rfl⟩ := Int.eq_ofNat_of_zero_le h0.1
    exact ⟨⟨v2, rfl, i64s_ofN hs2⟩, by show ((n : Int).toNat : Nat) < 256; rw [Int.toNat_natCast]; omega, wf_i64 w1⟩
  refine ⟨⟨css, by rw [List.length_map]; exact hl, by rw [List.length_map]; exact hsl, fun i h1 h2 => ?_⟩, ?_⟩
  · rw [List.getElem_map]
    exact (key i h1 (by simpa using h2)).1
  · intro x hx
    obtain ⟨y, hy, rfl⟩ := List.mem_map.1 hx
    obtain ⟨i, hi, rfl⟩ := List.getElem_of_mem hy
    exact (key i (by omega) hi).2
theorem tabIs_of_reads {P : Program} {w : World} {n : String} {k : IntKind} {zs : List Int} {g t e N : Nat} (hg : P.globalNamed n = some g) (hty : (P.globals[g]?).map (·.type) = some t) (ht : P.underlying t = some (.array N e)) (he : P.underlying e = some (.int k)) (hce : P.cellsOf e = 1) (hct : P.cellsOf t = N) (h : Lib.VarReads P w n (Lib.tabData k zs)) : Lib.TabIs P w n k zs := by
  obtain ⟨g', t', cs, fuel, p, hg', hty', hvar, hd⟩ := h
  obtain rfl := Option.some.inj (hg.symm.trans hg')
  obtain rfl := Option.some.inj (hty.symm.trans hty')
  have hcs := Lib.cells_of_tab ht he hce hct hd
  unfold Lib.TabIs
  rw [hvar, ← hcs]
theorem laidTen : (Rows.laid_internal_strconv_uint64pow10 : DataW Unit) = Lib.tabData .u64 Lib.pow10Tab := by kernel_rfl
theorem ten_of_laid {W : World} (hL : laidMet Tryd.prog Rows.asmSaysRow.laid W) : TenT W := by
  have h := Lib.laidMet.reads hL (n := "internal/strconv.uint64pow10") (d := Rows.laid_internal_strconv_uint64pow10) (by simp [Rows.asmSaysRow])
  rw [laidTen] at h
  exact tabIs_of_reads (g := 1) (t := 112) (e := 60) (N := 20) (by kernel_rfl) (by kernel_rfl) (by kernel_rfl) (by kernel_rfl) (by kernel_rfl) (by kernel_rfl) h
set_option maxRecDepth 100000 in
set_option maxHeartbeats 4000000 in
theorem law_AsmSays (v0 v1 : Value) (x0 : Int) (x1 : D_s_api_Ins) (W : World) (i0 : IsInt .u8 W v0 x0) (i1 : R_s_api_Ins W [v1] x1) (hT : TenT W) (hM : MaxL W) :
    Calls Tryd.prog 3 #[v0, v1] W fun e w' => e = .returned (.bool true) ∧ Below W.heap.size W w' := by
  obtain ⟨hb, hok⟩ := body_of i1
  obtain ⟨rfl, h0⟩ := i0
  have h0' : 0 ≤ x0 ∧ x0 < 256 := by simp [Lit.wf, IntKind.min, IntKind.max, IntKind.signed, IntKind.bits] at h0; omega
  obtain ⟨op, rfl⟩ := Int.eq_ofNat_of_zero_le h0'.1
  have hop : op < 256 := by omega
  clear i1 h0 h0'
  generalize x1.map itOf = l at *
  have C1 := hid (name_any op hop W hM)
  have C2 := hid (fun w' (h : Below W.heap.size W w') => rname_any op hop w' (hM.below h))
  have C3 := hid (fun w' (h : Below W.heap.size W w') => awrite_any w' v1 l hok (hb.below h) (hM.below h) (hT.below h))
  have C4 := hid (fun w' (h : Below W.heap.size W w') => rawrite_any w' v1 l hok (hb.below h) (hM.below h))
  obtain ⟨ao, cap, rfl⟩ : ∃ ao cap, v1 = .slice ao l.length cap := by
    obtain ⟨_, _, ⟨ao, cap, e, _⟩, _⟩ := hb
    exact ⟨ao, cap, e⟩
  generalize S (nmM op).1 = N at *
  generalize (nmM op).2 = is at *
  generalize S (wrM l).1 = T at *
  generalize (wrM l).2 = E at *
  have e1 : (N.toList == N.toList) = true := BEq.rfl
  have e2 : (T.toList == T.toList) = true := BEq.rfl
  have e3 : (is == is) = true := BEq.rfl
  have e4 : (E == E) = true := BEq.rfl
  clear hb hok hT hM
  go_enter Tryd.func3, Tryd.ntmps3
  go_wp2_with fail
  refine C1.out.mono ?_
  rintro e w1 ⟨rfl, b1⟩
  have B1 := hid b1
  clear b1
  go_wp2_with fail
  refine (C2.out _ B1.out).mono ?_
  rintro e w2 ⟨rfl, b2⟩
  have B2 := hid (B1.out.trans (b2.mono B1.out.size))
  clear b2
  go_wp2_with fail
  refine (C3.out _ B2.out).mono ?_
  rintro e w3 ⟨rfl, b3⟩
  have B3 := hid (B2.out.trans (b3.mono B2.out.size))
  clear b3
  go_wp2_with fail
  refine (C4.out _ B3.out).mono ?_
  rintro e w4 ⟨rfl, b4⟩
  have B4 := hid (B3.out.trans (b4.mono B3.out.size))
  clear b4
  go_wp2_with fail
  go_ret
  exact ⟨rfl, B4.out⟩
end Go.Proofs.YtnifgmijjggjjaaDoor
namespace Go.Proofs.YtnifgmijjggjjaaDoor
open Go

section
variable {H : Type} {enc : TypeId × Value → H}
theorem handed_and_shaped {a : Assume} {C : Checked} {os : Os} {f : FuncId} {fn : Func} {s : ChangeSpec} {conds : List PathCond} {apart fresh handsOn again : Bool} {X : World → Array Value → Prop}
    (hX : ∀ (w w' : World) (args : Array Value), w.heap = w'.heap → X w args → X w' args)
    (own : ownKnob C.prog.godebug = none) (started : os.Started) (noInit : C.prog.inits.idxOf? f = none) (hfn : C.prog.funcs[f]? = some fn)
    (witness : ∃ (w : World) (tape : Tape) (i : Input), w.os = os ∧ (w.forCall tape i).Shaped C.prog ∧ i.vars = [] ∧ Input.okWide C.prog (w.forCall tape i) .any w.heap.size f i ∧
      ((s.pre enc C.prog fn conds apart (w.forCall tape i).memory i.args ∧ X (w.forCall tape i).memory i.args) ∧ sizedMet enc C.prog fn (OpenSpec.ofChange s) apart (w.forCall tape i).memory i.args) ∧ a.holds C.prog (lone (Frame.enter C.prog f i.args .normal) [] (w.forCall tape i)))
    (contract : ∀ (W : World) (base : Nat) (args : Array Value) (ds gs : List (DataW H)) (before : List MemPlace),
      (∀ (j : Nat) t v, fn.params[j]? = some t → args[j]? = some v → Value.okWide C.prog W .any base t v) →
      DataW.Whole enc C.prog fn.params.toList s.vars apart W args.toList ds gs before →
      conds.all (PathCond.test C.prog ⟨fn.params.toList, ds, s.plain.varTypes C.prog, gs⟩) = true →
      (DataW.weightsEach C.prog (fn.params.toList ++ s.plain.varTypes C.prog) (ds ++ gs)).all (· ≤ reachBytes) = true → X W args → W.ShapedOpen C.prog →
      a.holds C.prog (lone (Frame.enter C.prog f args .normal) [] W) →
      Calls C.prog f args W fun e W' => ∃ v, e = .returned v ∧ s.post enc C.prog fn apart fresh handsOn again W args v W') :
    ReturnsInHanded a C os f .any (fun w args => (s.pre enc C.prog fn conds apart w args ∧ X w args) ∧ sizedMet enc C.prog fn (OpenSpec.ofChange s) apart w args) (s.post enc C.prog fn apart fresh handsOn again) := by
  refine returnsInHanded_of_calls own started noInit witness ?_
  intro w tape i _ hsh _ hok hpre hholds
  obtain ⟨_, _, _, fn', hfn', _, _, _, _, hval⟩ := hok
  have e : fn' = fn := Option.some.inj (hfn'.symm.trans hfn)
  subst e
  obtain ⟨⟨⟨ds, gs, before, hw, hc⟩, hx⟩, hz⟩ := hpre
  refine (contract (w.forCall tape i) w.heap.size i.args ds gs before hval (DataW.Whole.of_heap (w' := w.forCall tape i) (by rfl) hw) hc (hz.weights hw) (hX _ _ _ (by rfl) hx) hsh hholds).mono fun e W' ⟨v, he, hp⟩ => ?_
  subst he
  exact ChangeSpec.post_blind hp
end
end Go.Proofs.YtnifgmijjggjjaaDoor
