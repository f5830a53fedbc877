/-
  A REGION THAT DRAWS ITS ORDER, IN WHICH LOADS AND CALLS COME AHEAD OF A TAIL (a store, an append ..) THAT WAITS FOR ALL: a condition on the world is kept up to the tail alone. No program; no condition.
-/
import Derived.Test.YthoalneknadheaaGreatDoorGBinWrites1
import Derived.OrdersHeld
import Derived.StillTail
import Derived.Deep.RegionHeld3
import Derived.Laws.BytesArg
import Derived.Laws.BitsLemmas
import Derived.ProofKit
import Derived.HandedShaped
import Derived.JoinedCond
import Derived.Deep.CondSized
import Derived.LaidLaws
namespace Go.Proofs.YthoalneknadheaaGreatDoor

section
variable {P : Program} {ops : Array Oper} {Q : Exit → Act → World → Prop} {md : Region.Mode} {S : World → Prop} {n : Nat} {L : Array Bool → Act → World → Prop}
def wpHL (P : Program) (md : Region.Mode) (ops : Array Oper) (Q : Exit → Act → World → Prop) (S : World → Prop) (n : Nat) (L : Array Bool → Act → World → Prop) : Nat → Array Bool → Act → World → Prop
  | 0, listed, a, w => L listed a w
  | f + 1, listed, a, w =>
    Region.ready md ops listed ≠ [] ∧ ∀ i ∈ Region.ready md ops listed, i < n ∧ wpOp P ops Q i (fun a' w' => S w' ∧ wpHL P md ops Q S n L f (listed.setIfInBounds i true) a' w') a w
theorem wpAny_of_HL {g : Nat} (hL : ∀ listed a w, L listed a w → wpAny P md ops Q g listed a w) :
    ∀ (f : Nat) (listed : Array Bool) (a : Act) (w : World), wpHL P md ops Q S n L f listed a w → wpAny P md ops Q (f + g) listed a w
  | 0, listed, a, w, h => by rw [Nat.zero_add]; exact hL _ _ _ h
  | f + 1, listed, a, w, h => by
    rw [show f + 1 + g = (f + g) + 1 by omega]
    exact ⟨fun h0 => absurd h0 h.1, fun i hi => wpOp_mono (fun a' w' h' => wpAny_of_HL hL f _ a' w' h'.2) (h.2 i hi).2⟩
theorem wpHL_first {i : Nat} {oi : Oper} {v : Value} (hi : ops[i]? = some oi) (hsel : ∀ (j : Nat) (o : Oper) cs b, ops[j]? = some o → o.op ≠ .select cs b)
    (hs : Region.sinkB md ops n = true) (hc : Region.chainB md ops n = true) (hn : n < ops.size) (hin : i < n)
    (hdone : ∀ listed a w, L listed a w → ∀ j ∈ Region.ready md ops listed, n ≤ j)
    (hQ : ∀ c a w, Q (.panic c) (a.put oi.dst v) w → Q (.panic c) a w) :
    ∀ (f : Nat) (listed : Array Bool) (a : Act) (w : World), HeadInv md ops n listed →
      (∀ j oj, ops[j]? = some oj → j ≠ i → listed.getD j true = false → (∀ e ∈ oj.after, Region.binds md e = true → e.on ≠ i) → oi.apart ops oj = true) →
      i ∈ Region.ready md ops listed → YieldsIf P ops S oi v a → S w →
      wpHL P md ops Q S n L f (listed.setIfInBounds i true) (a.put oi.dst v) w → wpHL P md ops Q S n L (f + 1) listed a w := by
  intro f
  induction f with
  | zero =>
    intro listed a w inv _ hr hy hS H
    have hun := (mem_ready.1 hr).1
    refine ⟨fun h => (by rw [h] at hr; cases hr), fun j hj => ?_⟩
    have hjn : j < n := by
      rcases Nat.lt_or_ge j n with h | h
      · exact h
      · exact absurd hj (tail_waits hs hc hn inv _ i rfl hin hun j h)
    refine ⟨hjn, ?_⟩
    by_cases hji : j = i
    · subst hji; exact hy.wpOp hi hS ⟨hS, H⟩
    · have := hdone _ _ _ H j (ready_mono hj hji)
      omega
  | succ f ih =>
    intro listed a w inv hfree hr hy hS H
    have hun := (mem_ready.1 hr).1
    refine ⟨fun h => (by rw [h] at hr; cases hr), fun j hj => ?_⟩
    have hjn : j < n := by
      rcases Nat.lt_or_ge j n with h | h
      · exact h
      · exact absurd hj (tail_waits hs hc hn inv _ i rfl hin hun j h)
    refine ⟨hjn, ?_⟩
    by_cases hji : j = i
    · subst hji; exact hy.wpOp hi hS ⟨hS, H⟩
    · have h1 := (H.2 j (ready_mono hj hji)).2
      obtain ⟨hjun, oj, hoj, hall⟩ := mem_ready.1 hj
      have hnot : ∀ e ∈ oj.after, Region.binds md e = true → e.on ≠ i := fun e he hb heq => by
        have h1 := hall e he hb
        rw [heq, getD_both hun] at h1
        cases h1
      have h2 := wpOp_putIf hoj (hfree j oj hoj hji hjun hnot) (fun cs b => hsel i oi cs b hi) (fun cs b => hsel j oj cs b hoj) hQ hy h1
      have hfree' : ∀ k ok, ops[k]? = some ok → k ≠ i → (listed.setIfInBounds j true).getD k true = false →
          (∀ e ∈ ok.after, Region.binds md e = true → e.on ≠ i) → oi.apart ops ok = true := fun k ok hk hki hun hno => by
        refine hfree k ok hk hki ?_ hno
        by_cases hjk : j = k
        · subst hjk; exact hjun
        · rw [getD_set_ne true hjk] at hun; exact hun
      refine wpOp_mono (fun a' w' h3 => ⟨h3.2.1, ih (listed.setIfInBounds j true) a' w' (inv.set hj hjn) hfree' (ready_mono hr (Ne.symm hji)) h3.1 h3.2.1 ?_⟩) h2
      rw [Array.setIfInBounds_comm _ _ hji]
      exact h3.2.2

def TailL (P : Program) (md : Region.Mode) (ops : Array Oper) (Q : Exit → Act → World → Prop) (n : Nat) (listed : Array Bool) (a : Act) (w : World) : Prop :=
  Region.seqB md ops (ops.size - n) n listed = true ∧ wpList P ops Q (ops.toList.drop n) a w
def wpT (P : Program) (ops : Array Oper) (Q : Exit → Act → World → Prop) (S : World → Prop) (n f : Nat) (listed : Array Bool) (a : Act) (w : World) : Prop :=
  HeadInv .any ops n listed → wpHL P .any ops Q S n (TailL P .any ops Q n) f listed a w
def tailB (ops : Array Oper) (n : Nat) : Bool := Region.noSelect ops && decide (n < ops.size) && Region.sinkB .any ops n && Region.chainB .any ops n
theorem wp_region_tail {id : Nat} {a : Act} {w : World} (n : Nat) (hm : P.follows .mixedOrders = true) (hB : tailB ops n = true) (hS : S w.drew)
    (h : S w.drew → wpT P ops Q S n n (Array.replicate ops.size false) a w.drew) : (Code.region id ops true).wp P Q a w := by
  simp only [tailB, Bool.and_eq_true, decide_eq_true_eq] at hB
  obtain ⟨⟨⟨hsel, hn⟩, hs⟩, hc⟩ := hB
  have inv0 : HeadInv .any ops n (Array.replicate ops.size false) :=
    ⟨by simp, fun j oj _ hl => (by rw [getD_replicate_false] at hl; cases hl), fun t _ ht => getD_in (by simpa using ht) (getD_replicate_false _ _)⟩
  have hdl : (ops.toList.drop n).length = ops.size - n := by simp
  refine wp_region_any hm ?_
  have := wpAny_of_HL (g := ops.size - n) (fun listed a' w' (hL : TailL P .any ops Q n listed a' w') => by
    have := wpAny_of_seq (md := .any) (Q' := Q) (ops.toList.drop n) n listed a' w' (fun j => by simp [List.getElem?_drop]) (by rw [hdl]; exact hL.1) hL.2
    rwa [hdl] at this) _ _ _ _ (h hS inv0)
  rw [show n + (ops.size - n) = ops.size by omega] at this
  exact this
theorem wpT_take {i f : Nat} {oi : Oper} {v : Value} {listed : Array Bool} {a : Act} {w : World} (hi : ops[i]? = some oi) (hB : tailB ops n = true) (hr : (decide (i < n) && (Region.ready .any ops listed).contains i) = true)
    (hf : Region.free .any ops listed i = true) (hQ : ∀ c a w, Q (.panic c) (a.put oi.dst v) w → Q (.panic c) a w) (hy : YieldsIf P ops S oi v a) (hS : S w)
    (h : wpT P ops Q S n f (listed.setIfInBounds i true) (a.put oi.dst v) w) : wpT P ops Q S n (f + 1) listed a w := fun inv => by
  simp only [tailB, Bool.and_eq_true, decide_eq_true_eq] at hB hr
  obtain ⟨⟨⟨hsel, hn⟩, hs⟩, hc⟩ := hB
  have hr' : i ∈ Region.ready .any ops listed := by simpa using hr.2
  exact wpHL_first hi (Region.noSelect_spec hsel) hs hc hn hr.1 (fun _ _ _ hL => seqB_ready hL.1) hQ f listed a w inv (Region.free_spec hi hf) hr' hy hS (h (inv.set hr' hr.1))
theorem tk (i : Nat) {f : Nat} {oi : Oper} (v : Value) {listed : Array Bool} {a : Act} {w : World} (hi : ops[i]? = some oi) (hy : ∀ w, S w → (execOp a.eval oi).run P w = .ok (.value v) w)
    (h : wpT P ops Q S n f (listed.setIfInBounds i true) (a.put oi.dst v) w)
    (hB : tailB ops n = true := by kernel_rfl) (hr : (decide (i < n) && (Region.ready .any ops listed).contains i) = true := by decide +kernel)
    (hf : Region.free .any ops listed i = true := by kernel_rfl) (hQ : ∀ c a w, Q (.panic c) (a.put oi.dst v) w → Q (.panic c) a w := by exact fun _ _ _ h => h)
    (hw : Region.wanted oi (yielded ops a.tmps) = true := by rfl) (hS : S w := by assumption) : wpT P ops Q S n (f + 1) listed a w :=
  wpT_take hi hB hr hf hQ (Or.inl ⟨hw, hy⟩) hS h
theorem wpT_one {k f : Nat} {o : Oper} {listed : Array Bool} {a : Act} {w : World} (ho : ops[k]? = some o) (hr : (decide (k < n) && decide (Region.ready .any ops listed = [k])) = true)
    (h : ∀ K' : Act → World → Prop, Shut (∀ a w, S w → (S w → wpT P ops Q S n f (listed.setIfInBounds k true) a w) → K' a w) → if Region.wanted o (yielded ops a.tmps) = true then Oper.wp P o a w K' Q else K' (a.put o.dst undef) w) :
    wpT P ops Q S n (f + 1) listed a w := fun inv => by
  simp only [Bool.and_eq_true, decide_eq_true_eq] at hr
  refine ⟨fun h0 => (by rw [hr.2] at h0; cases h0), fun i hi => ?_⟩
  rw [hr.2] at hi
  have hik : i = k := by simpa using hi
  subst hik
  exact ⟨hr.1, wpOp_step ho (fun K' hK => h K' (fun a w hS hW => hK a w ⟨hS, hW hS (inv.set (by rw [hr.2]; exact List.mem_cons_self) hr.1)⟩))⟩
theorem wpT_two {j k f : Nat} {o p : Oper} {listed : Array Bool} {a : Act} {w : World} (ho : ops[j]? = some o) (hp : ops[k]? = some p) (hr : (decide (j < n) && decide (k < n) && decide (Region.ready .any ops listed = [j, k])) = true)
    (h1 : ∀ K' : Act → World → Prop, Shut (∀ a w, S w → (S w → wpT P ops Q S n f (listed.setIfInBounds j true) a w) → K' a w) → if Region.wanted o (yielded ops a.tmps) = true then Oper.wp P o a w K' Q else K' (a.put o.dst undef) w)
    (h2 : ∀ K' : Act → World → Prop, Shut (∀ a w, S w → (S w → wpT P ops Q S n f (listed.setIfInBounds k true) a w) → K' a w) → if Region.wanted p (yielded ops a.tmps) = true then Oper.wp P p a w K' Q else K' (a.put p.dst undef) w) :
    wpT P ops Q S n (f + 1) listed a w := fun inv => by
  simp only [Bool.and_eq_true, decide_eq_true_eq] at hr
  refine ⟨fun h0 => (by rw [hr.2] at h0; cases h0), fun i hi => ?_⟩
  have hi' := hi
  rw [hr.2] at hi
  rcases List.mem_cons.1 hi with rfl | hi
  · exact ⟨hr.1.1, wpOp_step ho (fun K' hK => h1 K' (fun a w hS hW => hK a w ⟨hS, hW hS (inv.set hi' hr.1.1)⟩))⟩
  · have hik : i = k := by simpa using hi
    subst hik
    exact ⟨hr.1.2, wpOp_step hp (fun K' hK => h2 K' (fun a w hS hW => hK a w ⟨hS, hW hS (inv.set hi' hr.1.2)⟩))⟩
theorem wpT_done {listed : Array Bool} {a : Act} {w : World} (hr : Region.seqB .any ops (ops.size - n) n listed = true) (h : wpList P ops Q (ops.toList.drop n) a w) : wpT P ops Q S n 0 listed a w :=
  fun _ => ⟨hr, h⟩
end
end Go.Proofs.YthoalneknadheaaGreatDoor
namespace Go.Proofs.YthoalneknadheaaGreatDoor
open Go.RowKit

theorem info_u8 : (Tryz.prog.info? 5).map (fun i => (i.zero, i.size, i.bytes)) = some (some (.int .u8 0), 1, 1) := by kernel_rfl

theorem strOfNums_S (xs : List Int) : strOfNums xs = S (xs.map fun n => UInt8.ofNat n.toNat) := by
  simp [strOfNums, S]

theorem conv_bytes {w : World} {v : Value} {xs : List Int} (h : Ints w .u8 v xs) : (convert 40 9 v).run Tryz.prog w = .ok (.string (S (xs.map fun n => UInt8.ofNat n.toNat))) w := by
  rcases h.open with ⟨ao, cap, rfl, rfl, _⟩ | ⟨b, off, cap, rfl, h0, hcap, hm, hc⟩
  · cases ao with
    | none => exact run_convert_bytes_nil w _ _ Tryz.underlying40 Tryz.underlying5 0 cap _ Tryz.underlying9
    | some a =>
      rw [run_convert_bytes_string w _ _ _ _ _ _ Tryz.underlying40 Tryz.underlying5 Tryz.underlying9, run_bytesToString w _ 0 cap [] (by simp [loadCells, loadCellsFrom, Sem.run_pure])]
      rfl
  · rw [run_convert_bytes_arg w _ _ Tryz.underlying40 Tryz.underlying5 b off _ cap xs rfl (fun i hi => by rw [hc i hi]; simp [List.getD, hi]) _ Tryz.underlying9, strOfNums_S]

set_option maxRecDepth 100000 in
set_option maxHeartbeats 400000 in
theorem chr_any (n : Int) (w : World) :
    Calls Tryz.prog 34 #[.int .i64 n] w fun e w' => e = .returned (.string (S [byteOf n])) ∧ Below w.heap.size w w' := by
  have hc := conv_bytes (Ints.made' w .u8 5 [n % 256] w.heap.size rfl (by simp))
  simp only [List.length_cons, List.length_nil, List.map_cons, List.map_nil, Nat.zero_add] at hc
  go_enter Tryz.func34, Tryz.ntmps34
  go_wp2_with fail
  go_ret
  exact ⟨rfl, (Below.refl _ _).alloc (Nat.le_refl _) _⟩

theorem elem_u8 : Elem Tryz.prog 40 5 (.int .u8 0) 1 1 := ⟨Tryz.underlying40, info_u8, rfl, by decide⟩
end Go.Proofs.YthoalneknadheaaGreatDoor
namespace Go.Proofs.YthoalneknadheaaGreatDoor
open Go.RowKit

theorem wrap_congr (k : IntKind) {a c : Int} (h : a % 2 ^ k.bits = c % 2 ^ k.bits) : k.wrap a = k.wrap c := by
  simp only [IntKind.wrap, h]

theorem or_add (k : IntKind) (x y : Int) (p : Nat) (hp : p ≤ k.bits) (h0 : 0 ≤ x) (h1 : x < 2 ^ p) (hy : y % 2 ^ p = 0) :
    bits .or k x y = k.wrap (x + y) := by
  obtain ⟨a, rfl⟩ := Int.eq_ofNat_of_zero_le h0
  have ha : a < 2 ^ p := by exact_mod_cast h1
  have hpn : 2 ^ p ≤ 2 ^ k.bits := Nat.pow_le_pow_right (by decide) hp
  have hpos : (0 : Int) < 2 ^ k.bits := Int.pow_pos (by decide)
  have hY0 : 0 ≤ y % 2 ^ k.bits := Int.emod_nonneg _ (by omega)
  obtain ⟨b, hb⟩ := Int.eq_ofNat_of_zero_le hY0
  have e1 : (BitVec.ofInt k.bits (a : Int)).toNat = a := by
    rw [BitVec.ofInt_natCast, BitVec.toNat_ofNat]; exact Nat.mod_eq_of_lt (by omega)
  have e2 : (BitVec.ofInt k.bits y).toNat = b := by
    rw [BitVec.toNat_ofInt]
    have : (y % ((2 ^ k.bits : Nat) : Int)) = (b : Int) := by rw [← hb]; simp
    rw [this]; simp
  have hd : b % 2 ^ p = 0 := by
    have : (b : Int) % 2 ^ p = 0 := by
      rw [← hb]
      rw [Int.emod_emod_of_dvd _ ⟨2 ^ (k.bits - p), by rw [← Int.pow_add]; congr 1; omega⟩]
      exact hy
    exact_mod_cast this
  have hq : b = 2 ^ p * (b / 2 ^ p) := by
    have := Nat.div_add_mod b (2 ^ p)
    omega
  have e3 : (a ||| b) = a + b := by
    rw [hq, Nat.or_comm, ← Nat.two_pow_add_eq_or_of_lt ha (b / 2 ^ p)]
    omega
  simp only [bits, BitVec.toNat_or, e1, e2, e3]
  refine wrap_congr k ?_
  push_cast
  rw [← hb]
  simp

end Go.Proofs.YthoalneknadheaaGreatDoor
namespace Go.Proofs.YthoalneknadheaaGreatDoor
open Go

section
variable {H : Type} {enc : TypeId × Value → H}
theorem handed_cond_and {a : Assume} {C : Checked} {os : Os} {f : FuncId} {fn : Func} {s : OpenSpec} {k : (H : Type) → List (DataW H) → Bool} (hk : s.cond = some k) {F : Stop.Interp} {conds : List PathCond} {apart fresh handsOn again : Bool} {X : World → Array Value → Prop}
    (hX : ∀ (w w' : World) (args : Array Value), w.heap = w'.heap → X w args → X w' args)
    (own : ownKnob C.prog.godebug = none) (started : os.Started) (noInit : C.prog.inits.idxOf? f = none) (hfn : C.prog.funcs[f]? = some fn)
    (witness : ∃ (w : World) (tape : Tape) (i : Input), w.os = os ∧ (w.forCall tape i).Shaped C.prog ∧ i.vars = [] ∧ Input.okWide C.prog (w.forCall tape i) .any w.heap.size f i ∧
      ((s.pre enc C.prog fn conds apart (w.forCall tape i).memory i.args ∧ X (w.forCall tape i).memory i.args) ∧ sizedMet enc C.prog fn s apart (w.forCall tape i).memory i.args) ∧ a.holds C.prog (lone (Frame.enter C.prog f i.args .normal) [] (w.forCall tape i)))
    (contract : ∀ (W : World) (base : Nat) (args : Array Value) (ds gs : List (DataW H)) (before : List MemPlace),
      (∀ (j : Nat) t v, fn.params[j]? = some t → args[j]? = some v → Value.okWide C.prog W .any base t v) →
      DataW.Whole enc C.prog fn.params.toList s.vars apart W args.toList ds gs before →
      conds.all (PathCond.test C.prog ⟨fn.params.toList, ds, s.bare.plain.varTypes C.prog, gs⟩) = true → k H (ds ++ gs) = true →
      (DataW.weightsEach C.prog (fn.params.toList ++ s.bare.plain.varTypes C.prog) (ds ++ gs)).all (· ≤ reachBytes) = true → X W args → W.ShapedOpen C.prog →
      a.holds C.prog (lone (Frame.enter C.prog f args .normal) [] W) →
      Calls C.prog f args W fun e W' => ∃ v, e = .returned v ∧ (s.at F).post enc C.prog fn apart fresh handsOn again W args v W') :
    ReturnsInHanded a C os f .any (fun w args => (s.pre enc C.prog fn conds apart w args ∧ X w args) ∧ sizedMet enc C.prog fn s apart w args) ((s.at F).post enc C.prog fn apart fresh handsOn again) := by
  refine returnsInHanded_of_calls own started noInit witness ?_
  intro w tape i _ hsh _ hok hpre hholds
  obtain ⟨_, _, _, fn', hfn', _, _, _, _, hval⟩ := hok
  have e : fn' = fn := Option.some.inj (hfn'.symm.trans hfn)
  subst e
  obtain ⟨ds, gs, before, hw, hc, hkk⟩ := (OpenSpec.pre_some hk conds apart _ _).1 hpre.1.1
  have hw' := DataW.Whole.of_heap (w' := w.forCall tape i) (by rfl) hw
  refine (contract (w.forCall tape i) w.heap.size i.args ds gs before hval hw' hc hkk (hpre.2.weights hw) (hX _ _ _ (by rfl) hpre.1.2) hsh hholds).mono fun e W' ⟨v, he, hp⟩ => ?_
  subst he
  exact ChangeSpec.post_blind hp
theorem witness_cond_and {C : Checked} {os : Os} {f : FuncId} {fn : Func} {s : OpenSpec} {k : (H : Type) → List (DataW H) → Bool} (hk : s.cond = some k) {conds : List PathCond} {apart : Bool} {X : World → Array Value → Prop} (modest : Bool) (w0 : World) (args : Array Value) (fuel : Nat) (hos : w0.os = os)
    (hsh : (w0.forCall (fun _ _ => 0) ⟨#[], args, []⟩).Shaped C.prog)
    (hok : Input.okWideB C.prog (w0.forCall (fun _ _ => 0) ⟨#[], args, []⟩) f ⟨#[], args, []⟩ = true)
    {x : List (DataW H) × List (DataW H) × List MemPlace} (hx : DataW.whole enc C.prog (w0.forCall (fun _ _ => 0) ⟨#[], args, []⟩).memory fn.params.toList s.vars apart args.toList fuel = some x)
    (hconds : conds.all (PathCond.test C.prog ⟨fn.params.toList, x.1, s.bare.plain.varTypes C.prog, x.2.1⟩) = true) (hkk : k H (x.1 ++ x.2.1) = true)
    (hsz : s.bare.sizedB enc C.prog fn apart (w0.forCall (fun _ _ => 0) ⟨#[], args, []⟩).memory args fuel = true)
    (hX : X (w0.forCall (fun _ _ => 0) ⟨#[], args, []⟩).memory args) :
    ∃ (w : World) (tape : Tape) (i : Input), w.os = os ∧ (w.forCall tape i).Shaped C.prog ∧ i.vars = [] ∧ Input.okWide C.prog (w.forCall tape i) .any w.heap.size f i ∧
      ((s.pre enc C.prog fn conds apart (w.forCall tape i).memory i.args ∧ X (w.forCall tape i).memory i.args) ∧ sizedMet enc C.prog fn s apart (w.forCall tape i).memory i.args) ∧ ({ modest := modest } : Assume).holds C.prog (lone (Frame.enter C.prog f i.args .normal) [] (w.forCall tape i)) :=
  ⟨w0, fun _ _ => 0, ⟨#[], args, []⟩, hos, hsh, (Input.okWide_of_okWideB (base := 0) hok).1, (Input.okWide_of_okWideB hok).2, ⟨⟨(OpenSpec.pre_some hk conds apart _ _).2 ⟨x.1, x.2.1, x.2.2, DataW.Whole_of_whole hx, hconds, hkk⟩, hX⟩, sizedMet_of_sizedB hsz⟩, by
    simp only [Assume.holds]
    exact ⟨by simp, by simp, fun _ => Modest.zero, by simp, by simp⟩⟩
end
end Go.Proofs.YthoalneknadheaaGreatDoor
