/-
  A REGION THAT DRAWS ITS ORDER, IN WHICH LOADS AND CALLS COME AHEAD OF A TAIL (a store, an append ..) THAT WAITS FOR ALL: a condition on the world is kept up to the tail alone. No program; no condition.
-/
import Derived.Test.YtakfineljffoaaaGreatDoorGBinReads2
import Derived.Test.YtakfineljffoaaaGreatDoorGBinReads3
import Derived.Test.YtakfineljffoaaaGreatDoorGBinReads6
import Derived.Test.YtakfineljffoaaaGreatDoorGBinReads16
import Derived.Test.YtakfineljffoaaaGreatDoorGBinReads17
import Derived.Test.YtakfineljffoaaaGreatDoorGBinReads21
import Derived.Test.YtakfineljffoaaaGreatDoorGBinReads22
import Derived.OrdersHeld
import Derived.StillTail
import Derived.Deep.RegionHeld3
import Derived.IntWalk
import Derived.ProofKit
import Derived.HandedShaped
import Derived.LaidLaws
namespace Go.Proofs.YtakfineljffoaaaGreatDoor

section
variable {P : Program} {ops : Array Oper} {Q : Exit → Act → World → Prop} {md : Region.Mode} {S : World → Prop} {n : Nat} {L : Array Bool → Act → World → Prop}
/-- the operations ahead of number n in whatever order; S behind each; then L -/
def wpHL (P : Program) (md : Region.Mode) (ops : Array Oper) (Q : Exit → Act → World → Prop) (S : World → Prop) (n : Nat) (L : Array Bool → Act → World → Prop) : Nat → Array Bool → Act → World → Prop
  | 0, listed, a, w => L listed a w
  | f + 1, listed, a, w =>
    Region.ready md ops listed ≠ [] ∧ ∀ i ∈ Region.ready md ops listed, i < n ∧ wpOp P ops Q i (fun a' w' => S w' ∧ wpHL P md ops Q S n L f (listed.setIfInBounds i true) a' w') a w
theorem wpAny_of_HL {g : Nat} (hL : ∀ listed a w, L listed a w → wpAny P md ops Q g listed a w) :
    ∀ (f : Nat) (listed : Array Bool) (a : Act) (w : World), wpHL P md ops Q S n L f listed a w → wpAny P md ops Q (f + g) listed a w
  | 0, listed, a, w, h => by rw [Nat.zero_add]; exact hL _ _ _ h
  | f + 1, listed, a, w, h => by
    rw [show f + 1 + g = (f + g) + 1 by omega]
    exact ⟨fun h0 => absurd h0 h.1, fun i hi => wpOp_mono (fun a' w' h' => wpAny_of_HL hL f _ a' w' h'.2) (h.2 i hi).2⟩
theorem wpHL_first {i : Nat} {oi : Oper} {v : Value} (hi : ops[i]? = some oi) (hsel : ∀ (j : Nat) (o : Oper) cs b, ops[j]? = some o → o.op ≠ .select cs b)
    (hs : Region.sinkB md ops n = true) (hc : Region.chainB md ops n = true) (hn : n < ops.size) (hin : i < n)
    (hdone : ∀ listed a w, L listed a w → ∀ j ∈ Region.ready md ops listed, n ≤ j)
    (hQ : ∀ c a w, Q (.panic c) (a.put oi.dst v) w → Q (.panic c) a w) :
    ∀ (f : Nat) (listed : Array Bool) (a : Act) (w : World), HeadInv md ops n listed →
      (∀ j oj, ops[j]? = some oj → j ≠ i → listed.getD j true = false → (∀ e ∈ oj.after, Region.binds md e = true → e.on ≠ i) → oi.apart ops oj = true) →
      i ∈ Region.ready md ops listed → YieldsIf P ops S oi v a → S w →
      wpHL P md ops Q S n L f (listed.setIfInBounds i true) (a.put oi.dst v) w → wpHL P md ops Q S n L (f + 1) listed a w := by
  intro f
  induction f with
  | zero =>
    intro listed a w inv _ hr hy hS H
    have hun := (mem_ready.1 hr).1
    refine ⟨fun h => (by rw [h] at hr; cases hr), fun j hj => ?_⟩
    have hjn : j < n := by
      rcases Nat.lt_or_ge j n with h | h
      · exact h
      · exact absurd hj (tail_waits hs hc hn inv _ i rfl hin hun j h)
    refine ⟨hjn, ?_⟩
    by_cases hji : j = i
    · subst hji; exact hy.wpOp hi hS ⟨hS, H⟩
    · have := hdone _ _ _ H j (ready_mono hj hji)
      omega
  | succ f ih =>
    intro listed a w inv hfree hr hy hS H
    have hun := (mem_ready.1 hr).1
    refine ⟨fun h => (by rw [h] at hr; cases hr), fun j hj => ?_⟩
    have hjn : j < n := by
      rcases Nat.lt_or_ge j n with h | h
      · exact h
      · exact absurd hj (tail_waits hs hc hn inv _ i rfl hin hun j h)
    refine ⟨hjn, ?_⟩
    by_cases hji : j = i
    · subst hji; exact hy.wpOp hi hS ⟨hS, H⟩
    · have h1 := (H.2 j (ready_mono hj hji)).2
      obtain ⟨hjun, oj, hoj, hall⟩ := mem_ready.1 hj
      have hnot : ∀ e ∈ oj.after, Region.binds md e = true → e.on ≠ i := fun e he hb heq => by
        have h1 := hall e he hb
        rw [heq, getD_both hun] at h1
        cases h1
      have h2 := wpOp_putIf hoj (hfree j oj hoj hji hjun hnot) (fun cs b => hsel i oi cs b hi) (fun cs b => hsel j oj cs b hoj) hQ hy h1
      have hfree' : ∀ k ok, ops[k]? = some ok → k ≠ i → (listed.setIfInBounds j true).getD k true = false →
          (∀ e ∈ ok.after, Region.binds md e = true → e.on ≠ i) → oi.apart ops ok = true := fun k ok hk hki hun hno => by
        refine hfree k ok hk hki ?_ hno
        by_cases hjk : j = k
        · subst hjk; exact hjun
        · rw [getD_set_ne true hjk] at hun; exact hun
      refine wpOp_mono (fun a' w' h3 => ⟨h3.2.1, ih (listed.setIfInBounds j true) a' w' (inv.set hj hjn) hfree' (ready_mono hr (Ne.symm hji)) h3.1 h3.2.1 ?_⟩) h2
      rw [Array.setIfInBounds_comm _ _ hji]
      exact h3.2.2

/-- the tail, once the head is done -/
def TailL (P : Program) (md : Region.Mode) (ops : Array Oper) (Q : Exit → Act → World → Prop) (n : Nat) (listed : Array Bool) (a : Act) (w : World) : Prop :=
  Region.seqB md ops (ops.size - n) n listed = true ∧ wpList P ops Q (ops.toList.drop n) a w
/-- the walk's goal: f operations of the head are still to come -/
def wpT (P : Program) (ops : Array Oper) (Q : Exit → Act → World → Prop) (S : World → Prop) (n f : Nat) (listed : Array Bool) (a : Act) (w : World) : Prop :=
  HeadInv .any ops n listed → wpHL P .any ops Q S n (TailL P .any ops Q n) f listed a w
def tailB (ops : Array Oper) (n : Nat) : Bool := Region.noSelect ops && decide (n < ops.size) && Region.sinkB .any ops n && Region.chainB .any ops n
/-- begin -/
theorem wp_region_tail {id : Nat} {a : Act} {w : World} (n : Nat) (hm : P.follows .mixedOrders = true) (hB : tailB ops n = true) (hS : S w.drew)
    (h : S w.drew → wpT P ops Q S n n (Array.replicate ops.size false) a w.drew) : (Code.region id ops true).wp P Q a w := by
  simp only [tailB, Bool.and_eq_true, decide_eq_true_eq] at hB
  obtain ⟨⟨⟨hsel, hn⟩, hs⟩, hc⟩ := hB
  have inv0 : HeadInv .any ops n (Array.replicate ops.size false) :=
    ⟨by simp, fun j oj _ hl => (by rw [getD_replicate_false] at hl; cases hl), fun t _ ht => getD_in (by simpa using ht) (getD_replicate_false _ _)⟩
  have hdl : (ops.toList.drop n).length = ops.size - n := by simp
  refine wp_region_any hm ?_
  have := wpAny_of_HL (g := ops.size - n) (fun listed a' w' (hL : TailL P .any ops Q n listed a' w') => by
    have := wpAny_of_seq (md := .any) (Q' := Q) (ops.toList.drop n) n listed a' w' (fun j => by simp [List.getElem?_drop]) (by rw [hdl]; exact hL.1) hL.2
    rwa [hdl] at this) _ _ _ _ (h hS inv0)
  rw [show n + (ops.size - n) = ops.size by omega] at this
  exact this
/-- take number i first -/
theorem wpT_take {i f : Nat} {oi : Oper} {v : Value} {listed : Array Bool} {a : Act} {w : World} (hi : ops[i]? = some oi) (hB : tailB ops n = true) (hr : (decide (i < n) && (Region.ready .any ops listed).contains i) = true)
    (hf : Region.free .any ops listed i = true) (hQ : ∀ c a w, Q (.panic c) (a.put oi.dst v) w → Q (.panic c) a w) (hy : YieldsIf P ops S oi v a) (hS : S w)
    (h : wpT P ops Q S n f (listed.setIfInBounds i true) (a.put oi.dst v) w) : wpT P ops Q S n (f + 1) listed a w := fun inv => by
  simp only [tailB, Bool.and_eq_true, decide_eq_true_eq] at hB hr
  obtain ⟨⟨⟨hsel, hn⟩, hs⟩, hc⟩ := hB
  have hr' : i ∈ Region.ready .any ops listed := by simpa using hr.2
  exact wpHL_first hi (Region.noSelect_spec hsel) hs hc hn hr.1 (fun _ _ _ hL => seqB_ready hL.1) hQ f listed a w inv (Region.free_spec hi hf) hr' hy hS (h (inv.set hr' hr.1))
/-- the same, its small conditions paid by the way -/
theorem tk (i : Nat) {f : Nat} {oi : Oper} (v : Value) {listed : Array Bool} {a : Act} {w : World} (hi : ops[i]? = some oi) (hy : ∀ w, S w → (execOp a.eval oi).run P w = .ok (.value v) w)
    (h : wpT P ops Q S n f (listed.setIfInBounds i true) (a.put oi.dst v) w)
    (hB : tailB ops n = true := by kernel_rfl) (hr : (decide (i < n) && (Region.ready .any ops listed).contains i) = true := by decide +kernel)
    (hf : Region.free .any ops listed i = true := by kernel_rfl) (hQ : ∀ c a w, Q (.panic c) (a.put oi.dst v) w → Q (.panic c) a w := by exact fun _ _ _ h => h)
    (hw : Region.wanted oi (yielded ops a.tmps) = true := by rfl) (hS : S w := by assumption) : wpT P ops Q S n (f + 1) listed a w :=
  wpT_take hi hB hr hf hQ (Or.inl ⟨hw, hy⟩) hS h
/-- number k alone comes up: a call, an alloc -/
theorem wpT_one {k f : Nat} {o : Oper} {listed : Array Bool} {a : Act} {w : World} (ho : ops[k]? = some o) (hr : (decide (k < n) && decide (Region.ready .any ops listed = [k])) = true)
    (h : ∀ K' : Act → World → Prop, Shut (∀ a w, S w → (S w → wpT P ops Q S n f (listed.setIfInBounds k true) a w) → K' a w) → if Region.wanted o (yielded ops a.tmps) = true then Oper.wp P o a w K' Q else K' (a.put o.dst undef) w) :
    wpT P ops Q S n (f + 1) listed a w := fun inv => by
  simp only [Bool.and_eq_true, decide_eq_true_eq] at hr
  refine ⟨fun h0 => (by rw [hr.2] at h0; cases h0), fun i hi => ?_⟩
  rw [hr.2] at hi
  have hik : i = k := by simpa using hi
  subst hik
  exact ⟨hr.1, wpOp_step ho (fun K' hK => h K' (fun a w hS hW => hK a w ⟨hS, hW hS (inv.set (by rw [hr.2]; exact List.mem_cons_self) hr.1)⟩))⟩
/-- one of two comes up -/
theorem wpT_two {j k f : Nat} {o p : Oper} {listed : Array Bool} {a : Act} {w : World} (ho : ops[j]? = some o) (hp : ops[k]? = some p) (hr : (decide (j < n) && decide (k < n) && decide (Region.ready .any ops listed = [j, k])) = true)
    (h1 : ∀ K' : Act → World → Prop, Shut (∀ a w, S w → (S w → wpT P ops Q S n f (listed.setIfInBounds j true) a w) → K' a w) → if Region.wanted o (yielded ops a.tmps) = true then Oper.wp P o a w K' Q else K' (a.put o.dst undef) w)
    (h2 : ∀ K' : Act → World → Prop, Shut (∀ a w, S w → (S w → wpT P ops Q S n f (listed.setIfInBounds k true) a w) → K' a w) → if Region.wanted p (yielded ops a.tmps) = true then Oper.wp P p a w K' Q else K' (a.put p.dst undef) w) :
    wpT P ops Q S n (f + 1) listed a w := fun inv => by
  simp only [Bool.and_eq_true, decide_eq_true_eq] at hr
  refine ⟨fun h0 => (by rw [hr.2] at h0; cases h0), fun i hi => ?_⟩
  have hi' := hi
  rw [hr.2] at hi
  rcases List.mem_cons.1 hi with rfl | hi
  · exact ⟨hr.1.1, wpOp_step ho (fun K' hK => h1 K' (fun a w hS hW => hK a w ⟨hS, hW hS (inv.set hi' hr.1.1)⟩))⟩
  · have hik : i = k := by simpa using hi
    subst hik
    exact ⟨hr.1.2, wpOp_step hp (fun K' hK => h2 K' (fun a w hS hW => hK a w ⟨hS, hW hS (inv.set hi' hr.1.2)⟩))⟩
/-- the head is done -/
theorem wpT_done {listed : Array Bool} {a : Act} {w : World} (hr : Region.seqB .any ops (ops.size - n) n listed = true) (h : wpList P ops Q (ops.toList.drop n) a w) : wpT P ops Q S n 0 listed a w :=
  fun _ => ⟨hr, h⟩
end
end Go.Proofs.YtakfineljffoaaaGreatDoor
namespace Go.Proofs.YtakfineljffoaaaGreatDoor
open Go.RowKit Go.Lib

set_option maxRecDepth 100000 in
theorem isKind_any (k : Int) (w : World) : Calls Tryz.prog 115 #[.int .u8 k] w fun e w' => e = .returned (.bool (isK k)) ∧ w = w' := by
  by_cases h1 : k = 127
  · subst h1
    go_enter Tryz.func115, Tryz.ntmps115
    go_wp2_with fail
    go_ret
    exact ⟨rfl, rfl⟩
  · have e1 : (k == 127) = false := by simpa using h1
    by_cases h2 : k = 126
    · subst h2
      go_enter Tryz.func115, Tryz.ntmps115
      go_wp2_with fail
      go_ret
      exact ⟨rfl, rfl⟩
    · have e2 : (k == 126) = false := by simpa using h2
      have HR := hid (show isK k = false from decide_eq_false (by omega))
      clear h1 h2
      go_enter Tryz.func115, Tryz.ntmps115
      go_wp2_with fail
      go_ret
      rw [HR.out]
      exact ⟨rfl, rfl⟩
end Go.Proofs.YtakfineljffoaaaGreatDoor
namespace Go.Proofs.YtakfineljffoaaaGreatDoor
open Go.RowKit

/-- a name, read: the number a and how many bytes k stand ahead of it, or the error e -/
structure RN (t : ByteArray) (a k e : Nat) (X : ByteArray) (K E : Int) : Prop where
  h : (e ≠ 0 ∧ X = ⟨#[]⟩ ∧ K = 0 ∧ E = e) ∨
    (e = 0 ∧ 16 < a ∧ X = ⟨#[]⟩ ∧ K = 0 ∧ E = 2) ∨
    (e = 0 ∧ a ≤ 16 ∧ t.size - k < a ∧ X = ⟨#[]⟩ ∧ K = 0 ∧ E = 3) ∨
    (e = 0 ∧ a ≤ 16 ∧ a ≤ t.size - k ∧ Lib.validD (t.extract k (k + a)).data.toList = false ∧ X = ⟨#[]⟩ ∧ K = 0 ∧ E = 4) ∨
    (e = 0 ∧ a ≤ 16 ∧ a ≤ t.size - k ∧ Lib.validD (t.extract k (k + a)).data.toList = true ∧ X = t.extract k (k + a) ∧ K = ((k + a : Nat) : Int) ∧ E = 0)
theorem rn_some (t : ByteArray) (a k e : Nat) : ∃ X K E, RN t a k e X K E := by
  by_cases h1 : e ≠ 0
  · exact ⟨_, _, _, ⟨.inl ⟨h1, rfl, rfl, rfl⟩⟩⟩
  have h1' : e = 0 := by omega
  by_cases h2 : 16 < a
  · exact ⟨_, _, _, ⟨.inr (.inl ⟨h1', h2, rfl, rfl, rfl⟩)⟩⟩
  by_cases h3 : t.size - k < a
  · exact ⟨_, _, _, ⟨.inr (.inr (.inl ⟨h1', by omega, h3, rfl, rfl, rfl⟩))⟩⟩
  cases h4 : Lib.validD (t.extract k (k + a)).data.toList
  · exact ⟨_, _, _, ⟨.inr (.inr (.inr (.inl ⟨h1', by omega, by omega, h4, rfl, rfl, rfl⟩)))⟩⟩
  · exact ⟨_, _, _, ⟨.inr (.inr (.inr (.inr ⟨h1', by omega, by omega, h4, rfl, rfl, rfl⟩)))⟩⟩
theorem ext_twice (t : ByteArray) (k a : Nat) (_h : k + a ≤ t.size) : (t.extract k t.size).extract 0 a = t.extract k (k + a) := by
  apply Go.WideShapes.bytes_inj
  rw [ByteArray.data_extract, Array.toList_extract, ByteArray.data_extract, Array.toList_extract, ByteArray.data_extract, Array.toList_extract]
  simp [List.extract]
  rw [List.take_of_length_le (l := List.drop k t.data.toList) (by rw [List.length_drop, Array.length_toList]; exact Nat.le_refl _)]

set_option maxRecDepth 100000 in
set_option maxHeartbeats 4000000 in
theorem preadname (t : ByteArray) (hs : t.size ≤ maxLen) (a k e : Nat) (hru : ru 32 t.data.toList 0 0 = (a, k, e)) (X : ByteArray) (K E : Int) (hr : RN t a k e X K E) (w : World) (hT : UTabs w) :
    Calls Tryz.prog 86 #[.string t] w fun e' w' => e' = .returned (.tuple #[.string X, .int .i64 K, .int .i64 E]) ∧ Below w.heap.size w w' := by
  have hs2 := hs
  unfold maxLen at hs2
  have HU := hid (readU_ok t 32 w hs (.inl rfl))
  rw [hru] at HU
  unfold tup3 at HU
  have hf := (ru_facts (.inl rfl) t.data.toList 0 0 (by decide) (by decide) (b := 32)).1
  rw [hru] at hf
  have hdl : t.data.toList.length = t.size := Array.length_toList
  simp only [Nat.zero_add, hdl] at hf
  have HT := hid hT
  clear hT
  rcases hr.h with ⟨h1, rfl, rfl, rfl⟩ | ⟨h1, h2, rfl, rfl, rfl⟩ | ⟨h1, h2, h3, rfl, rfl, rfl⟩ | ⟨h1, h2, h3, hv, rfl, rfl, rfl⟩ | ⟨h1, h2, h3, hv, rfl, rfl, rfl⟩
  · have g1 : ((e : Int) != 0) = true := by simp; omega
    clear hf hru hr
    go_enter Tryz.func86, Tryz.ntmps86
    go_wp2_with (go_at_call 84; refine HU.out.mono ?_; rintro r w1 ⟨rfl, rfl⟩)
    go_ret3
    exact ⟨rfl, Below.refl _ _⟩
  · subst h1
    obtain ⟨hk0, hkt, ha⟩ := hf rfl
    clear hf hru hr
    have ha2 : a < 4294967296 := ha
    clear ha
    have gk : (k : Int) ≤ t.size := by omega
    have hsz : (t.extract k t.size).size = t.size - k := by rw [ByteArray.size_extract]; omega
    have g2 : (16 : Int) < a := by omega
    go_enter Tryz.func86, Tryz.ntmps86
    go_wp2_with (go_at_call 84; refine HU.out.mono ?_; rintro r w1 ⟨rfl, rfl⟩)
    go_ret3
    exact ⟨rfl, Below.refl _ _⟩
  · subst h1
    obtain ⟨hk0, hkt, ha⟩ := hf rfl
    clear hf hru hr
    have ha2 : a < 4294967296 := ha
    clear ha
    have gk : (k : Int) ≤ t.size := by omega
    have hsz : (t.extract k t.size).size = t.size - k := by rw [ByteArray.size_extract]; omega
    have g2 : ¬ (16 : Int) < a := by omega
    have g3 : ((t.size - k : Nat) : Int) = (t.size : Int) - k := by omega
    have g4 : (t.size : Int) - k < a := by omega
    go_enter Tryz.func86, Tryz.ntmps86
    go_wp2_with (go_at_call 84; refine HU.out.mono ?_; rintro r w1 ⟨rfl, rfl⟩)
    go_ret3
    exact ⟨rfl, Below.refl _ _⟩
  · subst h1
    obtain ⟨hk0, hkt, ha⟩ := hf rfl
    clear hf hru hr
    have ha2 : a < 4294967296 := ha
    clear ha
    have gk : (k : Int) ≤ t.size := by omega
    have hsz : (t.extract k t.size).size = t.size - k := by rw [ByteArray.size_extract]; omega
    have g2 : ¬ (16 : Int) < a := by omega
    have g3 : ((t.size - k : Nat) : Int) = (t.size : Int) - k := by omega
    have g4 : ¬ (t.size : Int) - k < a := by omega
    have g5 : ((k + a : Nat) : Int) = (k : Int) + a := by omega
    have hx := ext_twice t k a (by omega)
    have hxs : (t.extract k (k + a)).size ≤ 9223372036854775807 := by rw [ByteArray.size_extract]; omega
    have HV : Hid (∀ w', UTabs w' → Calls Tryz.prog 116 #[.string (t.extract k (k + a))] w' fun e w2 => e = .returned (.bool (Lib.validD (t.extract k (k + a)).data.toList)) ∧ Below w'.heap.size w' w2) := hid (fun w' h => valid_any _ hxs w' h)
    rw [hv] at HV
    clear hv hxs
    go_enter Tryz.func86, Tryz.ntmps86
    go_wp2_with (first | (go_at_call 84; refine HU.out.mono ?_; rintro r w1 ⟨rfl, rfl⟩) | (go_at_call 116; refine (HV.out _ HT.out).mono ?_; rintro r w2 ⟨rfl, hb2⟩; have B2 := hid ((Below.refl _ _ : Below w.heap.size w w).trans hb2); clear hb2))
    go_ret3
    exact ⟨rfl, B2.out⟩
  · subst h1
    obtain ⟨hk0, hkt, ha⟩ := hf rfl
    clear hf hru hr
    have ha2 : a < 4294967296 := ha
    clear ha
    have gk : (k : Int) ≤ t.size := by omega
    have hsz : (t.extract k t.size).size = t.size - k := by rw [ByteArray.size_extract]; omega
    have g2 : ¬ (16 : Int) < a := by omega
    have g3 : ((t.size - k : Nat) : Int) = (t.size : Int) - k := by omega
    have g4 : ¬ (t.size : Int) - k < a := by omega
    have g5 : ((k + a : Nat) : Int) = (k : Int) + a := by omega
    have hx := ext_twice t k a (by omega)
    have hxs : (t.extract k (k + a)).size ≤ 9223372036854775807 := by rw [ByteArray.size_extract]; omega
    have HV : Hid (∀ w', UTabs w' → Calls Tryz.prog 116 #[.string (t.extract k (k + a))] w' fun e w2 => e = .returned (.bool (Lib.validD (t.extract k (k + a)).data.toList)) ∧ Below w'.heap.size w' w2) := hid (fun w' h => valid_any _ hxs w' h)
    rw [hv] at HV
    clear hv hxs
    go_enter Tryz.func86, Tryz.ntmps86
    go_wp2_with (first | (go_at_call 84; refine HU.out.mono ?_; rintro r w1 ⟨rfl, rfl⟩) | (go_at_call 116; refine (HV.out _ HT.out).mono ?_; rintro r w2 ⟨rfl, hb2⟩; have B2 := hid ((Below.refl _ _ : Below w.heap.size w w).trans hb2); clear hb2))
    go_ret3
    exact ⟨rfl, B2.out⟩

set_option maxRecDepth 100000 in
set_option maxHeartbeats 4000000 in
theorem rreadname (t : ByteArray) (hs : t.size ≤ maxLen) (a k e : Nat) (hru : ru 32 t.data.toList 0 0 = (a, k, e)) (X : ByteArray) (K E : Int) (hr : RN t a k e X K E) (w : World) :
    Calls Tryz.prog 91 #[.string t] w fun e' w' => e' = .returned (.tuple #[.string X, .int .i64 K, .int .i64 E]) ∧ Below w.heap.size w w' := by
  have hs2 := hs
  unfold maxLen at hs2
  have HU := hid (refU_all t 32 w hs (.inl rfl))
  rw [hru] at HU
  unfold tup3 at HU
  have hf := (ru_facts (.inl rfl) t.data.toList 0 0 (by decide) (by decide) (b := 32)).1
  rw [hru] at hf
  have hdl : t.data.toList.length = t.size := Array.length_toList
  simp only [Nat.zero_add, hdl] at hf
  rcases hr.h with ⟨h1, rfl, rfl, rfl⟩ | ⟨h1, h2, rfl, rfl, rfl⟩ | ⟨h1, h2, h3, rfl, rfl, rfl⟩ | ⟨h1, h2, h3, hv, rfl, rfl, rfl⟩ | ⟨h1, h2, h3, hv, rfl, rfl, rfl⟩
  · have g1 : ((e : Int) != 0) = true := by simp; omega
    clear hf hru hr
    go_enter Tryz.func91, Tryz.ntmps91
    go_wp2_with (go_at_call 90; refine HU.out.mono ?_; rintro r w1 ⟨rfl, nn, rfl⟩)
    go_ret3
    exact ⟨rfl, drewN_below (Below.refl _ _)⟩
  · subst h1
    obtain ⟨hk0, hkt, ha⟩ := hf rfl
    clear hf hru hr
    have ha2 : a < 4294967296 := ha
    clear ha
    have gk : (k : Int) ≤ t.size := by omega
    have hsz : (t.extract k t.size).size = t.size - k := by rw [ByteArray.size_extract]; omega
    have g2 : (16 : Int) < a := by omega
    go_enter Tryz.func91, Tryz.ntmps91
    go_wp2_with (go_at_call 90; refine HU.out.mono ?_; rintro r w1 ⟨rfl, nn, rfl⟩)
    go_ret3
    exact ⟨rfl, drewN_below (Below.refl _ _)⟩
  · subst h1
    obtain ⟨hk0, hkt, ha⟩ := hf rfl
    clear hf hru hr
    have ha2 : a < 4294967296 := ha
    clear ha
    have gk : (k : Int) ≤ t.size := by omega
    have hsz : (t.extract k t.size).size = t.size - k := by rw [ByteArray.size_extract]; omega
    have g2 : ¬ (16 : Int) < a := by omega
    have g3 : ((t.size - k : Nat) : Int) = (t.size : Int) - k := by omega
    have g4 : (t.size : Int) - k < a := by omega
    go_enter Tryz.func91, Tryz.ntmps91
    go_wp2_with (go_at_call 90; refine HU.out.mono ?_; rintro r w1 ⟨rfl, nn, rfl⟩)
    go_ret3
    exact ⟨rfl, drewN_below (Below.refl _ _)⟩
  · subst h1
    obtain ⟨hk0, hkt, ha⟩ := hf rfl
    clear hf hru hr
    have ha2 : a < 4294967296 := ha
    clear ha
    have gk : (k : Int) ≤ t.size := by omega
    have hsz : (t.extract k t.size).size = t.size - k := by rw [ByteArray.size_extract]; omega
    have g2 : ¬ (16 : Int) < a := by omega
    have g3 : ((t.size - k : Nat) : Int) = (t.size : Int) - k := by omega
    have g4 : ¬ (t.size : Int) - k < a := by omega
    have g5 : ((k + a : Nat) : Int) = (k : Int) + a := by omega
    have hxs : (t.extract k (k + a)).size ≤ 9223372036854775807 := by rw [ByteArray.size_extract]; omega
    have HV : Hid (∀ w', True → Calls Tryz.prog 120 #[.string (t.extract k (k + a))] w' fun e w2 => e = .returned (.bool (Lib.validD (t.extract k (k + a)).data.toList)) ∧ Below w'.heap.size w' w2) := hid (fun w' h => isText_any _ hxs w')
    rw [hv] at HV
    clear hv hxs
    go_enter Tryz.func91, Tryz.ntmps91
    go_wp2_with (first | (go_at_call 90; refine HU.out.mono ?_; rintro r w1 ⟨rfl, nn, rfl⟩) | (go_at_call 120; refine (HV.out _ trivial).mono ?_; rintro r w2 ⟨rfl, hb2⟩; have B2 := hid ((drewN_below (n := nn) (Below.refl _ _) : Below w.heap.size w (w.drewN nn)).trans hb2); clear hb2))
    go_ret3
    exact ⟨rfl, B2.out⟩
  · subst h1
    obtain ⟨hk0, hkt, ha⟩ := hf rfl
    clear hf hru hr
    have ha2 : a < 4294967296 := ha
    clear ha
    have gk : (k : Int) ≤ t.size := by omega
    have hsz : (t.extract k t.size).size = t.size - k := by rw [ByteArray.size_extract]; omega
    have g2 : ¬ (16 : Int) < a := by omega
    have g3 : ((t.size - k : Nat) : Int) = (t.size : Int) - k := by omega
    have g4 : ¬ (t.size : Int) - k < a := by omega
    have g5 : ((k + a : Nat) : Int) = (k : Int) + a := by omega
    have hxs : (t.extract k (k + a)).size ≤ 9223372036854775807 := by rw [ByteArray.size_extract]; omega
    have HV : Hid (∀ w', True → Calls Tryz.prog 120 #[.string (t.extract k (k + a))] w' fun e w2 => e = .returned (.bool (Lib.validD (t.extract k (k + a)).data.toList)) ∧ Below w'.heap.size w' w2) := hid (fun w' h => isText_any _ hxs w')
    rw [hv] at HV
    clear hv hxs
    go_enter Tryz.func91, Tryz.ntmps91
    go_wp2_with (first | (go_at_call 90; refine HU.out.mono ?_; rintro r w1 ⟨rfl, nn, rfl⟩) | (go_at_call 120; refine (HV.out _ trivial).mono ?_; rintro r w2 ⟨rfl, hb2⟩; have B2 := hid ((drewN_below (n := nn) (Below.refl _ _) : Below w.heap.size w (w.drewN nn)).trans hb2); clear hb2))
    go_ret3
    exact ⟨rfl, B2.out⟩

end Go.Proofs.YtakfineljffoaaaGreatDoor
namespace Go.Proofs.YtakfineljffoaaaGreatDoor
open Go.RowKit Go.Lib

theorem rdq_rdp {w w' : World} {t : ByteArray} {e : Ending} {op : Nat} {so : ByteArray × Int} (ho : octM (t, 0) = (op, so)) (h9 : tB op ≤ 9) (h : RdQ w t.size op (frmL (sdL (tB op)) ((0, 0, []), sayM (decide (tB op = 0)) 6 so)) e w') : RdP w t e w' := by
  unfold RdP rdI
  rw [ho]
  simp only
  have hsb : tB op = 0 → (sayM (decide (tB op = 0)) 6 so).2 ≠ 0 := fun g => by rw [g]; exact say_bad (e := 6) (by decide) so
  generalize sayM (decide (tB op = 0)) 6 so = s at *
  by_cases hb : s.2 = 0
  · have hk : 1 ≤ tB op ∧ tB op ≤ 9 := ⟨by have : tB op ≠ 0 := fun g => hsb g hb
                                           omega, h9⟩
    rw [show frmL (sdL (tB op)) ((0, 0, []), s) = besM (tB op) s from frm_bes _ hk s] at h
    simp only [if_pos hb]
    exact h
  · simp only [if_neg hb]
    obtain ⟨u, h1, h2⟩ := h
    have hk := frmL_keep (sdL (tB op)) ((0, 0, []), s) hb
    rw [hk] at h1
    simp only [if_neg hb] at h1
    exact ⟨u, h1, h2⟩
theorem sd_letters : ∀ k, k < 10 → (sdL k).length ≤ 2 ∧ ∀ c ∈ sdL k, (c = 63 ∨ c = 107 ∨ c = 97 ∨ c = 116 ∨ c = 122 ∨ c = 98 ∨ c = 99 ∨ c = 100) := by decide +kernel
theorem sd_quest : ∀ k, k < 10 → (sdL k == [63]) = decide (k = 0) := by decide +kernel
theorem rread_any (w : World) (t : ByteArray) (ht : t.size ≤ 140737488351232) (hM : MaxL w) :
    Calls Tryz.prog 122 #[.string t] w fun e w' => RdP w t e w' := by
  have hop := octM_lt (t, 0)
  generalize ho : octM (t, 0) = o at hop
  obtain ⟨op, so⟩ := o
  simp only at hop
  have h9 := tB_le ⟨op, hop⟩
  simp only at h9
  refine (rread_q w t ht op so hop ho (S (sdL (tB op))) ?_ ?_ (fun w' hb => rbeside_any op hop w' (hM.below hb)) _ (by rw [Go.ByteArray.toList_eq]; exact sd_quest _ (by omega)) _ rfl).mono (fun e w' h => rdq_rdp ho h9 h)
  · rw [S_size]; exact (sd_letters _ (by omega)).1
  · intro i h
    exact (sd_letters (tB op) (by omega)).2 _ (List.getElem_mem (l := sdL (tB op)) (by rw [S_size] at h; exact h))

set_option maxRecDepth 100000 in
set_option maxHeartbeats 1000000 in
theorem sameIns_any (op : Nat) (A B : Int) (v u : Value) (xs : List Int) (w : World) (hv : Ints w .i64 v xs) (hu : Ints w .i64 u xs) :
    Calls Tryz.prog 46 #[insV op A B v, insV op A B u] w fun e w' => e = .returned (.bool true) ∧ Below w.heap.size w w' := by
  have hb : Below w.heap.size w ((w.alloc (.cells #[.int .u8 op, .int .i64 A, .int .i64 B, v] 97)).alloc (.cells #[.int .u8 op, .int .i64 A, .int .i64 B, u] 97)) := ((Below.refl _ _).alloc (Nat.le_refl _) _).alloc (by simp) _
  have X := (Blk.new w #[.int .u8 op, .int .i64 A, .int .i64 B, v] 97 _ rfl).alloc (.cells #[.int .u8 op, .int .i64 A, .int .i64 B, u] 97)
  have Y := Blk.new (w.alloc (.cells #[.int .u8 op, .int .i64 A, .int .i64 B, v] 97)) #[.int .u8 op, .int .i64 A, .int .i64 B, u] 97 (w.heap.size + 1) (by simp)
  have HQ := hid (eq_int64 v u xs xs _ (L1.below hv hb) (L1.below hu hb))
  rw [decide_eq_true rfl] at HQ
  have HB := hid hb
  have x0 := X.cell (i := 0) rfl
  have x1 := X.cell (i := 1) rfl
  have x2 := X.cell (i := 2) rfl
  have x3 := X.cell (i := 3) rfl
  have y0 := Y.cell (i := 0) rfl
  have y1 := Y.cell (i := 1) rfl
  have y2 := Y.cell (i := 2) rfl
  have y3 := Y.cell (i := 3) rfl
  obtain ⟨ao, cap, rfl, -⟩ := id hv
  obtain ⟨ao', cap', rfl, -⟩ := id hu
  clear hv hu hb X Y
  go_enter Tryz.func46, Tryz.ntmps46
  go_wp2_with (go_at_call 83; refine HQ.out.mono ?_; rintro r w1 ⟨rfl, rfl⟩)
  go_ret
  exact ⟨rfl, HB.out⟩
end Go.Proofs.YtakfineljffoaaaGreatDoor
namespace Go.Proofs.YtakfineljffoaaaGreatDoor
open Go.RowKit Go.Lib
attribute [local go_sem ↓] Go.wp_at_zero Go.wp_at_succ

set_option maxRecDepth 100000 in
set_option maxHeartbeats 2000000 in
theorem sameAll_SaS (w : World) (va vb : Value) (ca cb : List (List Value)) (hl : ca.length = cb.length) (hla : ∀ c ∈ ca, c.length = 2) (hlb : ∀ c ∈ cb, c.length = 2) (ha : Sl w va ca.length ca.flatten) (hb : Sl w vb cb.length cb.flatten)
    (hs : ∀ i (h1 : i < ca.length) (h2 : i < cb.length) (w' : World), Below w.heap.size w w' → Calls Tryz.prog 30 #[.agg ca[i].toArray, .agg cb[i].toArray] w' fun e w2 => e = .returned (.bool true) ∧ Below w'.heap.size w' w2) :
    Calls Tryz.prog 29 #[va, vb, .func (.func 30) #[] #[]] w fun e w' => e = .returned (.bool true) ∧ Below w.heap.size w w' := by
  rcases sm_open (s := 2) (by decide) hla ha with ⟨ao, cap, rfl, h0⟩ | ⟨b, off, cap, rfl, h0, hcap, hm, hca⟩
  · have hb0 : cb.length = 0 := by omega
    obtain ⟨ao', cap', rfl, _, _, _, _⟩ := hb
    rw [hb0]
    clear hs hb0 hl hla hlb ha h0
    go_enter Tryz.func29, Tryz.ntmps29
    go_wp2
    refine wp_loop_rounds 1 ?_; rw [rounds_succ]; go_wp2
    go_ret
    exact ⟨rfl, Below.refl _ _⟩
  rcases sm_open (s := 2) (by decide) hlb hb with ⟨ao', cap', rfl, h0'⟩ | ⟨b', off', cap', rfl, h0', hcap', hm', hcb⟩
  · omega
  have hne : ((ca.length : Int) != cb.length) = false := by simp [hl]
  have HL := hid hl
  have HCA := hid hca
  have HCB := hid hcb
  have HS := hid hs
  have HLA := hid hla
  have HLB := hid hlb
  clear hl hca hcb hs hla hlb ha hb
  go_enter Tryz.func29, Tryz.ntmps29
  go_wp2
  go_loopw [15] (fun i wr => ∃ k : Nat, k ≤ ca.length ∧ i = .int .i64 k ∧ Hid (Below w.heap.size w wr)) (fun i _ => ca.length - (RowKit.intOf i).toNat)
  case atStart => exact ⟨0, Nat.zero_le _, rfl, hid (Below.refl _ _)⟩
  case round =>
    obtain ⟨k, hk, rfl, HB⟩ := hrel
    by_cases hlt : k < ca.length
    · have hlt' : k < cb.length := by have := HL.out; omega
      have hh := HS.out k hlt hlt' wr.drew (below_dr HB.out)
      obtain ⟨c0, c1, hea⟩ := sm_split2 (HLA.out _ (List.getElem_mem hlt))
      obtain ⟨d0, d1, heb⟩ := sm_split2 (HLB.out _ (List.getElem_mem hlt'))
      rw [hea, heb] at hh
      have HH := hid hh
      have HEA := hid hea
      have HEB := hid heb
      have e0 : wr.drew.cell? ⟨b, off + k * 2, none⟩ = some c0 := sm_at HCA.out (below_dr HB.out) hlt HLA.out hea (f := 0) rfl
      have e1 : wr.drew.cell? ⟨b, off + k * 2 + 1, none⟩ = some c1 := sm_at HCA.out (below_dr HB.out) hlt HLA.out hea (f := 1) rfl
      have f0 : wr.drew.cell? ⟨b', off' + k * 2, none⟩ = some d0 := sm_at HCB.out (below_dr HB.out) hlt' HLB.out heb (f := 0) rfl
      have f1 : wr.drew.cell? ⟨b', off' + k * 2 + 1, none⟩ = some d1 := sm_at HCB.out (below_dr HB.out) hlt' HLB.out heb (f := 1) rfl
      clear hh hea heb
      have hi0 : (0 : Int) ≤ (k : Int) := by omega
      have hi1 : (k : Int) < (ca.length : Int) := by omega
      have hi2 : (k : Int) < (cb.length : Int) := by omega
      go_wp2_with fail
      go_region_held3 (fun w' => w'.cell? ⟨b, off + k * 2, none⟩ = some c0 ∧ w'.cell? ⟨b, off + k * 2 + 1, none⟩ = some c1 ∧ w'.cell? ⟨b', off' + k * 2, none⟩ = some d0 ∧ w'.cell? ⟨b', off' + k * 2 + 1, none⟩ = some d1) (first | exact ⟨e0, e1, f0, f1⟩ | exact ⟨sm_at HCA.out HB3.out hlt HLA.out HEA.out (f := 0) rfl, sm_at HCA.out HB3.out hlt HLA.out HEA.out (f := 1) rfl, sm_at HCB.out HB3.out hlt' HLB.out HEB.out (f := 0) rfl, sm_at HCB.out HB3.out hlt' HLB.out HEB.out (f := 1) rfl⟩ | go_keep) (first | (go_at_call 30; (with_reducible refine HH.out.mono ?_); rintro r w3 ⟨rfl, h1⟩; have HB3 := hid (HB.out.trans ((below_dr (Below.refl wr.heap.size wr)).trans h1 |>.mono HB.out.size)); clear h1))
      all_goals
        go_wp2_with fail
        go_roundw
        case rel => exact ⟨k + 1, by omega, by go_num, HB3⟩
        case measure => simp [RowKit.intOf]; omega
    · go_wp2
      go_ret
      exact ⟨rfl, HB.out⟩
end Go.Proofs.YtakfineljffoaaaGreatDoor
namespace Go.Proofs.YtakfineljffoaaaGreatDoor
open Go.RowKit Go.Lib
attribute [local go_sem ↓] Go.wp_at_zero Go.wp_at_succ

set_option maxRecDepth 100000 in
set_option maxHeartbeats 2000000 in
theorem sameAll_SaI (w : World) (va vb : Value) (ca cb : List (List Value)) (hl : ca.length = cb.length) (hla : ∀ c ∈ ca, c.length = 4) (hlb : ∀ c ∈ cb, c.length = 4) (ha : Sl w va ca.length ca.flatten) (hb : Sl w vb cb.length cb.flatten)
    (hs : ∀ i (h1 : i < ca.length) (h2 : i < cb.length) (w' : World), Below w.heap.size w w' → Calls Tryz.prog 46 #[.agg ca[i].toArray, .agg cb[i].toArray] w' fun e w2 => e = .returned (.bool true) ∧ Below w'.heap.size w' w2) :
    Calls Tryz.prog 45 #[va, vb, .func (.func 46) #[] #[]] w fun e w' => e = .returned (.bool true) ∧ Below w.heap.size w w' := by
  rcases sm_open (s := 4) (by decide) hla ha with ⟨ao, cap, rfl, h0⟩ | ⟨b, off, cap, rfl, h0, hcap, hm, hca⟩
  · have hb0 : cb.length = 0 := by omega
    obtain ⟨ao', cap', rfl, _, _, _, _⟩ := hb
    rw [hb0]
    clear hs hb0 hl hla hlb ha h0
    go_enter Tryz.func45, Tryz.ntmps45
    go_wp2
    refine wp_loop_rounds 1 ?_; rw [rounds_succ]; go_wp2
    go_ret
    exact ⟨rfl, Below.refl _ _⟩
  rcases sm_open (s := 4) (by decide) hlb hb with ⟨ao', cap', rfl, h0'⟩ | ⟨b', off', cap', rfl, h0', hcap', hm', hcb⟩
  · omega
  have hne : ((ca.length : Int) != cb.length) = false := by simp [hl]
  have HL := hid hl
  have HCA := hid hca
  have HCB := hid hcb
  have HS := hid hs
  have HLA := hid hla
  have HLB := hid hlb
  clear hl hca hcb hs hla hlb ha hb
  go_enter Tryz.func45, Tryz.ntmps45
  go_wp2
  go_loopw [15] (fun i wr => ∃ k : Nat, k ≤ ca.length ∧ i = .int .i64 k ∧ Hid (Below w.heap.size w wr)) (fun i _ => ca.length - (RowKit.intOf i).toNat)
  case atStart => exact ⟨0, Nat.zero_le _, rfl, hid (Below.refl _ _)⟩
  case round =>
    obtain ⟨k, hk, rfl, HB⟩ := hrel
    by_cases hlt : k < ca.length
    · have hlt' : k < cb.length := by have := HL.out; omega
      have hh := HS.out k hlt hlt' wr.drew (below_dr HB.out)
      obtain ⟨c0, c1, c2, c3, hea⟩ := sm_split4 (HLA.out _ (List.getElem_mem hlt))
      obtain ⟨d0, d1, d2, d3, heb⟩ := sm_split4 (HLB.out _ (List.getElem_mem hlt'))
      rw [hea, heb] at hh
      have HH := hid hh
      have HEA := hid hea
      have HEB := hid heb
      have e0 : wr.drew.cell? ⟨b, off + k * 4, none⟩ = some c0 := sm_at HCA.out (below_dr HB.out) hlt HLA.out hea (f := 0) rfl
      have e1 : wr.drew.cell? ⟨b, off + k * 4 + 1, none⟩ = some c1 := sm_at HCA.out (below_dr HB.out) hlt HLA.out hea (f := 1) rfl
      have e2 : wr.drew.cell? ⟨b, off + k * 4 + 2, none⟩ = some c2 := sm_at HCA.out (below_dr HB.out) hlt HLA.out hea (f := 2) rfl
      have e3 : wr.drew.cell? ⟨b, off + k * 4 + 3, none⟩ = some c3 := sm_at HCA.out (below_dr HB.out) hlt HLA.out hea (f := 3) rfl
      have f0 : wr.drew.cell? ⟨b', off' + k * 4, none⟩ = some d0 := sm_at HCB.out (below_dr HB.out) hlt' HLB.out heb (f := 0) rfl
      have f1 : wr.drew.cell? ⟨b', off' + k * 4 + 1, none⟩ = some d1 := sm_at HCB.out (below_dr HB.out) hlt' HLB.out heb (f := 1) rfl
      have f2 : wr.drew.cell? ⟨b', off' + k * 4 + 2, none⟩ = some d2 := sm_at HCB.out (below_dr HB.out) hlt' HLB.out heb (f := 2) rfl
      have f3 : wr.drew.cell? ⟨b', off' + k * 4 + 3, none⟩ = some d3 := sm_at HCB.out (below_dr HB.out) hlt' HLB.out heb (f := 3) rfl
      clear hh hea heb
      have hi0 : (0 : Int) ≤ (k : Int) := by omega
      have hi1 : (k : Int) < (ca.length : Int) := by omega
      have hi2 : (k : Int) < (cb.length : Int) := by omega
      go_wp2_with fail
      go_region_held3 (fun w' => w'.cell? ⟨b, off + k * 4, none⟩ = some c0 ∧ w'.cell? ⟨b, off + k * 4 + 1, none⟩ = some c1 ∧ w'.cell? ⟨b, off + k * 4 + 2, none⟩ = some c2 ∧ w'.cell? ⟨b, off + k * 4 + 3, none⟩ = some c3 ∧ w'.cell? ⟨b', off' + k * 4, none⟩ = some d0 ∧ w'.cell? ⟨b', off' + k * 4 + 1, none⟩ = some d1 ∧ w'.cell? ⟨b', off' + k * 4 + 2, none⟩ = some d2 ∧ w'.cell? ⟨b', off' + k * 4 + 3, none⟩ = some d3) (first | exact ⟨e0, e1, e2, e3, f0, f1, f2, f3⟩ | exact ⟨sm_at HCA.out HB3.out hlt HLA.out HEA.out (f := 0) rfl, sm_at HCA.out HB3.out hlt HLA.out HEA.out (f := 1) rfl, sm_at HCA.out HB3.out hlt HLA.out HEA.out (f := 2) rfl, sm_at HCA.out HB3.out hlt HLA.out HEA.out (f := 3) rfl, sm_at HCB.out HB3.out hlt' HLB.out HEB.out (f := 0) rfl, sm_at HCB.out HB3.out hlt' HLB.out HEB.out (f := 1) rfl, sm_at HCB.out HB3.out hlt' HLB.out HEB.out (f := 2) rfl, sm_at HCB.out HB3.out hlt' HLB.out HEB.out (f := 3) rfl⟩ | go_keep) (first | (go_at_call 46; (with_reducible refine HH.out.mono ?_); rintro r w3 ⟨rfl, h1⟩; have HB3 := hid (HB.out.trans ((below_dr (Below.refl wr.heap.size wr)).trans h1 |>.mono HB.out.size)); clear h1))
      all_goals
        go_wp2_with fail
        go_roundw
        case rel => exact ⟨k + 1, by omega, by go_num, HB3⟩
        case measure => simp [RowKit.intOf]; omega
    · go_wp2
      go_ret
      exact ⟨rfl, HB.out⟩
end Go.Proofs.YtakfineljffoaaaGreatDoor
namespace Go.Proofs.YtakfineljffoaaaGreatDoor
open Go.RowKit Go.Lib

theorem ItAt.len {w : World} {cs : List Value} {x : It} (h : ItAt w cs x) : cs.length = 4 := by
  obtain ⟨u, e, _⟩ := h
  rw [e]; rfl
set_option maxRecDepth 100000 in
set_option maxHeartbeats 1000000 in
theorem sameBody_any (w : World) (va vb : Value) (l : List It) (ha : BodS w va l) (hb : BodS w vb l) :
    Calls Tryz.prog 10 #[va, vb] w fun e w' => e = .returned (.bool true) ∧ Below w.heap.size w w' := by
  obtain ⟨ca, ea, sa, ia⟩ := ha
  obtain ⟨cb, eb, sb, ib⟩ := hb
  have HS := hid (sameAll_SaI w va vb ca cb (by omega) (fun c hc => by
      obtain ⟨i, hi, rfl⟩ := List.getElem_of_mem hc
      exact (ia i hi (by omega)).len) (fun c hc => by
      obtain ⟨i, hi, rfl⟩ := List.getElem_of_mem hc
      exact (ib i hi (by omega)).len) (by rw [ea]; exact sa) (by rw [eb]; exact sb) (fun i h1 h2 w' hbw => by
      obtain ⟨u, e1, t1⟩ := ia i h1 (by omega)
      obtain ⟨u', e2, t2⟩ := ib i h2 (by omega)
      rw [e1, e2]
      exact sameIns_any l[i].op l[i].A l[i].B u u' l[i].tos w' (L1.below t1 hbw) (L1.below t2 hbw)))
  obtain ⟨ao, cap, rfl, -⟩ := sa
  obtain ⟨ao', cap', rfl, -⟩ := sb
  clear ia ib ea eb
  go_enter Tryz.func10, Tryz.ntmps10
  go_wp2_with fail
  refine HS.out.mono ?_
  rintro r w1 ⟨rfl, g1⟩
  have HB := hid g1
  clear g1
  go_wp2_with fail
  go_ret
  exact ⟨rfl, HB.out⟩
end Go.Proofs.YtakfineljffoaaaGreatDoor
namespace Go.Proofs.YtakfineljffoaaaGreatDoor
open Go

section
variable {H : Type} {enc : TypeId × Value → H}
theorem handed_and_shaped {a : Assume} {C : Checked} {os : Os} {f : FuncId} {fn : Func} {s : ChangeSpec} {conds : List PathCond} {apart fresh handsOn again : Bool} {X : World → Array Value → Prop}
    (hX : ∀ (w w' : World) (args : Array Value), w.heap = w'.heap → X w args → X w' args)
    (own : ownKnob C.prog.godebug = none) (started : os.Started) (noInit : C.prog.inits.idxOf? f = none) (hfn : C.prog.funcs[f]? = some fn)
    (witness : ∃ (w : World) (tape : Tape) (i : Input), w.os = os ∧ (w.forCall tape i).Shaped C.prog ∧ i.vars = [] ∧ Input.okWide C.prog (w.forCall tape i) .any w.heap.size f i ∧
      ((s.pre enc C.prog fn conds apart (w.forCall tape i).memory i.args ∧ X (w.forCall tape i).memory i.args) ∧ sizedMet enc C.prog fn (OpenSpec.ofChange s) apart (w.forCall tape i).memory i.args) ∧ a.holds C.prog (lone (Frame.enter C.prog f i.args .normal) [] (w.forCall tape i)))
    (contract : ∀ (W : World) (base : Nat) (args : Array Value) (ds gs : List (DataW H)) (before : List MemPlace),
      (∀ (j : Nat) t v, fn.params[j]? = some t → args[j]? = some v → Value.okWide C.prog W .any base t v) →
      DataW.Whole enc C.prog fn.params.toList s.vars apart W args.toList ds gs before →
      conds.all (PathCond.test C.prog ⟨fn.params.toList, ds, s.plain.varTypes C.prog, gs⟩) = true →
      (DataW.weightsEach C.prog (fn.params.toList ++ s.plain.varTypes C.prog) (ds ++ gs)).all (· ≤ reachBytes) = true → X W args → W.ShapedOpen C.prog →
      a.holds C.prog (lone (Frame.enter C.prog f args .normal) [] W) →
      Calls C.prog f args W fun e W' => ∃ v, e = .returned v ∧ s.post enc C.prog fn apart fresh handsOn again W args v W') :
    ReturnsInHanded a C os f .any (fun w args => (s.pre enc C.prog fn conds apart w args ∧ X w args) ∧ sizedMet enc C.prog fn (OpenSpec.ofChange s) apart w args) (s.post enc C.prog fn apart fresh handsOn again) := by
  refine returnsInHanded_of_calls own started noInit witness ?_
  intro w tape i _ hsh _ hok hpre hholds
  obtain ⟨_, _, _, fn', hfn', _, _, _, _, hval⟩ := hok
  have e : fn' = fn := Option.some.inj (hfn'.symm.trans hfn)
  subst e
  obtain ⟨⟨⟨ds, gs, before, hw, hc⟩, hx⟩, hz⟩ := hpre
  refine (contract (w.forCall tape i) w.heap.size i.args ds gs before hval (DataW.Whole.of_heap (w' := w.forCall tape i) (by rfl) hw) hc (hz.weights hw) (hX _ _ _ (by rfl) hx) hsh hholds).mono fun e W' ⟨v, he, hp⟩ => ?_
  subst he
  exact ChangeSpec.post_blind hp
end
end Go.Proofs.YtakfineljffoaaaGreatDoor
