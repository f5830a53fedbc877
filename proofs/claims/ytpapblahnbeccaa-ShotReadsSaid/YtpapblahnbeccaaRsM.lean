/-
  SHOTS: what Read answers; the memory of both Reads. No condition.
-/
import Derived.Test.YtpapblahnbeccaaRdv
import Derived.Test.YtpapblahnbeccaaSwr
namespace Go.Proofs.Ytpapblahnbeccaa
open Go.RowKit Go.Lib

def callM (s : ByteArray × Int) : Cal × ByteArray × Int :=
  (⟨(numM s).1, (numM (numM s).2).1, (listM 20 (numM (numM s).2).2).1, (listM 200 (listM 20 (numM (numM s).2).2).2).1⟩, (listM 200 (listM 20 (numM (numM s).2).2).2).2)
def callsN : Nat → ByteArray × Int → List Cal × ByteArray × Int
  | 0, s => ([], s)
  | n + 1, s => ((callsN n s).1 ++ [(callM (callsN n s).2).1], (callM (callsN n s).2).2)
/-- behind the text: tables and the rest -/
def tabM (s : ByteArray × Int) : List Int × ByteArray × Int := valsN 32 (cntM 16 s).1.toNat (cntM 16 s).2
def tailM (s : ByteArray × Int) : (List Int × List Int × Int × List Cal) × ByteArray × Int :=
  (((tabM s).1, (listM 8 (tabM s).2).1, (numM (listM 8 (tabM s).2).2).1, (callsN (cntM 40 (numM (listM 8 (tabM s).2).2).2).1.toNat (cntM 40 (numM (listM 8 (tabM s).2).2).2).2).1),
    (callsN (cntM 40 (numM (listM 8 (tabM s).2).2).2).1.toNat (cntM 40 (numM (listM 8 (tabM s).2).2).2).2).2)
def shotOf (mem : ByteArray) (r : List Int × List Int × Int × List Cal) : Shot := ⟨mem, r.1, r.2.1, r.2.2.2, r.2.2.1⟩
def shotS (x : Shot) : ByteArray := if shotF x = [] then S (shotO x) else ⟨#[]⟩
def zeroShot : Shot := ⟨⟨#[]⟩, [], [], [], 0⟩
/-- the fault at the end -/
def endE (t : ByteArray) (x : Shot) (s : ByteArray × Int) : Int := if s.2 ≠ 0 then s.2 else if s.1.size ≠ 0 ∨ shotS x ≠ t then 4 else 0
def readM (t : ByteArray) : Shot × Int :=
  if ((cntM 2048 (t, 0)).2.1.size : Int) < (cntM 2048 (t, 0)).1 then (zeroShot, 3)
  else
    let n := (cntM 2048 (t, 0)).1.toNat
    let s := (cntM 2048 (t, 0)).2
    let r := tailM (s.1.extract n s.1.size, s.2)
    let x := shotOf (s.1.extract 0 n) r.1
    if endE t x r.2 = 0 then (x, 0) else (zeroShot, endE t x r.2)

/-- owned calls -/
def CalO (w : World) (H : Nat) (cs : List Value) (c : Cal) : Prop := ∃ vl vs, cs = [.int .i64 c.fn, .int .i64 c.pc, vl, vs] ∧ OwnI w H .i64 2 vl c.loc ∧ OwnI w H .i64 2 vs c.stk
def CallsO (w : World) (H : Nat) (v : Value) (cl : List Cal) : Prop := ∃ css : List (List Value), css.length = cl.length ∧ w.ownsRow H 216 4 v cl.length css.flatten ∧ ∀ i (h1 : i < css.length) (h2 : i < cl.length), CalO w H css[i] cl[i]
theorem CallsO.calls {w : World} {H : Nat} {v : Value} {cl : List Cal} (h : CallsO w H v cl) : CallsS w v cl := by
  obtain ⟨css, h1, h2, h3⟩ := h
  refine ⟨css, h1, own_sl h2, fun i g1 g2 => ?_⟩
  obtain ⟨vl, vs, e, k1, k2⟩ := h3 i g1 g2
  exact ⟨vl, vs, e, OwnI.ints k1, OwnI.ints k2⟩
/-- blocks of every type but one stay -/
def KT (bad : TypeId) (w w' : World) : Prop := w.heap.size ≤ w'.heap.size ∧ ∀ (k : Nat) (cs : Array Value) (ty : TypeId) (fr : Nat × Nat), (ty == bad) = false → w.heap[k]? = some (.cells cs ty fr) → w'.heap[k]? = w.heap[k]?
theorem KT.blk {bad ty : TypeId} {w w' : World} {b : Nat} {cs : List Value} (h : KT bad w w') (hb : Blk w b ty cs) (ht : (ty == bad) = false) : Blk w' b ty cs := hb.same (h.2 b _ ty _ ht hb)
theorem KT.own {bad E : TypeId} {w w' : World} {base size n : Nat} {v : Value} {cs : List Value} (h : KT bad w w') (ho : w.ownsRow base E size v n cs) (ht : (E == bad) = false) : w'.ownsRow base E size v n cs := by
  refine own_same ho (fun k hk => ?_)
  rcases ho.2 with ⟨e, _⟩ | ⟨g, cap, cur, e, _, hh, _⟩
  · rw [e] at hk; simp [Value.ownBlock] at hk
  · rw [e] at hk
    simp only [Value.ownBlock, Option.some.injEq] at hk
    subst hk
    exact h.2 g _ E _ ht hh
theorem KT.calls {bad : TypeId} {w w' : World} {H : Nat} {v : Value} {cl : List Cal} (h : KT bad w w') (hc : CallsO w H v cl) (ht : (216 == bad) = false) (ht2 : (2 == bad) = false) : CallsO w' H v cl := by
  obtain ⟨css, h1, h2, h3⟩ := hc
  refine ⟨css, h1, h.own h2 ht, fun i g1 g2 => ?_⟩
  obtain ⟨vl, vs, e, k1, k2⟩ := h3 i g1 g2
  exact ⟨vl, vs, e, h.own k1 ht2, h.own k2 ht2⟩
theorem KT.touch {w w' : World} {B : Nat} {bad : TypeId} {cs : List Value} (h : Blk w B bad cs) (ht : Touch (fun k => k = B) w w') : KT bad w w' := by
  refine ⟨ht.size, fun k cs' ty fr hne hk => ht.block k (lt_of_block hk) (fun e => ?_)⟩
  subst e
  unfold Blk at h
  rw [h] at hk
  simp only [Option.some.injEq, Obj.cells.injEq] at hk
  rw [hk.2.1] at hne
  simp at hne
theorem KT.below {w w' : World} {bad : TypeId} (h : Below w.heap.size w w') : KT bad w w' := ⟨h.size, fun k _ _ _ _ hk => h.block k (lt_of_block hk)⟩
theorem KT.trans {w1 w2 w3 : World} {bad : TypeId} (h : KT bad w1 w2) (g : KT bad w2 w3) : KT bad w1 w3 :=
  ⟨Nat.le_trans h.1 g.1, fun k cs ty fr hne hk => by
    have e := h.2 k cs ty fr hne hk
    exact (g.2 k cs ty fr hne (e.trans hk)).trans e⟩
theorem KT.grown {w w' : World} {bad : TypeId} {base size n : Nat} {v : Value} {cs : List Value} (hg : w.grownBy w' v.ownBlock) (ho : w.ownsRow base bad size v n cs) : KT bad w w' := by
  refine ⟨hg.size, fun k cs' ty fr hne hk => hg.block k (lt_of_block hk) (fun e => ?_)⟩
  rcases ho.2 with ⟨e2, _⟩ | ⟨g, cap, cur, e2, _, hh, _⟩
  · rw [e2] at e; simp [Value.ownBlock] at e
  · rw [e2] at e
    simp only [Value.ownBlock, Option.some.injEq] at e
    subst e
    rw [hh] at hk
    simp only [Option.some.injEq, Obj.cells.injEq] at hk
    rw [hk.2.1] at hne
    simp at hne

theorem KT.set {w : World} {B i : Nat} {bad : TypeId} {cs : List Value} (h : Blk w B bad cs) (v : Value) : KT bad w (w.setCell ⟨B, i, none⟩ v) := KT.touch h (Touch.setCell (F := fun k => k = B) (a := ⟨B, i, none⟩) rfl v)
theorem KT.drewn {w w' : World} {bad : TypeId} (h : KT bad w w') (n : Nat) : KT bad w (w'.drewN n) := h
/-- the four blocks of Read -/
structure ShBk (w : World) (H : Nat) (xs ys : List Value) : Prop where
  r2 : Blk w H 114 [.string ⟨#[]⟩, .slice none 0 0, .slice none 0 0]
  r3 : Blk w (H + 1) 117 [.slice none 0 0, .int .i64 0]
  xb : Blk w (H + 1 + 1) 114 xs
  sb : Blk w (H + 1 + 1 + 1) 117 ys
theorem ShBk.kt {w w' : World} {H : Nat} {xs ys : List Value} {bad : TypeId} (h : ShBk w H xs ys) (k : KT bad w w') (h1 : (114 == bad) = false) (h2 : (117 == bad) = false) : ShBk w' H xs ys :=
  ⟨k.blk h.r2 h1, k.blk h.r3 h2, k.blk h.xb h1, k.blk h.sb h2⟩
theorem ShBk.setX {w : World} {H : Nat} {xs ys : List Value} (h : ShBk w H xs ys) (i : Nat) (v : Value) : ShBk (w.setCell ⟨H + 1 + 1, i, none⟩ v) H (xs.set i v) ys :=
  ⟨h.r2.other (by simp; omega) v, h.r3.other (by simp) v, h.xb.set i v, h.sb.other (by simp) v⟩
theorem ShBk.setS {w : World} {H : Nat} {xs ys : List Value} (h : ShBk w H xs ys) (i : Nat) (v : Value) : ShBk (w.setCell ⟨H + 1 + 1 + 1, i, none⟩ v) H xs (ys.set i v) :=
  ⟨h.r2.other (by simp; omega) v, h.r3.other (by simp; omega) v, h.xb.other (by simp) v, h.sb.set i v⟩
/-- what the parts hold -/
structure ShRw (w : World) (H : Nat) (vt vg vc : Value) (tab glob : List Int) (calls : List Cal) : Prop where
  tab : OwnI w H .i64 3 vt tab
  glob : OwnI w H .i64 2 vg glob
  calls : CallsO w H vc calls
theorem ShRw.kt {w w' : World} {H : Nat} {vt vg vc : Value} {tab glob : List Int} {calls : List Cal} {bad : TypeId} (h : ShRw w H vt vg vc tab glob calls) (k : KT bad w w') (h3 : (3 == bad) = false) (h4 : (2 == bad) = false) (h5 : (216 == bad) = false) : ShRw w' H vt vg vc tab glob calls :=
  ⟨k.own h.tab h3, k.own h.glob h4, k.calls h.calls h5 h4⟩
theorem CallsO.nil (w : World) (H : Nat) : CallsO w H (.slice none 0 0) [] := ⟨[], rfl, World.ownsRow_nil _ _ _ _, fun i h => by cases h⟩
theorem ShRw.nil (w : World) (H : Nat) : ShRw w H (.slice none 0 0) (.slice none 0 0) (.slice none 0 0) [] [] [] := ⟨OwnI.nil _ _ _ _, OwnI.nil _ _ _ _, CallsO.nil _ _⟩
theorem own_mono' {w : World} {b c : Nat} {e : TypeId} {size : Nat} {v : Value} {n : Nat} {cs : List Value} (h : w.ownsRow c e size v n cs) (hb : b ≤ c) : w.ownsRow b e size v n cs := by
  obtain ⟨h1, h2⟩ := h
  refine ⟨h1, ?_⟩
  rcases h2 with h2 | ⟨g, cap, cur, hv, hg, r⟩
  · exact .inl h2
  · exact .inr ⟨g, cap, cur, hv, Nat.le_trans hb hg, r⟩

theorem listM_facts {most : Int} (hm : 0 ≤ most) (s : ByteArray × Int) : ((listM most s).1.length : Int) ≤ most ∧ i64L (listM most s).1 ∧ (listM most s).2.1.size ≤ s.1.size := by
  have h1 := cntM_facts most hm s
  have h2 := valsN_facts (bits := 64) (.inr rfl) (cntM most s).1.toNat (cntM most s).2
  unfold listM
  refine ⟨by rw [h2.1]; omega, h2.2.1, Nat.le_trans h2.2.2 h1.2.2.1⟩
def CalK (c : Cal) : Prop := (c.loc.length ≤ 20 ∧ i64L c.loc) ∧ c.stk.length ≤ 200 ∧ i64L c.stk
theorem callM_facts (s : ByteArray × Int) : CalK (callM s).1 ∧ (callM s).2.1.size ≤ s.1.size := by
  have h1 := numM_facts s
  have h2 := numM_facts (numM s).2
  have h3 := listM_facts (most := 20) (by decide) (numM (numM s).2).2
  have h4 := listM_facts (most := 200) (by decide) (listM 20 (numM (numM s).2).2).2
  unfold callM CalK
  exact ⟨⟨⟨by simp only; omega, h3.2.1⟩, by simp only; omega, h4.2.1⟩, by simp only; omega⟩
theorem callsN_facts (n : Nat) (s : ByteArray × Int) : (callsN n s).1.length = n ∧ (∀ c ∈ (callsN n s).1, CalK c) ∧ (callsN n s).2.1.size ≤ s.1.size := by
  induction n with
  | zero => exact ⟨rfl, (fun z hz => by cases hz), Nat.le_refl _⟩
  | succ n ih =>
    have h := callM_facts (callsN n s).2
    obtain ⟨h1, h2, h3⟩ := ih
    refine ⟨by rw [callsN, List.length_append, h1]; rfl, ?_, by rw [callsN]; exact Nat.le_trans h.2 h3⟩
    intro z hz
    rw [callsN] at hz
    rcases List.mem_append.1 hz with hz | hz
    · exact h2 z hz
    · simp only [List.mem_singleton] at hz
      subst hz
      exact h.1
theorem CallsO.push {w w' : World} {H : Nat} {v v' : Value} {cl : List Cal} {c : Cal} {vl vs : Value} (h : CallsO w H v cl) (hk : ∀ c' cs, CalO w H cs c' → CalO w' H cs c') (hl : OwnI w' H .i64 2 vl c.loc) (hs : OwnI w' H .i64 2 vs c.stk)
    (ho : ∀ css : List (List Value), w.ownsRow H 216 4 v cl.length css.flatten → w'.ownsRow H 216 4 v' (cl.length + 1) (css.flatten ++ [.int .i64 c.fn, .int .i64 c.pc, vl, vs])) : CallsO w' H v' (cl ++ [c]) := by
  obtain ⟨css, h1, h2, h3⟩ := h
  refine ⟨css ++ [[.int .i64 c.fn, .int .i64 c.pc, vl, vs]], by simp [h1], ?_, ?_⟩
  · have := ho css h2
    rw [List.length_append, List.flatten_append]
    simpa using this
  · intro i g1 g2
    by_cases hi : i < css.length
    · rw [List.getElem_append_left hi, List.getElem_append_left (by omega)]
      exact hk _ _ (h3 i hi (by omega))
    · have : i = css.length := by simp at g1; omega
      subst this
      rw [List.getElem_append_right (Nat.le_refl _), List.getElem_append_right (by omega)]
      simp only [h1, Nat.sub_self, List.getElem_cons_zero]
      exact ⟨vl, vs, rfl, hl, hs⟩
theorem shotV_S (x : Shot) : ∃ E : Int, shotV x = .tuple #[.string (shotS x), .int .i64 E] := by
  unfold shotV shotS
  split
  · exact ⟨0, rfl⟩
  · exact ⟨_, rfl⟩
theorem tail_ok (mem : ByteArray) (hm : mem.size ≤ 2048) (s : ByteArray × Int) : ShotOk (shotOf mem (tailM s).1) := by
  have h1 := cntM_facts 16 (by decide) s
  have h2 := valsN_facts (bits := 32) (.inl rfl) (cntM 16 s).1.toNat (cntM 16 s).2
  have h3 := listM_facts (most := 8) (by decide) (tabM s).2
  have h4 := cntM_facts 40 (by decide) (numM (listM 8 (tabM s).2).2).2
  have h5 := callsN_facts (cntM 40 (numM (listM 8 (tabM s).2).2).2).1.toNat (cntM 40 (numM (listM 8 (tabM s).2).2).2).2
  unfold tailM shotOf
  refine ⟨by simp only; omega, ?_, by simp only; omega, by simp only; omega, ?_, ?_, ?_, h3.2.1⟩
  · simp only; unfold tabM; omega
  · intro c hc; have := h5.2.1 c hc; unfold CalK at this; exact ⟨by omega, this.1.2⟩
  · intro c hc; have := h5.2.1 c hc; unfold CalK at this; exact ⟨by omega, this.2.2⟩
  · exact h2.2.1
/-- the results are stored -/
theorem ShBk.res {w : World} {H : Nat} {xs ys : List Value} (h : ShBk w H xs ys) (a0 a1 a2 b0 b1 : Value) :
    let w' := ((((w.setCell ⟨H, 0, none⟩ a0).setCell ⟨H, 1, none⟩ a1).setCell ⟨H, 2, none⟩ a2).setCell ⟨H + 1, 0, none⟩ b0).setCell ⟨H + 1, 1, none⟩ b1
    Blk w' H 114 [a0, a1, a2] ∧ Blk w' (H + 1) 117 [b0, b1] ∧ (∀ vt vg vc tab glob calls, ShRw w H vt vg vc tab glob calls → ShRw w' H vt vg vc tab glob calls) ∧ Below H w w' := by
  have h2 := ((h.r2.set 0 a0).set 1 a1).set 2 a2
  have h3 := ((h.r3.other (a := ⟨H, 0, none⟩) (by simp) a0).other (a := ⟨H, 1, none⟩) (by simp) a1).other (a := ⟨H, 2, none⟩) (by simp) a2
  have k1 : KT 114 w (((w.setCell ⟨H, 0, none⟩ a0).setCell ⟨H, 1, none⟩ a1).setCell ⟨H, 2, none⟩ a2) := ((KT.set h.r2 a0).trans (KT.set (h.r2.set 0 a0) a1)).trans (KT.set ((h.r2.set 0 a0).set 1 a1) a2)
  have k2 := (KT.set (i := 0) h3 b0).trans (KT.set (i := 1) (h3.set 0 b0) b1)
  refine ⟨(h2.other (by simp) b0).other (by simp) b1, (h3.set 0 b0).set 1 b1, fun vt vg vc tab glob calls g => (g.kt k1 rfl rfl rfl).kt k2 rfl rfl rfl, ?_⟩
  have hn : H ≤ H + 1 := Nat.le_succ H
  refine (((((Below.refl H w).setCell ?_ a0).setCell ?_ a1).setCell ?_ a2).setCell ?_ b0).setCell ?_ b1
  all_goals first | exact Nat.le_refl H | exact hn
/-- from the memory on -/
def finM (t : ByteArray) (N : Nat) (s : ByteArray × Int) : Shot × Int :=
  if endE t (shotOf (s.1.extract 0 N) (tailM (s.1.extract N s.1.size, s.2)).1) (tailM (s.1.extract N s.1.size, s.2)).2 = 0 then (shotOf (s.1.extract 0 N) (tailM (s.1.extract N s.1.size, s.2)).1, 0) else (zeroShot, endE t (shotOf (s.1.extract 0 N) (tailM (s.1.extract N s.1.size, s.2)).1) (tailM (s.1.extract N s.1.size, s.2)).2)
theorem readM_eq (t : ByteArray) (N : Nat) (s : ByteArray × Int) (h : cntM 2048 (t, 0) = ((N : Int), s)) : ((s.1.size : Int) < N → readM t = (zeroShot, 3)) ∧ ((N : Int) ≤ s.1.size → readM t = finM t N s) := by
  unfold readM
  rw [h]
  exact ⟨fun g => if_pos g, fun g => if_neg (by simp only; omega)⟩
/-- both Reads end so -/
def ReadP (w : World) (t : ByteArray) (e : Ending) (w' : World) : Prop := ∃ vt vg vc, e = .returned (.tuple #[.agg #[.string (readM t).1.mem, vt, vg], .agg #[vc, .int .i64 (readM t).1.host], .int .i64 (readM t).2]) ∧ Ints w' .i64 vt (readM t).1.tab ∧ Ints w' .i64 vg (readM t).1.glob ∧ CallsS w' vc (readM t).1.calls ∧ Below w.heap.size w w'
end Go.Proofs.Ytpapblahnbeccaa
