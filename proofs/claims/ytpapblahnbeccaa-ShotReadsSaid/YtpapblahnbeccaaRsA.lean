/-
  SHOTS: all the memory that a Read has under way, in one piece. No condition.
-/
import Derived.Test.YtpapblahnbeccaaRsM
import Derived.Test.YtpapblahnbeccaaSwq
namespace Go.Proofs.Ytpapblahnbeccaa
open Go.RowKit Go.Lib

def RtOk (rt : TypeId) : Prop := (114 == rt) = false ∧ (117 == rt) = false ∧ (3 == rt) = false ∧ (2 == rt) = false ∧ (216 == rt) = false
/-- all that a Read has, from world W on -/
structure SA (W w : World) (rt : TypeId) (xs ys cs : List Value) (vt vg vc : Value) (tab glob : List Int) (calls : List Cal) : Prop where
  bk : ShBk w W.heap.size xs ys
  rows : ShRw w W.heap.size vt vg vc tab glob calls
  rd : Blk w (W.heap.size + 1 + 1 + 1 + 1) rt cs
  bl : Below W.heap.size W w
theorem SA.size {W w : World} {rt : TypeId} {xs ys cs : List Value} {vt vg vc : Value} {tab glob : List Int} {calls : List Cal} (h : SA W w rt xs ys cs vt vg vc tab glob calls) : W.heap.size + 5 ≤ w.heap.size := by have := h.rd.lt; omega
theorem SA.read {W w w' : World} {rt : TypeId} {xs ys cs cs' : List Value} {vt vg vc : Value} {tab glob : List Int} {calls : List Cal} (h : SA W w rt xs ys cs vt vg vc tab glob calls) (ho : RtOk rt) (t : Touch (fun k => k = W.heap.size + 1 + 1 + 1 + 1) w w') (r : Blk w' (W.heap.size + 1 + 1 + 1 + 1) rt cs') : SA W w' rt xs ys cs' vt vg vc tab glob calls := by
  have k := KT.touch h.rd t
  obtain ⟨o1, o2, o3, o4, o5⟩ := ho
  have hs := h.size
  exact ⟨h.bk.kt k o1 o2, h.rows.kt k o3 o4 o5, r, h.bl.trans (t.below (by omega) (fun j hj => by omega))⟩
theorem ShBk.belowW {w w' : World} {H : Nat} {xs ys : List Value} (h : ShBk w H xs ys) (k : Below w.heap.size w w') : ShBk w' H xs ys := ⟨h.r2.below k, h.r3.below k, h.xb.below k, h.sb.below k⟩
theorem CallsO.below {w w' : World} {H : Nat} {v : Value} {cl : List Cal} (h : CallsO w H v cl) (hb : Below w.heap.size w w') : CallsO w' H v cl := by
  obtain ⟨css, h1, h2, h3⟩ := h
  refine ⟨css, h1, own_below h2 hb, fun i g1 g2 => ?_⟩
  obtain ⟨vl, vs, e, k1, k2⟩ := h3 i g1 g2
  exact ⟨vl, vs, e, k1.below hb, k2.below hb⟩
theorem SA.below {W w w' : World} {rt : TypeId} {xs ys cs : List Value} {vt vg vc : Value} {tab glob : List Int} {calls : List Cal} (h : SA W w rt xs ys cs vt vg vc tab glob calls) (b : Below w.heap.size w w') : SA W w' rt xs ys cs vt vg vc tab glob calls :=
  ⟨h.bk.belowW b, ⟨h.rows.tab.below b, h.rows.glob.below b, h.rows.calls.below b⟩, h.rd.below b, h.bl.trans (b.mono (by have := h.size; omega))⟩
theorem SA.setX {W w : World} {rt : TypeId} {xs ys cs : List Value} {vt vg vc : Value} {tab glob : List Int} {calls : List Cal} (h : SA W w rt xs ys cs vt vg vc tab glob calls) (i : Nat) (v : Value) : SA W (w.setCell ⟨W.heap.size + 1 + 1, i, none⟩ v) rt (xs.set i v) ys cs vt vg vc tab glob calls :=
  ⟨h.bk.setX i v, h.rows.kt (KT.set h.bk.xb v) rfl rfl rfl, h.rd.other (by simp) v, h.bl.setCell (by simp; omega) v⟩
theorem SA.setS {W w : World} {rt : TypeId} {xs ys cs : List Value} {vt vg vc : Value} {tab glob : List Int} {calls : List Cal} (h : SA W w rt xs ys cs vt vg vc tab glob calls) (i : Nat) (v : Value) : SA W (w.setCell ⟨W.heap.size + 1 + 1 + 1, i, none⟩ v) rt xs (ys.set i v) cs vt vg vc tab glob calls :=
  ⟨h.bk.setS i v, h.rows.kt (KT.set h.bk.sb v) rfl rfl rfl, h.rd.other (by simp) v, h.bl.setCell (by simp; omega) v⟩
theorem SA.setR {W w : World} {rt : TypeId} {xs ys cs : List Value} {vt vg vc : Value} {tab glob : List Int} {calls : List Cal} (h : SA W w rt xs ys cs vt vg vc tab glob calls) (ho : RtOk rt) (i : Nat) (v : Value) : SA W (w.setCell ⟨W.heap.size + 1 + 1 + 1 + 1, i, none⟩ v) rt xs ys (cs.set i v) vt vg vc tab glob calls :=
  h.read ho (Touch.setCell (F := fun k => k = W.heap.size + 1 + 1 + 1 + 1) (a := ⟨W.heap.size + 1 + 1 + 1 + 1, i, none⟩) rfl v) (h.rd.set i v)
theorem SA.drew {W w : World} {rt : TypeId} {xs ys cs : List Value} {vt vg vc : Value} {tab glob : List Int} {calls : List Cal} (h : SA W w rt xs ys cs vt vg vc tab glob calls) : SA W w.drew rt xs ys cs vt vg vc tab glob calls :=
  h.below (drew_bel' (n := 1) (Below.refl _ _))
/-- a store into the call that is read -/
theorem SA.setC {W w : World} {rt : TypeId} {xs ys cs : List Value} {vt vg vc : Value} {tab glob : List Int} {calls : List Cal} (h : SA W w rt xs ys cs vt vg vc tab glob calls) (ho : RtOk rt) {C : Nat} {cc : List Value} (hC : Blk w C 216 cc) (hW : W.heap.size ≤ C) (hv : ∀ k, vc.ownBlock = some k → k < C) (i : Nat) (v : Value) : SA W (w.setCell ⟨C, i, none⟩ v) rt xs ys cs vt vg vc tab glob calls := by
  have k := KT.set (i := i) hC v
  have e5 := ho.2.2.2.2
  refine ⟨h.bk.kt k rfl rfl, ⟨k.own h.rows.tab rfl, k.own h.rows.glob rfl, ?_⟩, k.blk h.rd (by rw [beq_eq_false_iff_ne] at e5 ⊢; exact fun e => e5 e.symm), h.bl.setCell ?_ v⟩
  · obtain ⟨css, h1, h2, h3⟩ := h.rows.calls
    refine ⟨css, h1, own_same h2 (fun j hj => Below.heap_setCell _ _ _ _ (by have := hv j hj; simp; omega)), fun i g1 g2 => ?_⟩
    obtain ⟨vl, vs, e, k1, k2⟩ := h3 i g1 g2
    exact ⟨vl, vs, e, k.own k1 rfl, k.own k2 rfl⟩
  · exact hW
/-- the calls have one more -/
theorem SA.push {W w w' : World} {rt : TypeId} {xs ys cs : List Value} {vt vg vc vc' : Value} {tab glob : List Int} {calls : List Cal} {c : Cal} {vl vs : Value} (h : SA W w rt xs ys cs vt vg vc tab glob calls) (ho : RtOk rt) (hl : OwnI w W.heap.size .i64 2 vl c.loc) (hs : OwnI w W.heap.size .i64 2 vs c.stk) (hg : w.grownBy w' vc.ownBlock)
    {css : List (List Value)} (h1 : css.length = calls.length) (h2 : w.ownsRow W.heap.size 216 4 vc calls.length css.flatten) (h3 : ∀ i (h1 : i < css.length) (h2 : i < calls.length), CalO w W.heap.size css[i] calls[i])
    (hrow : w'.ownsRow W.heap.size 216 4 vc' (calls.length + 1) (css.flatten ++ [.int .i64 c.fn, .int .i64 c.pc, vl, vs])) : SA W w' rt xs ys cs vt vg vc' tab glob (calls ++ [c]) := by
  have k : KT 216 w w' := KT.grown hg h2
  have e5 := ho.2.2.2.2
  have hw := h2.lt
  refine ⟨h.bk.kt k rfl rfl, ⟨k.own h.rows.tab rfl, k.own h.rows.glob rfl, ?_⟩, k.blk h.rd (by rw [beq_eq_false_iff_ne] at e5 ⊢; exact fun e => e5 e.symm), ?_⟩
  · refine ⟨css ++ [[.int .i64 c.fn, .int .i64 c.pc, vl, vs]], by simp [h1], by rw [List.length_append, List.flatten_append]; simpa using hrow, fun i g1 g2 => ?_⟩
    by_cases hi : i < css.length
    · rw [List.getElem_append_left hi, List.getElem_append_left (by omega)]
      obtain ⟨vl, vs, e, k1, k2⟩ := h3 i hi (by omega)
      exact ⟨vl, vs, e, k.own k1 rfl, k.own k2 rfl⟩
    · have : i = css.length := by simp at g1; omega
      subst this
      rw [List.getElem_append_right (Nat.le_refl _), List.getElem_append_right (by omega)]
      simp only [h1, Nat.sub_self, List.getElem_cons_zero]
      exact ⟨vl, vs, rfl, k.own hl rfl, k.own hs rfl⟩
  · exact h.bl.trans ((Below.refl _ _).grown hg (by have := h.size; omega) (fun j hj => (hw j hj).1))

theorem read_err {w w' : World} {t : ByteArray} {E : Int} (hM : readM t = (zeroShot, E)) (hb : Below w.heap.size w w') : ReadP w t (.returned (.tuple #[.agg #[.string ⟨#[]⟩, .slice none 0 0, .slice none 0 0], .agg #[.slice none 0 0, .int .i64 0], .int .i64 E])) w' := by
  unfold ReadP
  rw [hM]
  exact ⟨_, _, _, rfl, OwnI.ints (ShRw.nil w' 0).tab, OwnI.ints (ShRw.nil w' 0).glob, (CallsO.nil w' 0).calls, hb⟩
theorem read_good {w w' : World} {t mem : ByteArray} {tab glob : List Int} {host : Int} {calls : List Cal} {vt vg vc : Value} (hM : readM t = (shotOf mem (tab, glob, host, calls), 0)) (hr : ShRw w' w.heap.size vt vg vc tab glob calls) (hb : Below w.heap.size w w') : ReadP w t (.returned (.tuple #[.agg #[.string mem, vt, vg], .agg #[vc, .int .i64 host], .int .i64 0])) w' := by
  unfold ReadP
  rw [hM]
  exact ⟨_, _, _, rfl, OwnI.ints hr.tab, OwnI.ints hr.glob, hr.calls.calls, hb⟩
theorem ShRw.drew {w : World} {H : Nat} {vt vg vc : Value} {tab glob : List Int} {calls : List Cal} (h : ShRw w H vt vg vc tab glob calls) : ShRw w.drew H vt vg vc tab glob calls :=
  ⟨OwnI.below h.tab (drew_bel' (n := 1) (Below.refl _ _)), OwnI.below h.glob (drew_bel' (n := 1) (Below.refl _ _)), h.calls.below (drew_bel' (n := 1) (Below.refl _ _))⟩
theorem below_drew {W w : World} {B : Nat} (h : Below B W w) : Below B W w.drew := drew_bel' (n := 1) h
theorem endE_bad {t : ByteArray} {x : Shot} {s : ByteArray × Int} (h : ¬ s.2 = 0) : endE t x s = s.2 := by unfold endE; rw [if_pos h]
theorem endE_rest {t : ByteArray} {x : Shot} {s : ByteArray × Int} (h : s.2 = 0) (h2 : ¬ s.1.toList = []) : endE t x s = 4 := by
  unfold endE
  rw [if_neg (by simpa using h)]
  refine if_pos (.inl (fun e => h2 ?_))
  have : s.1 = ⟨#[]⟩ := by
    obtain ⟨⟨⟨l⟩⟩, b⟩ := s
    have h3 : l.length = 0 := e
    have h4 : l = [] := List.eq_nil_of_length_eq_zero h3
    rw [h4]
  rw [this]; simp
theorem endE_other {t : ByteArray} {x : Shot} {s : ByteArray × Int} (h : s.2 = 0) (h2 : (!(shotS x).toList == t.toList) = true) : endE t x s = 4 := by
  unfold endE
  rw [if_neg (by simpa using h)]
  refine if_pos (.inr (fun e => ?_))
  rw [e, BEq.rfl] at h2; cases h2
theorem endE_good {t : ByteArray} {x : Shot} {s : ByteArray × Int} (h : s.2 = 0) (h1 : s.1.toList = []) (h2 : (!(shotS x).toList == t.toList) = false) : endE t x s = 0 := by
  unfold endE
  rw [if_neg (by simpa using h)]
  refine if_neg ?_
  rintro (e | e)
  · apply e
    have h3 : s.1.toList = (⟨#[]⟩ : ByteArray).toList := h1.trans (by simp)
    rw [toList_inj.1 h3]; rfl
  · apply e
    rw [Bool.not_eq_false', beq_iff_eq] at h2
    exact toList_inj.1 h2
end Go.Proofs.Ytpapblahnbeccaa
