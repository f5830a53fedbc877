/-
  LINKS: both ends side by side in one memory. No condition.
-/
import Derived.Test.YtalookaaogiinaaLkN
import Derived.Test.YtalookaaogiinaaLkW
import Derived.Test.YtalookaaogiinaaLkX
import Derived.Test.YtalookaaogiinaaFe
import Derived.Test.YtalookaaogiinaaStrR
import Derived.Test.YtalookaaogiinaaLawK
import Derived.Test.YtalookaaogiinaaDecL
namespace Go.Proofs.Ytalookaaogiinaa
open Go.RowKit Go.Lib

abbrev DuoL (w : World) (base B1 B2 : Nat) (v : Value) (p : RV) (s : PE) (r : RE) : Prop :=
  Duo base (footL B1 v) (footR B2 p) (fun w => PEB w base B1 v s) (fun w => REB w base B2 p r) w
theorem FreshL.foot {w : World} {B : Nat} {v v' : Value} (h : FreshL w v v') : ∀ k, footL B v' k → footL B v k ∨ w.heap.size ≤ k := by
  rintro k (e | e)
  · exact .inl (.inl e)
  · rcases h k e with e | e
    · exact .inl (.inr e)
    · exact .inr e
theorem lk_left {w w' : World} {base B1 B2 : Nat} {v : Value} {p : RV} {s s' : PE} {r : RE} (h : DuoL w base B1 B2 v p s r) (hp : LkPost w base B1 v s' w') : ∃ v', DuoL w' base B1 B2 v' p s' r ∧ Touch (footL B1 v) w w' := by
  obtain ⟨v', hm, ht, hf⟩ := hp
  exact ⟨v', h.left hm.part ht hf.foot, ht⟩
theorem lk_right {w w' : World} {base B1 B2 : Nat} {v : Value} {p : RV} {s : PE} {r r' : RE} (h : DuoL w base B1 B2 v p s r) (hp : RePost w base B2 p r' w') : ∃ p', DuoL w' base B1 B2 v p' s r' ∧ Touch (footR B2 p) w w' := by
  obtain ⟨p', hm, ht, hf⟩ := hp
  exact ⟨p', h.right hm.part ht hf, ht⟩
theorem REB.mono {w : World} {base b B : Nat} {p : RV} {s : RE} (h : REB w base B p s) (hb : b ≤ base) : REB w b B p s :=
  ⟨h.blk, own_mono' h.ro hb, own_mono' h.rs hb, own_mono' h.rc hb, h.rm, h.ap, Nat.le_trans hb h.le, Nat.le_trans hb h.lm, Nat.le_trans hb h.base⟩
/-- what holds after k calls -/
structure SideL (s : PE) (r : RE) (k : Nat) : Prop where
  rel : RelL s r
  idle : idleL r
  sent : r.sent.length ≤ k
  cnt : r.cnt ≤ k
  came : r.came.length ≤ 4 * k
def InvL (w : World) (base B1 B2 k : Nat) : Prop := ∃ v p s r, DuoL w base B1 B2 v p s r ∧ SideL s r k
theorem SideL.okP {s : PE} {r : RE} {k : Nat} (h : SideL s r k) (hk : k ≤ 2000000000000) : okP s := by
  have h1 := h.rel.all
  have h2 := h.sent
  have h3 := h.rel.ack0
  refine ⟨h.rel.now0, ⟨h3, by omega⟩, by omega, h.rel.past⟩
theorem SideL.okR {s : PE} {r : RE} {k : Nat} (h : SideL s r k) (hk : k ≤ 2000000000000) : okR r := by
  have h1 := h.rel.all
  have h2 := h.sent
  have h3 := h.rel.ack0
  have h4 := h.rel.now0
  have h5 := h.rel.now
  have h6 := h.rel.acked
  refine ⟨by rw [h5]; exact h4, ⟨by omega, by omega⟩, h.rel.len, by omega, h.rel.sents⟩
theorem SideL.far {s : PE} {r : RE} {k : Nat} (h : SideL s r k) : ∀ j : Int, r.came.length + 4 < j → r.kept j = none := fun j hj => h.rel.far j (by rw [h.rel.came]; exact hj)
theorem SideL.high {s : PE} {r : RE} {k : Nat} (h : SideL s r k) : s.high ≤ s.acked + s.waits.length := by
  have h1 := h.rel.all
  rw [h1, h.rel.high]
  exact (hiK_le _ _).2
theorem SideL.waits {s : PE} {r : RE} {k : Nat} (h : SideL s r k) : (r.offered.length : Int) - r.acked = s.waits.length := by
  have h1 := h.rel.all
  have h2 := h.rel.len
  have h3 := h.rel.acked
  omega
def offS (s : PE) (t : ByteArray) : PE := if offE t = 0 then { s with waits := s.waits ++ [⟨t, false, 0⟩] } else s
def offR (r : RE) (t : ByteArray) : RE := if offE t = 0 then { r with offered := r.offered ++ [t], sent := r.sent ++ [-1] } else r
def tickS (s : PE) (n : Int) : PE := if tickE s.now n = 0 then { s with now := s.now + n } else s
def tickR (r : RE) (n : Int) : RE := if tickE r.now n = 0 then { r with now := r.now + n } else r
theorem side_off {s : PE} {r : RE} {k : Nat} (h : SideL s r k) (t : ByteArray) : SideL (offS s t) (offR r t) (k + 1) := by
  unfold offS offR
  have h1 := h.sent
  have h2 := h.cnt
  have h3 := h.came
  split
  · exact ⟨rel_offer h.rel t, h.idle, by simp; omega, by show r.cnt ≤ _; omega, by show r.came.length ≤ _; omega⟩
  · exact ⟨h.rel, h.idle, by omega, by omega, by omega⟩
theorem side_tick {s : PE} {r : RE} {k : Nat} (h : SideL s r k) (n : Int) : SideL (tickS s n) (tickR r n) (k + 1) := by
  unfold tickS tickR
  have h1 := h.sent
  have h2 := h.cnt
  have h3 := h.came
  have e9 : tickE r.now n = tickE s.now n := by rw [h.rel.now]
  rw [e9]
  split
  · rename_i g
    have hn : 0 ≤ n ∧ s.now + n ≤ 1099511627776 := by
      unfold tickE at g
      split at g
      · simp at g
      · omega
    refine ⟨rel_tick h.rel n hn, h.idle, by show r.sent.length ≤ _; omega, by show r.cnt ≤ _; omega, by show r.came.length ≤ _; omega⟩
  · exact ⟨h.rel, h.idle, by omega, by omega, by omega⟩
theorem side_out {s : PE} {r : RE} {k : Nat} (h : SideL s r k) : SideL (outS s) (refS r) (k + 1) ∧ refF r = outF s := by
  obtain ⟨e, R⟩ := rel_out h.rel
  have h1 := h.sent
  have h2 := h.cnt
  have h3 := h.came
  refine ⟨⟨R, h.idle, ?_, by show r.cnt ≤ _; omega, by show r.came.length ≤ _; omega⟩, e⟩
  show (refQ r r.sent.length).2.length ≤ _
  rw [refQ_len]; omega
theorem side_in {s : PE} {r : RE} {k : Nat} (h : SideL s r k) (f : Frm) (hf : chkFr f = 0) : SideL (inP s f).2 (inR r f) (k + 1) ∧ (inR r f).came.drop r.came.length = (inP s f).1 := by
  obtain ⟨⟨hs, _⟩, ⟨ha, _⟩, _⟩ := chk_ok hf
  obtain ⟨R, e, hi⟩ := rel_in h.rel h.idle f hs ha
  have h1 := h.sent
  have h2 := h.cnt
  have h3 := h.came
  have hd : ∀ (n : Nat) (r : RE), (drainR n r).sent = r.sent ∧ (drainR n r).cnt = r.cnt := by
    intro n
    induction n with
    | zero => intro r; exact ⟨rfl, rfl⟩
    | succ n ih =>
      intro r
      rw [drainR]
      split
      · exact ⟨rfl, rfl⟩
      · exact ih _
  have hp : (putR (ackR r f.ack) f).sent = r.sent ∧ (putR (ackR r f.ack) f).cnt ≤ r.cnt + 1 := by
    have ha : (ackR r f.ack).sent = r.sent ∧ (ackR r f.ack).cnt = r.cnt := by unfold ackR; split <;> exact ⟨rfl, rfl⟩
    unfold putR
    split
    · split
      · exact ⟨ha.1, by show (ackR r f.ack).cnt + 1 ≤ _; omega⟩
      · exact ⟨ha.1, by show (ackR r f.ack).cnt ≤ _; omega⟩
    · exact ⟨ha.1, by omega⟩
  refine ⟨⟨R, hi, ?_, ?_, ?_⟩, by rw [e]; simp⟩
  · unfold inR; rw [(hd _ _).1, hp.1]; omega
  · unfold inR; rw [(hd _ _).2]; have := hp.2; omega
  · rw [e, List.length_append]
    have : (inP s f).1.length ≤ 4 := by
      unfold inP
      split
      · simp
      · exact drainP_few 4 _
    omega
theorem side_new (a b : Int) : SideL (newP a b) (newR a b) 0 := ⟨(rel_new a b).1, (rel_new a b).2, Nat.le_refl _, Nat.le_refl _, Nat.le_refl _⟩
def feOf (f : Frm) : Fe := ⟨f.fr, f.to, f.seq, f.ack, f.body⟩
theorem fe_rows (l : List Frm) : l.flatMap encFr = (l.map feOf).flatMap encFe := by
  induction l with
  | nil => rfl
  | cons x l ih => rw [List.flatMap_cons, List.map_cons, List.flatMap_cons, ih]; rfl
theorem fe_lk {w : World} {base : Nat} {u : Value} {l : List Frm} (h : w.ownsRow base 31 5 u l.length (l.flatMap encFr)) : Lk encFe w u (l.map feOf) := by
  have := own_sl h
  rw [fe_rows] at this
  show Sl w u (l.map feOf).length _
  rw [List.length_map]
  exact this
theorem inE_chk {a b : Int} {f : Frm} (h : inE a b f = 0) : chkFr f = 0 := by
  unfold inE at h
  by_cases g : chkFr f = 0
  · exact g
  · rw [if_pos g] at h; exact h
/-- a row that is newer than the reference's end stays while that one works -/
theorem own_past {w0 w1 w2 : World} {base B2 e size n : Nat} {p : RV} {u : Value} {cs : List Value} {R : World → Prop} (hq : Part base (footR B2 p) R w0) (ho : w1.ownsRow w0.heap.size e size u n cs) (ht : Touch (footR B2 p) w1 w2) : w2.ownsRow w0.heap.size e size u n cs :=
  own_same ho (fun k hk => ht.block k (World.ownsRow.lt ho k hk).2 (fun hf => by
    have h1 := (World.ownsRow.lt ho k hk).1
    have h2 := (hq.lt k hf).2
    omega))
theorem InvL.below {w w' : World} {base B1 B2 k : Nat} (h : InvL w base B1 B2 k) (hb : Below w.heap.size w w') : InvL w' base B1 B2 k := by
  obtain ⟨v, p, s, r, hD, hS⟩ := h
  exact ⟨v, p, s, r, hD.below hb, hS⟩
end Go.Proofs.Ytalookaaogiinaa
