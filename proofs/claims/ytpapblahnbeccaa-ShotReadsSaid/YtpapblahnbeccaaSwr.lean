/-
  SHOTS: the program's Write. Conditions: the parts' lengths at most 2^20.
-/
import Derived.Test.YtpapblahnbeccaaWtv
namespace Go.Proofs.Ytpapblahnbeccaa
open Go.RowKit Go.Lib
attribute [local go_sem ↓] Go.wp_at_zero Go.wp_at_succ

structure Cal where
  fn : Int
  pc : Int
  loc : List Int
  stk : List Int
structure Shot where
  mem : ByteArray
  tab : List Int
  glob : List Int
  calls : List Cal
  host : Int
def callF (c : Cal) : List Int := flt (idxBad c.fn) 1 ++ flt (idxBad c.pc) 1 ++ flt (decide (20 < (c.loc.length : Int)) || decide (200 < (c.stk.length : Int))) 2
def callO (c : Cal) : List UInt8 := encN c.fn ++ encN c.pc ++ (valO c.loc ++ valO c.stk)
def shotBig (x : Shot) : Bool := decide (2048 < (x.mem.size : Int)) || decide (16 < (x.tab.length : Int)) || decide (8 < (x.glob.length : Int))
def shotF0 (x : Shot) : List Int := flt (shotBig x) 2 ++ x.tab.flatMap (fun n => flt (atBad n) 1) ++ flt (idxBad x.host) 1 ++ flt (decide (40 < (x.calls.length : Int))) 2
def shotF (x : Shot) : List Int := shotF0 x ++ x.calls.flatMap callF
def shotO0 (x : Shot) : List UInt8 := encN x.mem.size ++ x.mem.data.toList ++ encN x.tab.length ++ x.tab.flatMap (encS 9) ++ valO x.glob ++ encN x.host ++ encN x.calls.length
def shotO (x : Shot) : List UInt8 := shotO0 x ++ x.calls.flatMap callO
def shotV (x : Shot) : Value := if shotF x = [] then .tuple #[.string (S (shotO x)), .int .i64 0] else .tuple #[.string ⟨#[]⟩, .int .i64 (firstF (shotF x))]

structure ShotOk (x : Shot) : Prop where
  mem : x.mem.size ≤ 1048576
  tab : x.tab.length ≤ 1048576
  glob : x.glob.length ≤ 1048576
  calls : x.calls.length ≤ 1048576
  loc : ∀ c ∈ x.calls, c.loc.length ≤ 1048576 ∧ i64L c.loc
  stk : ∀ c ∈ x.calls, c.stk.length ≤ 1048576 ∧ i64L c.stk
  tabr : i64L x.tab
  globr : i64L x.glob

/-- a call's cells -/
def CalAt (w : World) (cs : List Value) (c : Cal) : Prop := ∃ vl vs, cs = [.int .i64 c.fn, .int .i64 c.pc, vl, vs] ∧ Ints w .i64 vl c.loc ∧ Ints w .i64 vs c.stk
def CallsS (w : World) (v : Value) (cl : List Cal) : Prop := ∃ css : List (List Value), css.length = cl.length ∧ Sl w v cl.length css.flatten ∧ ∀ i (h1 : i < css.length) (h2 : i < cl.length), CalAt w css[i] cl[i]
theorem CalAt.below {w w' : World} {cs : List Value} {c : Cal} (h : CalAt w cs c) (hb : Below w.heap.size w w') : CalAt w' cs c := by
  obtain ⟨vl, vs, h1, h2, h3⟩ := h
  exact ⟨vl, vs, h1, L1.below h2 hb, L1.below h3 hb⟩
theorem CallsS.below {w w' : World} {v : Value} {cl : List Cal} (h : CallsS w v cl) (hb : Below w.heap.size w w') : CallsS w' v cl := by
  obtain ⟨css, h1, h2, h3⟩ := h
  exact ⟨css, h1, h2.below hb, fun i g1 g2 => (h3 i g1 g2).below hb⟩
theorem CallsS.open {w : World} {v : Value} {cl : List Cal} (h : CallsS w v cl) (k : Nat) (hk : k < cl.length) :
    ∃ b off cap vl vs, v = .slice (some ⟨b, off, none⟩) cl.length cap ∧ cl.length ≤ cap ∧ cap ≤ 9223372036854775807 ∧ w.cell? ⟨b, off + k * 4, none⟩ = some (.int .i64 cl[k].fn) ∧ w.cell? ⟨b, off + k * 4 + 1, none⟩ = some (.int .i64 cl[k].pc) ∧ w.cell? ⟨b, off + k * 4 + 2, none⟩ = some vl ∧ w.cell? ⟨b, off + k * 4 + 3, none⟩ = some vs ∧ Ints w .i64 vl cl[k].loc ∧ Ints w .i64 vs cl[k].stk := by
  obtain ⟨css, h1, ⟨ao, cap, hv, hc1, hc2, _, hcs⟩, h3⟩ := h
  obtain ⟨vl, vs, e1, e2, e3⟩ := h3 k (by omega) hk
  have h4 : ∀ c ∈ css, c.length = 4 := by
    intro c hc
    obtain ⟨i, hi, rfl⟩ := List.getElem_of_mem hc
    obtain ⟨_, _, e, _⟩ := h3 i hi (by omega)
    rw [e]; rfl
  have hg : ∀ f, f < 4 → css.flatten[k * 4 + f]? = ([.int .i64 cl[k].fn, .int .i64 cl[k].pc, vl, vs] : List Value)[f]? := fun f hf => by rw [flatten_get css h4 k f hf (by omega), e1]
  rcases hcs with hcs | ⟨b, off, hao, hat⟩
  · have := hg 0 (by decide)
    rw [hcs] at this; simp at this
  · have hl : css.flatten.length = css.length * 4 := flatten_len css h4
    have hkl : k * 4 + 3 < css.flatten.length := by rw [hl]; omega
    have hx : ∀ f (hf : f < 4), w.cell? ⟨b, off + k * 4 + f, none⟩ = (css.flatten)[k * 4 + f]? := by
      intro f hf
      rw [Nat.add_assoc, hat (k * 4 + f) (by omega), List.getElem?_eq_getElem]
    refine ⟨b, off, cap, vl, vs, by rw [hv, hao], hc1, hc2, ?_, ?_, ?_, ?_, e2, e3⟩
    · have := hx 0 (by decide); rw [hg 0 (by decide)] at this; simpa using this
    · rw [hx 1 (by decide), hg 1 (by decide)]; rfl
    · rw [hx 2 (by decide), hg 2 (by decide)]; rfl
    · rw [hx 3 (by decide), hg 3 (by decide)]; rfl

end Go.Proofs.Ytpapblahnbeccaa
