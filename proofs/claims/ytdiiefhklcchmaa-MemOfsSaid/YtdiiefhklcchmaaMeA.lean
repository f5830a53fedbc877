/-
  MEMORIES, the program's: its memory; Size, has. Conditions: the object's own invariant.
-/
import Derived.Test.YtdiiefhklcchmaaPart
import Derived.Test.YtdiiefhklcchmaaStep
namespace Go.Proofs.Ytdiiefhklcchmaa
open Go.RowKit Go.Lib
attribute [local go_sem ↓] Go.wp_at_zero Go.wp_at_succ

/-- a memory of p pages that holds the bytes m -/
structure MP (w : World) (base B : Nat) (v : Value) (p : Nat) (most : Int) (m : List Int) : Prop where
  blk : Blk w B 44 [v, .int .i64 most]
  own : w.ownsRow base 60 256 v p (m.map (Value.int .u8))
  ne : v.ownBlock ≠ some B
  le : base ≤ B
  base : base ≤ w.heap.size
theorem MP.len {w : World} {base B p : Nat} {v : Value} {most : Int} {m : List Int} (h : MP w base B v p most m) : m.length = p * 256 := by
  have := h.own.1
  rwa [List.length_map] at this
def footM1 (B : Nat) (v : Value) (k : Nat) : Prop := k = B ∨ v.ownBlock = some k
theorem MP.part {w : World} {base B p : Nat} {v : Value} {most : Int} {m : List Int} (h : MP w base B v p most m) : Part base (footM1 B v) (fun w => MP w base B v p most m) w := by
  refine ⟨h, h.base, ?_, ?_⟩
  · rintro k (e | e)
    · subst e; exact ⟨h.le, h.blk.lt⟩
    · exact h.own.lt k e
  · intro w' hs hb
    exact ⟨h.blk.same (hb B (.inl rfl)), own_same h.own (fun k hk => hb k (.inr hk)), h.ne, h.le, Nat.le_trans h.base hs⟩
theorem MP.below {w w' : World} {base B p : Nat} {v : Value} {most : Int} {m : List Int} (h : MP w base B v p most m) (hb : Below w.heap.size w w') : MP w' base B v p most m := (h.part.below hb).holds
/-- where the bytes lie -/
theorem MP.at {w : World} {base B p : Nat} {v : Value} {most : Int} {m : List Int} (h : MP w base B v p most m) (hp : 0 < p) : ∃ g cap, v = .slice (some ⟨g, 0, none⟩) p cap ∧ p ≤ cap ∧ cap ≤ 9223372036854775807 ∧ (∀ k (hk : k < m.length), w.cell? ⟨g, k, none⟩ = some (.int .u8 m[k])) ∧ (∀ i, w.frozen? ⟨g, i, none⟩ = false) ∧ g ≠ B := by
  obtain ⟨g, cap, rfl, hg, hlt, h1, h2⟩ := own_head h.own hp
  have hne : g ≠ B := fun e => h.ne (by rw [e]; rfl)
  obtain ⟨ao, cap', hv, _, _, _, hc⟩ := own_sl h.own
  simp only [Value.slice.injEq, true_and] at hv
  obtain ⟨rfl, rfl⟩ := hv
  refine ⟨g, cap, rfl, h1, h2, fun k hk => ?_, fun i => ?_, hne⟩
  · rcases hc with e | ⟨b, off, hb, hat⟩
    · simp only [List.map_eq_nil_iff] at e
      subst e
      simp at hk
    · simp only [Option.some.injEq, Addr.mk.injEq, and_true] at hb
      obtain ⟨rfl, rfl⟩ := hb
      have := hat k (by simpa using hk)
      rw [Nat.zero_add] at this
      rw [this]
      simp
  · rcases h.own.2 with ⟨e, _⟩ | ⟨g', cap', cur, e, _, hh, _⟩
    · simp at e
    · simp only [Value.slice.injEq, Option.some.injEq, Addr.mk.injEq, and_true, true_and] at e
      obtain ⟨rfl, _⟩ := e
      simp [World.frozen?, hh]
set_option maxRecDepth 100000 in
theorem msize_any (w : World) (base B p : Nat) (v : Value) (most : Int) (m : List Int) (h : MP w base B v p most m) :
    Calls Try.prog 8 #[.pointer (some ⟨B, 0, none⟩)] w fun e w' => e = .returned (.int .i64 p) ∧ w = w' := by
  obtain ⟨ao, cap, rfl, -⟩ := own_sl h.own
  have c0 := h.blk.cell (i := 0) rfl
  clear h
  go_enter Try.func8, Try.ntmps8
  go_wp2_with fail
  go_ret
  exact ⟨rfl, rfl⟩
set_option maxRecDepth 100000 in
theorem mhas_any (w : World) (base B p : Nat) (v : Value) (most : Int) (m : List Int) (a n : Int) (hp : p ≤ 8) (hn : 0 ≤ n ∧ n ≤ 8) (h : MP w base B v p most m) :
    Calls Try.prog 25 #[.pointer (some ⟨B, 0, none⟩), .int .i64 a, .int .i64 n] w fun e w' => e = .returned (.bool (decide (a ≤ (p : Int) * 256 - n))) ∧ w = w' := by
  obtain ⟨ao, cap, rfl, -⟩ := own_sl h.own
  have c0 := h.blk.cell (i := 0) rfl
  obtain ⟨n0, n1⟩ := hn
  have hp2 : (p : Int) ≤ 8 := by omega
  clear h
  go_enter Try.func25, Try.ntmps25
  go_wp2_with fail
  go_ret
  exact ⟨rfl, rfl⟩
def isSg (op : Int) : Bool := decide (op = 40 ∨ op = 41 ∨ op = 44 ∨ op = 46 ∨ op = 48 ∨ op = 50 ∨ op = 52)
end Go.Proofs.Ytdiiefhklcchmaa
