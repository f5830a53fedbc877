/-
  SUPERVISORS: Down for all arguments, Kids, Over; what stays true. No condition beside at most 8 kids.
-/
import Derived.Test.YtpapblahnbeccaaSsN
import Derived.Test.YtpapblahnbeccaaEqs
namespace Go.Proofs.Ytpapblahnbeccaa
open Go.RowKit Go.Lib

def okSS (s : SSt) : Prop := s.kids.length ≤ 8 ∧ 0 ≤ s.last
theorem down_cases (s : SSt) (kid now : Int) : (s.over = true ∨ (s.over = false ∧ (kid < 0 ∨ (s.kids.length : Int) ≤ kid ∨ ¬ isT now ∨ now < s.last)) ∨ (s.over = false ∧ 0 ≤ kid ∧ kid < s.kids.length ∧ isT now ∧ s.last ≤ now ∧ (kdAt s.kids kid.toNat).runs = false))
    ∨ ∃ n : Nat, kid = n ∧ s.over = false ∧ n < s.kids.length ∧ isT now ∧ s.last ≤ now ∧ (kdAt s.kids n).runs = true := by
  cases ho : s.over with
  | true => exact .inl (.inl rfl)
  | false =>
    by_cases h : kid < 0 ∨ (s.kids.length : Int) ≤ kid ∨ ¬ isT now ∨ now < s.last
    · exact .inl (.inr (.inl ⟨rfl, h⟩))
    · have h1 : isT now := Classical.byContradiction fun g => h (.inr (.inr (.inl g)))
      have h2 : 0 ≤ kid := Int.not_lt.1 fun g => h (.inl g)
      have h3 : kid < s.kids.length := Int.not_le.1 fun g => h (.inr (.inl g))
      have h4 : s.last ≤ now := Int.not_lt.1 fun g => h (.inr (.inr (.inr g)))
      cases hr : (kdAt s.kids kid.toNat).runs with
      | false => exact .inl (.inr (.inr ⟨rfl, h2, h3, h1, h4, rfl⟩))
      | true => exact .inr ⟨kid.toNat, by omega, rfl, by omega, h1, h4, hr⟩
theorem sdown_any (w : World) (base B : Nat) (kv pv : Value) (s : SSt) (kid now : Int) (h : SBox 180 w base B kv pv s) (hk : okSS s) :
    Calls Try.prog 39 #[.pointer (some ⟨B, 0, none⟩), .int .i64 kid, .int .i64 now] w (DownPost 180 w base B kv pv (downF s kid now)) := by
  rcases down_cases s kid now with hb | ⟨n, rfl, h1, h2, h3, h4, h5⟩
  · exact sdown_bad w base B kv pv s kid now h hb
  · exact sdown_good w base B kv pv s n now h h1 h2 h3 h4 h5 hk.1
theorem rdown_any (w : World) (base B : Nat) (kv pv : Value) (s : SSt) (kid now : Int) (h : SBox 78 w base B kv pv s) (hk : okSS s) :
    Calls Try.prog 40 #[.pointer (some ⟨B, 0, none⟩), .int .i64 kid, .int .i64 now] w (DownPost 78 w base B kv pv (downF s kid now)) := by
  rcases down_cases s kid now with hb | ⟨n, rfl, h1, h2, h3, h4, h5⟩
  · exact rdown_bad w base B kv pv s kid now h hk.2 hb
  · exact rdown_good w base B kv pv s n now h hk.2 h1 h2 h3 h4 h5 hk.1
theorem down_ok {s : SSt} (h : okSS s) (kid now : Int) : okSS (downF s kid now).2 := by
  rcases down_cases s kid now with hb | ⟨n, rfl, h1, h2, h3, h4, h5⟩
  · have : (downF s kid now).2 = s := by
      unfold downF
      rcases hb with ho | ⟨ho, hb⟩ | ⟨ho, k1, k2, k3, k4, k5⟩
      · rw [if_pos ho]
      · rw [if_neg (by rw [ho]; decide), if_pos hb]
      · rw [if_neg (by rw [ho]; decide), if_neg (by rintro (h | h | h | h); omega; omega; exact h k3; omega), if_pos k5]
    rw [this]; exact h
  · have hn : 0 ≤ now := h3.1
    have e : downF s n now = _ := (if_neg (by rw [h1]; decide)).trans ((if_neg (by rintro (h | h | h | h); omega; omega; exact h h3; omega)).trans (if_neg (by rw [show ((n : Int)).toNat = n from rfl, h5]; decide)))
    rw [e]
    by_cases hk : (kdAt s.kids (n : Int).toNat).keep = false
    · rw [if_pos hk]; exact ⟨by show (setR false s.kids n).length ≤ 8; rw [setR_len]; exact h.1, hn⟩
    · rw [if_neg hk]
      unfold downG
      split
      · exact ⟨by show (setAll false _ _).length ≤ 8; rw [setAll_len, setR_len]; exact h.1, hn⟩
      · exact ⟨by show (setAll true _ _).length ≤ 8; rw [setAll_len, setAll_len, setR_len]; exact h.1, hn⟩

theorem SBox.part {ty : TypeId} {w : World} {base B : Nat} {kv pv : Value} {s : SSt} (h : SBox ty w base B kv pv s) : Part base (footS B kv pv) (fun w => SBox ty w base B kv pv s) w := by
  refine ⟨h, h.base, ?_, ?_⟩
  · rintro k (e | e | e)
    · subst e; exact ⟨h.le, h.blk.lt⟩
    · exact World.ownsRow.lt h.kids k e
    · exact World.ownsRow.lt h.past k e
  · intro w' hs hb
    exact ⟨h.blk.same (hb B (.inl rfl)), own_same h.kids (fun k hk => hb k (.inr (.inl hk))), own_same h.past (fun k hk => hb k (.inr (.inr hk))), h.le, Nat.le_trans h.base hs⟩
theorem SBox.down {ty : TypeId} {w : World} {base b2 B : Nat} {kv pv : Value} {s : SSt} (h : SBox ty w base B kv pv s) (hb : b2 ≤ base) : SBox ty w b2 B kv pv s :=
  ⟨h.blk, own_mono h.kids hb, own_mono h.past hb, Nat.le_trans hb h.le, Nat.le_trans hb h.base⟩
abbrev DuoS (w : World) (base B1 B2 : Nat) (k1 p1 k2 p2 : Value) (s t : SSt) : Prop :=
  Duo base (footS B1 k1 p1) (footS B2 k2 p2) (fun w => SBox 180 w base B1 k1 p1 s) (fun w => SBox 78 w base B2 k2 p2 t) w
theorem sup_left {w w' : World} {base B1 B2 : Nat} {k1 p1 k2 p2 : Value} {s t : SSt} {r : (List Int × List Int × Bool × Int) × SSt} {e : Ending} (h : DuoS w base B1 B2 k1 p1 k2 p2 s t) (hp : DownPost 180 w base B1 k1 p1 r e w') :
    ∃ v1 v2 k1' p1', e = .returned (.tuple #[v1, v2, .bool r.1.2.2.1, .int .i64 r.1.2.2.2]) ∧ DuoS w' base B1 B2 k1' p1' k2 p2 r.2 t ∧ Touch (footS B1 k1 p1) w w' ∧ OwnI w' w.heap.size .i64 3 v1 r.1.1 ∧ OwnI w' w.heap.size .i64 3 v2 r.1.2.1 := by
  obtain ⟨v1, v2, k', p', rfl, h1, h2, h3, h4, h5⟩ := hp
  exact ⟨v1, v2, k', p', rfl, h.left h1.part h4 h5, h4, h2, h3⟩
theorem sup_right {w w' : World} {base B1 B2 : Nat} {k1 p1 k2 p2 : Value} {s t : SSt} {r : (List Int × List Int × Bool × Int) × SSt} {e : Ending} (h : DuoS w base B1 B2 k1 p1 k2 p2 s t) (hp : DownPost 78 w base B2 k2 p2 r e w') :
    ∃ v1 v2 k2' p2', e = .returned (.tuple #[v1, v2, .bool r.1.2.2.1, .int .i64 r.1.2.2.2]) ∧ DuoS w' base B1 B2 k1 p1 k2' p2' s r.2 ∧ Touch (footS B2 k2 p2) w w' ∧ OwnI w' w.heap.size .i64 3 v1 r.1.1 ∧ OwnI w' w.heap.size .i64 3 v2 r.1.2.1 := by
  obtain ⟨v1, v2, k', p', rfl, h1, h2, h3, h4, h5⟩ := hp
  exact ⟨v1, v2, k', p', rfl, h.right h1.part h4 h5, h4, h2, h3⟩

set_option maxRecDepth 100000 in
theorem skids_any (w : World) (base B : Nat) (kv pv : Value) (s : SSt) (h : SBox 180 w base B kv pv s) (hk : okSS s) :
    Calls Try.prog 43 #[.pointer (some ⟨B, 0, none⟩)] w fun e w' => ∃ v', e = .returned v' ∧ Lk encKd w' v' s.kids ∧ Below w.heap.size w w' := by
  have b3 := h.blk.cell (i := 3) rfl
  have hc := clone_Kd kv s.kids w h.kids.lk (by have := hk.1; omega) (by have := hk.1; omega)
  have HC := hid hc
  obtain ⟨ao, cap, hkv, _⟩ := own_sl h.kids
  subst hkv
  clear hc h
  go_enter Try.func43, Try.ntmps43
  go_wp2_with fail
  refine HC.out.mono ?_
  rintro e w1 ⟨v', rfl, h1, h2⟩
  go_wp2_with fail
  go_ret
  exact ⟨v', rfl, h1, h2⟩
set_option maxRecDepth 100000 in
theorem sover_any (w : World) (base B : Nat) (kv pv : Value) (s : SSt) (h : SBox 180 w base B kv pv s) :
    Calls Try.prog 44 #[.pointer (some ⟨B, 0, none⟩)] w fun e w' => e = .returned (.bool s.over) ∧ w = w' := by
  have b6 := h.blk.cell (i := 6) rfl
  clear h
  go_enter Try.func44, Try.ntmps44
  go_wp2_with fail
  go_ret
  exact ⟨rfl, rfl⟩
end Go.Proofs.Ytpapblahnbeccaa
