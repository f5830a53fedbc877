/-
  THE REFERENCE's LIST OF FAULTS: add, index, at, first; u. Conditions: lengths in the form's reach.
-/
import Derived.Test.YtpapblahnbeccaaFl0
namespace Go.Proofs.Ytpapblahnbeccaa
open Go.RowKit Go.Lib
attribute [local go_sem ↓] Go.wp_at_zero Go.wp_at_succ

theorem elem_errs : Elem Try.prog 270 24 (.int .i64 0) 1 8 := ⟨Try.underlying270, by kernel_rfl, rfl, by decide⟩

structure FBox (w : World) (base B : Nat) (L : List Int) : Prop where
  le : base ≤ B
  own : ∃ v, Blk w B 270 [v] ∧ OwnI w base .i64 24 v L
  base : base ≤ w.heap.size
theorem FBox.below {w w' : World} {base B : Nat} {L : List Int} (h : FBox w base B L) (hb : Below w.heap.size w w') : FBox w' base B L := by
  obtain ⟨h1, ⟨v, h3, h4⟩, h2⟩ := h
  exact ⟨h1, ⟨v, h3.below hb, h4.below hb⟩, Nat.le_trans h2 hb.size⟩
/-- blocks of other types stay -/
def KeepF (B : Nat) (w w' : World) : Prop := ∀ (c : Nat) (ty : TypeId) (cs : List Value), (ty == 24) = false → c ≠ B → Blk w c ty cs → Blk w' c ty cs
theorem KeepF.trans {B : Nat} {w1 w2 w3 : World} (h1 : KeepF B w1 w2) (h2 : KeepF B w2 w3) : KeepF B w1 w3 := fun c ty cs a b h => h2 c ty cs a b (h1 c ty cs a b h)
/-- a block of another type is turned -/
theorem FBox.other {w : World} {base B c i : Nat} {L : List Int} {ty : TypeId} {cs : List Value} (h : FBox w base B L) (hc : Blk w c ty cs) (ht : (ty == 24) = false) (hne : B ≠ c) (u : Value) : FBox (w.setCell ⟨c, i, none⟩ u) base B L := by
  obtain ⟨h1, ⟨v, h3, h4⟩, h2⟩ := h
  exact ⟨h1, ⟨v, h3.other (a := ⟨c, i, none⟩) (Ne.symm hne) u, ownsRow_setCell_other (a := ⟨c, i, none⟩) h4 (blk_ne hc h4 ht) u⟩, by simpa using h2⟩
def FPost (base B : Nat) (w : World) (L : List Int) (e : Ending) (w' : World) : Prop := e = .returned (.tuple #[]) ∧ FBox w' base B L ∧ Below base w w' ∧ KeepF B w w'

set_option maxRecDepth 100000 in
set_option maxHeartbeats 1000000 in
theorem fadd_any (w : World) (base B : Nat) (L : List Int) (is : Bool) (e : Int) (h : FBox w base B L) (hl : L.length ≤ 1099511627776) :
    Calls Try.prog 179 #[.pointer (some ⟨B, 0, none⟩), .bool is, .int .i64 e] w (FPost base B w (L ++ flt is e)) := by
  cases is with
  | false =>
    rw [show L ++ flt false e = L from by simp [flt]]
    have H := hid h
    clear h
    go_enter Try.func179, Try.ntmps179
    go_wp2_with fail
    go_end0
    exact ⟨rfl, H.out, Below.refl _ _, fun _ _ _ _ _ h => h⟩
  | true =>
    rw [show L ++ flt true e = L ++ [e] from by simp [flt]]
    obtain ⟨h1, ⟨v, h3, h4⟩, h2⟩ := h
    have q0 := h3.cell (i := 0) rfl
    have f0 := h3.free 0
    obtain ⟨ao, cap, hvv, _⟩ := own_sl h4
    subst hvv
    have H3 := hid h3
    have H4 := hid h4
    have hne := blk_ne h3 h4 (by rfl)
    clear h3 h4
    go_enter Try.func179, Try.ntmps179
    go_wp2_with (at_builtin; go_must (refine app_int elem_errs (y := e) rfl _ _ rfl rfl rfl rfl H4.out (by omega) (by omega) h2 ?_); intro v' w' ho hb hg; obtain ⟨ao2, cap2, rfl, _⟩ := own_sl ho; have z0 := Grew.cell hg q0 hne; have z1 := Grew.free hg q0 hne f0; have HG := hid (And.intro ho (And.intro hb hg)); clear ho hb hg)
    go_end0
    have hk : Blk w' B _ _ := blk_grown H3.out HG.out.2.2.1 hne
    have hn2 := blk_ne hk HG.out.1 (by rfl)
    have hlen : (L ++ [e]).length = L.length + 1 := by simp
    have ho2 := HG.out.1
    rw [hlen] at ho2 hn2
    refine ⟨rfl, ⟨h1, ⟨_, hk.set 0 _, ownsRow_setCell_other (a := ⟨B, 0, none⟩) ho2 hn2 _⟩, by have := HG.out.2.1.size; simp; omega⟩, HG.out.2.1.setCell h1 _, ?_⟩
    intro c ty cs ht hc hcs
    exact (blk_grown hcs HG.out.2.2.1 (blk_ne hcs H4.out ht)).other (a := ⟨B, 0, none⟩) (Ne.symm hc) _

theorem at_cases (n : Int) : (n < -2147483648 ∧ atBad n = true) ∨ (-2147483648 ≤ n ∧ 2147483647 < n ∧ atBad n = true) ∨ (-2147483648 ≤ n ∧ n ≤ 2147483647 ∧ decide (n < -2147483648) = false ∧ decide (2147483647 < n) = false ∧ atBad n = false) := by
  unfold atBad
  by_cases h : n < -2147483648
  · exact .inl ⟨h, decide_eq_true (.inl h)⟩
  by_cases h2 : 2147483647 < n
  · exact .inr (.inl ⟨by omega, h2, decide_eq_true (.inr h2)⟩)
  · exact .inr (.inr ⟨by omega, by omega, decide_eq_false (by omega), decide_eq_false (by omega), decide_eq_false (by omega)⟩)

set_option maxRecDepth 100000 in
set_option maxHeartbeats 1000000 in
theorem findex_any (w : World) (base B : Nat) (L : List Int) (n : Int) (h : FBox w base B L) (hl : L.length ≤ 1099511627776) :
    Calls Try.prog 184 #[.pointer (some ⟨B, 0, none⟩), .int .i64 n] w (FPost base B w (L ++ flt (idxBad n) 1)) := by
  have ha := fadd_any w base B L (idxBad n) 1 h hl
  have hcs := idx_cases n
  generalize idxBad n = ib at *
  have HA := hid ha
  clear ha h
  rcases hcs with ⟨k1, rfl⟩ | ⟨k1, k2, rfl⟩ | ⟨k1, k2, k3, k4, rfl⟩
  all_goals
    go_enter Try.func184, Try.ntmps184
    go_wp2_with fail
    refine HA.out.mono ?_
    rintro e w1 ⟨rfl, h2, h3, h4⟩
    go_wp2_with fail
    go_end0
    exact ⟨rfl, h2, h3, h4⟩

set_option maxRecDepth 100000 in
set_option maxHeartbeats 1000000 in
theorem fat_any (w : World) (base B : Nat) (L : List Int) (n : Int) (h : FBox w base B L) (hl : L.length ≤ 1099511627776) :
    Calls Try.prog 181 #[.pointer (some ⟨B, 0, none⟩), .int .i64 n] w (FPost base B w (L ++ flt (atBad n) 1)) := by
  have ha := fadd_any w base B L (atBad n) 1 h hl
  have hcs := at_cases n
  generalize atBad n = ib at *
  have HA := hid ha
  clear ha h
  rcases hcs with ⟨k1, rfl⟩ | ⟨k1, k2, rfl⟩ | ⟨k1, k2, k3, k4, rfl⟩
  all_goals
    go_enter Try.func181, Try.ntmps181
    go_wp2_with fail
    refine HA.out.mono ?_
    rintro e w1 ⟨rfl, h2, h3, h4⟩
    go_wp2_with fail
    go_end0
    exact ⟨rfl, h2, h3, h4⟩

set_option maxRecDepth 100000 in
set_option maxHeartbeats 1000000 in
theorem ffirst_any (w : World) (v : Value) (L : List Int) (h : Ints w .i64 v L) :
    Calls Try.prog 185 #[v] w fun e w' => e = .returned (.int .i64 (firstF L)) ∧ w = w' := by
  rcases h.open with ⟨ao, cap, rfl, rfl, _⟩ | ⟨b, off, cap, rfl, h0, hcap, hm, hc⟩
  · go_enter Try.func185, Try.ntmps185
    go_wp2_with fail
    go_ret
    exact ⟨rfl, rfl⟩
  · have c0 := hc 0 h0
    cases L with
    | nil => simp at h0
    | cons x r =>
      rw [List.getElem_cons_zero, Nat.add_zero] at c0
      have hz : (((x :: r).length : Int) == 0) = false := by simp; omega
      clear hc h
      generalize (x :: r).length = n at *
      have h0' : (0 : Int) < (n : Int) := by omega
      go_enter Try.func185, Try.ntmps185
      go_wp2_with fail
      go_ret
      exact ⟨rfl, rfl⟩

set_option maxRecDepth 100000 in
set_option maxHeartbeats 1000000 in
theorem u_any (n : Int) (w : World) : Calls Try.prog 180 #[.int .i64 n] w fun e w' => e = .returned (.string (S (encN n))) ∧ Below w.heap.size w w' := by
  have h := refLebU 9 (u64of n) w (u64of_lt n) (Nat.lt_trans (u64of_lt n) (by decide)) (by decide)
  have hun := u64of_wrap n
  unfold encN
  generalize encU 9 (u64of n) = m at *
  generalize u64of n = un at *
  have HL := hid h
  clear h
  go_enter Try.func180, Try.ntmps180
  go_wp2_with fail
  refine HL.out.mono ?_
  rintro e w1 ⟨rfl, hb⟩
  go_wp2_with fail
  go_ret
  exact ⟨rfl, hb⟩
end Go.Proofs.Ytpapblahnbeccaa
