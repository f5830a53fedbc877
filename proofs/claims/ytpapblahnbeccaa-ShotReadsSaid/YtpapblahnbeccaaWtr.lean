/-
  THE WRITER OF A SHOT: fail, count, plain, signed. Conditions: lengths in the form's reach.
-/
import Derived.Test.YtpapblahnbeccaaFl0
import Derived.Deep.RegionLaw
namespace Go.Proofs.Ytpapblahnbeccaa
open Go.RowKit Go.Lib
attribute [local go_sem ↓] Go.wp_at_zero Go.wp_at_succ

/-- the writer: its bytes and the first fault -/
structure WBox (w : World) (base B : Nat) (v : Value) (l : List UInt8) (b : Int) : Prop where
  blk : Blk w B 265 [v, .int .i64 b]
  own : OwnI w base .u8 5 v (bytesI l)
  le : base ≤ B
  base : base ≤ w.heap.size
theorem WBox.ne {w : World} {base B : Nat} {v : Value} {l : List UInt8} {b : Int} (h : WBox w base B v l b) : v.ownBlock ≠ some B := blk_ne h.blk h.own (by rfl)
theorem WBox.below {w w' : World} {base B : Nat} {v : Value} {l : List UInt8} {b : Int} (h : WBox w base B v l b) (hb : Below w.heap.size w w') : WBox w' base B v l b :=
  ⟨h.blk.below hb, h.own.below hb, h.le, Nat.le_trans h.base hb.size⟩
/-- blocks of other types stay as they are -/
def Keep (B : Nat) (w w' : World) : Prop := ∀ (c : Nat) (ty : TypeId) (cs : List Value), (ty == 5) = false → c ≠ B → Blk w c ty cs → Blk w' c ty cs
theorem Keep.refl (B : Nat) (w : World) : Keep B w w := fun _ _ _ _ _ h => h
theorem Keep.trans {B : Nat} {w1 w2 w3 : World} (h1 : Keep B w1 w2) (h2 : Keep B w2 w3) : Keep B w1 w3 := fun c ty cs a b h => h2 c ty cs a b (h1 c ty cs a b h)
theorem Keep.of_below {B : Nat} {w w' : World} (h : Below w.heap.size w w') : Keep B w w' := fun _ _ _ _ _ hk => hk.below h
theorem Keep.set {B i : Nat} {w : World} (v : Value) : Keep B w (w.setCell ⟨B, i, none⟩ v) := fun _ _ _ _ hc hk => hk.other (a := ⟨B, i, none⟩) (Ne.symm hc) v
theorem Keep.grown {B base : Nat} {w w' : World} {v : Value} {n : Nat} {cs : List Value} (hg : w.grownBy w' v.ownBlock) (ho : w.ownsRow base 5 1 v n cs) : Keep B w w' := fun _ _ _ ht _ hk => blk_grown hk hg (blk_ne hk ho ht)
def WPost (w : World) (base B : Nat) (l : List UInt8) (b : Int) (e : Ending) (w' : World) : Prop := ∃ v', e = .returned (.tuple #[]) ∧ WBox w' base B v' l b ∧ Below base w w' ∧ Keep B w w'

theorem WBox.setBad {w : World} {base B : Nat} {v : Value} {l : List UInt8} {b : Int} (h : WBox w base B v l b) (e : Int) : WBox (w.setCell ⟨B, 1, none⟩ (.int .i64 e)) base B v l e := by
  refine ⟨h.blk.set 1 _, ?_, h.le, by have := h.base; simp; omega⟩
  exact ownsRow_setCell_other (a := ⟨B, 1, none⟩) h.own h.ne _
/-- an append, and the row stored back -/
theorem WBox.put {w w1 : World} {base B : Nat} {v v' : Value} {l l' : List UInt8} {b : Int} (h : WBox w base B v l b) (hg : w.grownBy w1 v.ownBlock) (hb : Below base w w1) (ho : OwnI w1 base .u8 5 v' (bytesI l')) : WBox (w1.setCell ⟨B, 0, none⟩ v') base B v' l' b := by
  have hk := blk_grown h.blk hg h.ne
  have hne := blk_ne hk ho (by rfl)
  exact ⟨hk.set 0 v', ownsRow_setCell_other (a := ⟨B, 0, none⟩) ho hne _, h.le, by have := h.base; have := hb.size; simp; omega⟩

set_option maxRecDepth 100000 in
set_option maxHeartbeats 1000000 in
theorem wfail_any (w : World) (base B : Nat) (v : Value) (l : List UInt8) (b : Int) (is : Bool) (e : Int) (h : WBox w base B v l b) :
    Calls Try.prog 172 #[.pointer (some ⟨B, 0, none⟩), .bool is, .int .i64 e] w (WPost w base B l (failB is e b)) := by
  have q1 := h.blk.cell (i := 1) rfl
  have f1 := h.blk.free 1
  have H := hid h
  clear h
  cases is with
  | false =>
    rw [show failB false e b = b from if_neg (by simp)]
    go_enter Try.func172, Try.ntmps172
    go_wp2_with fail
    go_end0
    exact ⟨v, rfl, H.out, Below.refl _ _, Keep.refl _ _⟩
  | true =>
    by_cases hb : b = 0
    · subst hb
      rw [show failB true e 0 = e from if_pos ⟨rfl, rfl⟩]
      go_enter Try.func172, Try.ntmps172
      go_wp2_with fail
      go_end0
      exact ⟨v, rfl, H.out.setBad e, (Below.refl _ _).setCell H.out.le _, Keep.set _⟩
    · rw [show failB true e b = b from if_neg (fun h => hb h.2)]
      have hb2 : (b == 0) = false := by simpa using hb
      go_enter Try.func172, Try.ntmps172
      go_wp2_with fail
      go_end0
      exact ⟨v, rfl, H.out, Below.refl _ _, Keep.refl _ _⟩

theorem wrote {w w2 w3 : World} {base B : Nat} {v : Value} {l m : List UInt8} {b : Int} {ao : Option Addr} {cap : Nat} (h : WBox w base B v l b) (hb2 : Below w.drew.heap.size w.drew w2) (ho : OwnI w3 base .u8 5 (.slice ao (bytesI l ++ nums (S m)).length cap) (bytesI l ++ nums (S m))) (hb3 : Below base w2 w3) (hg : w2.grownBy w3 v.ownBlock) :
    WPost w base B (l ++ m) b (.returned (.tuple #[])) (w3.setCell ⟨B, 0, none⟩ (.slice ao ((bytesI l).length + (nums (S m)).length) cap)) := by
  have h2 : WBox w2 base B v l b := h.below ((drew_bel' (n := 1) (Below.refl _ _)).trans hb2)
  rw [List.length_append] at ho
  rw [nums_S] at ho ⊢
  have e : bytesI l ++ bytesI m = bytesI (l ++ m) := (bytesI_append l m).symm
  refine ⟨_, rfl, h2.put (l' := l ++ m) hg hb3 (by rw [← e]; exact ho), ?_, (Keep.of_below ((drew_bel' (n := 1) (Below.refl _ _)).trans hb2)).trans ((Keep.grown hg h2.own).trans (Keep.set _))⟩
  exact Below.setCell ((((drew_bel' (n := 1) (Below.refl _ _)).trans (hb2.mono h.base))).trans hb3) h.le _

set_option maxRecDepth 100000 in
set_option maxHeartbeats 2000000 in
theorem wsigned_any (w : World) (base B : Nat) (v : Value) (l : List UInt8) (b : Int) (n : Int) (h : WBox w base B v l b) (h1 : -9223372036854775808 ≤ n) (h2 : n < 9223372036854775808) (hl : l.length ≤ 70368744177664) :
    Calls Try.prog 174 #[.pointer (some ⟨B, 0, none⟩), .int .i64 n] w (WPost w base B (l ++ encS 9 n) b) := by
  have H := hid h
  have hlen := encS_length 9 n
  have hleb := fun w => lebS_any n w h1 h2
  generalize encS 9 n = m at *
  have HL := hid hleb
  have hD : ∀ w', Below w.drew.heap.size w.drew w' → w'.cell? ⟨B, 0, none⟩ = some v ∧ w'.frozen? ⟨B, 0, none⟩ = false := by
    intro w' hb
    have hk : Blk w' B _ _ := (H.out.below ((drew_bel' (n := 1) (Below.refl _ _)).trans hb)).blk
    exact ⟨hk.cell rfl, hk.free 0⟩
  have HD := hid hD
  obtain ⟨q0, f0⟩ := hD _ (Below.refl _ _)
  clear hD
  clear hleb h
  go_enter Try.func174, Try.ntmps174
  go_wp2_with fail
  go_region_law (first | (go_simp; go_at_call 194; refine (HL.out _).mono ?_; rintro e w2 ⟨rfl, hb2⟩; obtain ⟨y0, y1⟩ := HD.out _ hb2; have HB2 := hid hb2; clear hb2) | (refine step_str elem_u8 Try.underlying9 (by rfl) _ _ (by rfl) (by rfl) (by rfl) (WBox.below H.out ((drew_bel' (n := 1) (Below.refl _ _)).trans HB2.out)).own (by rw [bytesI_length, S_size]; omega) (WBox.below H.out ((drew_bel' (n := 1) (Below.refl _ _)).trans HB2.out)).base ?_; intro v' w3 ho hb3 hg; obtain ⟨ao2, cap2, rfl, _⟩ := own_sl ho; have z0 := (blk_grown (WBox.below H.out ((drew_bel' (n := 1) (Below.refl _ _)).trans HB2.out)).blk hg H.out.ne).cell (i := 0) rfl; have z1 := (blk_grown (WBox.below H.out ((drew_bel' (n := 1) (Below.refl _ _)).trans HB2.out)).blk hg H.out.ne).free 0; have HG := hid (And.intro ho (And.intro hb3 hg)); clear ho hb3 hg))
  all_goals
    go_end0
    exact wrote H.out HB2.out HG.out.1 HG.out.2.1 HG.out.2.2

set_option maxRecDepth 100000 in
set_option maxHeartbeats 2000000 in
theorem wcount_any (w : World) (base B : Nat) (v : Value) (l : List UInt8) (b : Int) (n most : Int) (h : WBox w base B v l b) (hl : l.length ≤ 70368744177664) :
    Calls Try.prog 173 #[.pointer (some ⟨B, 0, none⟩), .int .i64 n, .int .i64 most] w (WPost w base B (l ++ encN n) (failB (decide (most < n)) 2 b)) := by
  have hfail := wfail_any w base B v l b (decide (most < n)) 2 h
  have HF := hid hfail
  have hun := u64of_wrap n
  have hleb := fun w => lebU_any (u64of n) w (u64of_lt n)
  have hlen := encU_len 9 (u64of n)
  unfold encN
  generalize encU 9 (u64of n) = m at *
  generalize u64of n = un at *
  have HL := hid hleb
  clear hleb hfail h
  go_enter Try.func173, Try.ntmps173
  go_wp2_with fail
  refine HF.out.mono ?_
  rintro e w1 ⟨v1, rfl, h, hb1, hk1⟩
  have H := hid h
  have HB1 := hid (And.intro hb1 hk1)
  generalize failB (decide (most < n)) 2 b = b1 at *
  clear h hb1 hk1 v
  have hD : ∀ w', Below w1.drew.heap.size w1.drew w' → w'.cell? ⟨B, 0, none⟩ = some v1 ∧ w'.frozen? ⟨B, 0, none⟩ = false := by
    intro w' hb
    have hk : Blk w' B _ _ := (H.out.below ((drew_bel' (n := 1) (Below.refl _ _)).trans hb)).blk
    exact ⟨hk.cell rfl, hk.free 0⟩
  have HD := hid hD
  obtain ⟨q0, f0⟩ := hD _ (Below.refl _ _)
  clear hD
  go_wp2_with fail
  go_region_law (first | (go_simp; go_at_call 193; (with_reducible refine (HL.out _).mono ?_); rintro e w2 ⟨rfl, hb2⟩; obtain ⟨y0, y1⟩ := HD.out _ hb2; have HB2 := hid hb2; clear hb2) | (refine step_str elem_u8 Try.underlying9 (by rfl) _ _ (by rfl) (by rfl) (by rfl) (WBox.below H.out ((drew_bel' (n := 1) (Below.refl _ _)).trans HB2.out)).own (by rw [bytesI_length, S_size]; omega) (WBox.below H.out ((drew_bel' (n := 1) (Below.refl _ _)).trans HB2.out)).base ?_; intro v' w3 ho hb3 hg; obtain ⟨ao2, cap2, rfl, _⟩ := own_sl ho; have z0 := (blk_grown (WBox.below H.out ((drew_bel' (n := 1) (Below.refl _ _)).trans HB2.out)).blk hg H.out.ne).cell (i := 0) rfl; have z1 := (blk_grown (WBox.below H.out ((drew_bel' (n := 1) (Below.refl _ _)).trans HB2.out)).blk hg H.out.ne).free 0; have HG := hid (And.intro ho (And.intro hb3 hg)); clear ho hb3 hg))
  all_goals
    go_end0
    obtain ⟨v2, e2, hw2, hb2, hk2⟩ := wrote H.out HB2.out HG.out.1 HG.out.2.1 HG.out.2.2
    exact ⟨v2, e2, hw2, HB1.out.1.trans hb2, HB1.out.2.trans hk2⟩

set_option maxRecDepth 100000 in
set_option maxHeartbeats 2000000 in
theorem wplain_any (w : World) (base B : Nat) (v : Value) (l : List UInt8) (b : Int) (n : Int) (h : WBox w base B v l b) (hl : l.length ≤ 70368744177664) :
    Calls Try.prog 176 #[.pointer (some ⟨B, 0, none⟩), .int .i64 n] w (WPost w base B (l ++ encN n) (failB (idxBad n) 1 b)) := by
  have hfail := wfail_any w base B v l b (idxBad n) 1 h
  have HF := hid hfail
  have hun := u64of_wrap n
  have hleb := fun w => lebU_any (u64of n) w (u64of_lt n)
  have hlen := encU_len 9 (u64of n)
  unfold encN
  generalize encU 9 (u64of n) = m at *
  generalize u64of n = un at *
  have HL := hid hleb
  have hcs := idx_cases n
  generalize idxBad n = ib at *
  clear hleb hfail h
  rcases hcs with ⟨k1, rfl⟩ | ⟨k1, k2, rfl⟩ | ⟨k1, k2, k3, k4, rfl⟩
  all_goals
    go_enter Try.func176, Try.ntmps176
    go_wp2_with fail
    refine HF.out.mono ?_
    rintro e w1 ⟨v1, rfl, h, hb1, hk1⟩
    have H := hid h
    have HB1 := hid (And.intro hb1 hk1)
    generalize failB _ 1 b = b1 at *
    clear h hb1 hk1 v
    have hD : ∀ w', Below w1.drew.heap.size w1.drew w' → w'.cell? ⟨B, 0, none⟩ = some v1 ∧ w'.frozen? ⟨B, 0, none⟩ = false := by
      intro w' hb
      have hk : Blk w' B _ _ := (H.out.below ((drew_bel' (n := 1) (Below.refl _ _)).trans hb)).blk
      exact ⟨hk.cell rfl, hk.free 0⟩
    have HD := hid hD
    obtain ⟨q0, f0⟩ := hD _ (Below.refl _ _)
    clear hD
    go_wp2_with fail
    go_region_law (first | (go_simp; go_at_call 193; (with_reducible refine (HL.out _).mono ?_); rintro e w2 ⟨rfl, hb2⟩; obtain ⟨y0, y1⟩ := HD.out _ hb2; have HB2 := hid hb2; clear hb2) | (refine step_str elem_u8 Try.underlying9 (by rfl) _ _ (by rfl) (by rfl) (by rfl) (WBox.below H.out ((drew_bel' (n := 1) (Below.refl _ _)).trans HB2.out)).own (by rw [bytesI_length, S_size]; omega) (WBox.below H.out ((drew_bel' (n := 1) (Below.refl _ _)).trans HB2.out)).base ?_; intro v' w3 ho hb3 hg; obtain ⟨ao2, cap2, rfl, _⟩ := own_sl ho; have z0 := (blk_grown (WBox.below H.out ((drew_bel' (n := 1) (Below.refl _ _)).trans HB2.out)).blk hg H.out.ne).cell (i := 0) rfl; have z1 := (blk_grown (WBox.below H.out ((drew_bel' (n := 1) (Below.refl _ _)).trans HB2.out)).blk hg H.out.ne).free 0; have HG := hid (And.intro ho (And.intro hb3 hg)); clear ho hb3 hg))
    all_goals
      go_end0
      obtain ⟨v2, e2, hw2, hb2, hk2⟩ := wrote H.out HB2.out HG.out.1 HG.out.2.1 HG.out.2.2
      exact ⟨v2, e2, hw2, HB1.out.1.trans hb2, HB1.out.2.trans hk2⟩
end Go.Proofs.Ytpapblahnbeccaa
