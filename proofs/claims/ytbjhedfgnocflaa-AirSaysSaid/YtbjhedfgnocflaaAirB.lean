/-
  THE AIR: has, Take, Drop, Twice of both objects. Conditions: the object's own invariant.
-/
import Derived.Test.YtbjhedfgnocflaaAirA
import Derived.StillTailTactics
namespace Go.Proofs.Ytbjhedfgnocflaa
open Go.RowKit Go.Lib

theorem air_drew {ty E : TypeId} {w w' : World} {base B : Nat} {v a : Value} {ys : List Way} {e : Ending} (h : AirPost ty E w base B v a ys e w') (n : Nat) : AirPost ty E w base B v a ys e (w'.drewN n) := by
  obtain ⟨v', h1, h2, h3, h4⟩ := h
  exact ⟨v', h1, ⟨h2.blk, h2.own, h2.ne, h2.le, h2.base⟩, h3.drew n, h4⟩
/-- the answer of another name -/
theorem air_ans {ty E : TypeId} {w w' : World} {base B : Nat} {v a b : Value} {ys : List Way} {e e' : Ending} (h : AirPost ty E w base B v a ys e w') (he : e' = .returned b) : AirPost ty E w base B v b ys e' w' := by
  obtain ⟨v', h1, h2, h3, h4⟩ := h
  exact ⟨v', he, h2, h3, h4⟩

def inA (k : Int) (xs : List Way) : Prop := 0 ≤ k ∧ k < xs.length
instance (k : Int) (xs : List Way) : Decidable (inA k xs) := by unfold inA; infer_instance
def zeroW : Way := ⟨0, ⟨#[]⟩⟩
def atW (k : Int) (xs : List Way) : Way := xs.getD k.toNat zeroW

set_option maxRecDepth 100000 in
theorem ahas_any (w : World) (base B : Nat) (v : Value) (xs : List Way) (k : Int) (h : ABox 81 152 w base B v xs) :
    Calls Try.prog 90 #[.pointer (some ⟨B, 0, none⟩), .int .i64 k] w fun e w' => e = .returned (.bool (decide (inA k xs))) ∧ w = w' := by
  obtain ⟨ao, cap, hvv, _⟩ := own_sl h.own
  subst hvv
  have q0 := h.blk.cell (i := 0) rfl
  clear h
  by_cases h0 : k < 0
  · have e : decide (inA k xs) = false := decide_eq_false (by unfold inA; omega)
    rw [e]
    go_enter Try.func90, Try.ntmps90
    go_wp2_with fail
    go_ret
    exact ⟨retB (by simp <;> omega), rfl⟩
  · have h1 : 0 ≤ k := by omega
    have e : decide (inA k xs) = decide (k < (xs.length : Int)) := decide_eq_decide.2 (by unfold inA; omega)
    rw [e]
    go_enter Try.func90, Try.ntmps90
    go_wp2_with fail
    go_ret
    exact ⟨retB (by simp <;> omega), rfl⟩

def takeV (k : Int) (xs : List Way) : Value := if inA k xs then .tuple #[.int .i64 (atW k xs).to, .string (atW k xs).text, .int .i64 0] else .tuple #[.int .i64 0, .string ⟨#[]⟩, .int .i64 13]
def takeR (k : Int) (xs : List Way) : Value := if inA k xs then .tuple #[.agg #[.int .i64 (atW k xs).to, .string (atW k xs).text], .int .i64 0] else .tuple #[.agg #[.int .i64 0, .string ⟨#[]⟩], .int .i64 13]
def takeL (k : Int) (xs : List Way) : List Way := if inA k xs then xs.eraseIdx k.toNat else xs

theorem atW_get {k : Nat} {xs : List Way} (h : k < xs.length) : atW (k : Int) xs = xs[k] := by
  unfold atW; simp [h]

set_option maxRecDepth 100000 in
set_option maxHeartbeats 2000000 in
theorem atake_any (w : World) (base B : Nat) (v : Value) (xs : List Way) (k : Int) (h : ABox 81 152 w base B v xs) (hl : xs.length ≤ 40) :
    Calls Try.prog 48 #[.pointer (some ⟨B, 0, none⟩), .int .i64 k] w (AirPost 81 152 w base B v (takeV k xs) (takeL k xs)) := by
  have hh := ahas_any w base B v xs k h
  unfold takeV takeL
  by_cases hin : inA k xs
  · rw [if_pos hin, if_pos hin]
    rw [decide_eq_true hin] at hh
    obtain ⟨i, rfl⟩ := Int.eq_ofNat_of_zero_le hin.1
    have hi : i < xs.length := by have := hin.2; omega
    rw [atW_get hi, Int.toNat_natCast]
    obtain ⟨g, cap, rfl, hg1, hg2, hg3, hg4⟩ := own_head h.own (by omega)
    obtain ⟨_, _, _, hc⟩ := lk_cells h.own.lk encWay_len (by decide) (by omega)
    have x0 := hc i hi 0 (by decide); have x1 := hc i hi 1 (by decide)
    rw [show (encWay xs[i])[0]? = some (.int .i64 xs[i].to) from rfl, Nat.add_zero, Nat.zero_add] at x0; rw [show (encWay xs[i])[1]? = some (.string xs[i].text) from rfl, Nat.zero_add] at x1
    have q0 := h.blk.cell (i := 0) rfl
    have a0 := fun o => cell_alloc o q0
    have hBlt := h.blk.lt
    have hgB : g ≠ B := fun e => h.ne (by rw [e]; rfl)
    have H := hid h
    have HH := hid hh
    have b1 : (i : Int) < (xs.length : Int) := by omega
    clear hc hh hin h
    go_enter Try.func48, Try.ntmps48
    go_wp2_with fail
    refine HH.out.mono ?_
    rintro e w1 ⟨rfl, rfl⟩
    go_wp2_with fail
    have hok : Ok encWay 2 (w.alloc (.cells #[.int .i64 xs[i].to, .string xs[i].text] 152)) base 152 (.slice (some ⟨g, 0, none⟩) xs.length cap) xs := World.ownsRow.alloc H.out.own _
    refine (delete_AWay g cap base i xs _ hok hi).mono ?_
    rintro e w3 ⟨rfl, ho3, ht3⟩
    have hz3 := ht3.size
    simp at hz3
    have k2 : Blk w3 B 81 _ := (H.out.blk.alloc _).touch ht3 (fun e => hgB e.symm)
    have k4 : Blk w3 w.heap.size 152 _ := (Blk.new w _ _ _ rfl).touch ht3 (fun e => by omega)
    have y0 := k2.cell (i := 0) rfl
    have f0 := k2.free 0
    have u0 := k4.cell (i := 0) rfl
    have u1 := k4.cell (i := 1) rfl
    have hne1 : w.heap.size ≠ B := by omega
    have hrl : (xs.eraseIdx i).length = xs.length - 1 := List.length_eraseIdx_of_lt hi
    have hfin : AirPost 81 152 w base B (.slice (some ⟨g, 0, none⟩) xs.length cap) (.tuple #[.int .i64 xs[i].to, .string xs[i].text, .int .i64 0]) (xs.eraseIdx i) (.returned (.tuple #[.int .i64 xs[i].to, .string xs[i].text, .int .i64 0])) (w3.setCell ⟨B, 0, none⟩ (.slice (some ⟨g, 0, none⟩) (xs.length - 1) cap)) :=
      air_new H.out (((Touch.refl (footA B (.slice (some ⟨g, 0, none⟩) xs.length cap)) w).alloc _).trans' ht3 (fun j _ e => .inr (by rw [e]; rfl))) k2 ho3 (FreshA.same rfl)
    have HFIN := hid hfin
    clear k2 k4 ho3 ht3 hok x0 x1 q0 hfin hrl
    go_wp2_with fail
    go_quiet (fail)
    go_wp2_with fail
    go_ret3
    exact air_drew HFIN.out nq
  · rw [if_neg hin, if_neg hin]
    rw [decide_eq_false hin] at hh
    have H := hid h
    have HH := hid hh
    clear hh hin h
    go_enter Try.func48, Try.ntmps48
    go_wp2_with fail
    refine HH.out.mono ?_
    rintro e w1 ⟨rfl, rfl⟩
    go_wp2_with fail
    go_ret3
    exact air_same H.out (Below.refl _ _) rfl

theorem takeV_form (k : Int) (xs : List Way) : ∃ a t, takeV k xs = .tuple #[.int .i64 a, .string t, .int .i64 (if inA k xs then 0 else 13)] := by
  unfold takeV
  by_cases h : inA k xs
  · rw [if_pos h, if_pos h]; exact ⟨_, _, rfl⟩
  · rw [if_neg h, if_neg h]; exact ⟨_, _, rfl⟩
set_option maxRecDepth 100000 in
theorem adrop_any (w : World) (base B : Nat) (v : Value) (xs : List Way) (k : Int) (h : ABox 81 152 w base B v xs) (hl : xs.length ≤ 40) :
    Calls Try.prog 50 #[.pointer (some ⟨B, 0, none⟩), .int .i64 k] w (AirPost 81 152 w base B v (.int .i64 (if inA k xs then 0 else 13)) (takeL k xs)) := by
  have ht := atake_any w base B v xs k h hl
  obtain ⟨a, t, e⟩ := takeV_form k xs
  rw [e] at ht
  generalize (if inA k xs then (0 : Int) else 13) = er at *
  generalize takeL k xs = ys at *
  have HT := hid ht
  clear ht h e
  go_enter Try.func50, Try.ntmps50
  go_wp2_with fail
  refine HT.out.mono ?_
  rintro e w1 ⟨v', rfl, h2, h3, h4⟩
  have HX := hid (And.intro h2 (And.intro h3 h4))
  clear h2 h3 h4
  go_wp2_with fail
  go_ret
  exact ⟨v', rfl, HX.out.1, HX.out.2.1, HX.out.2.2⟩

/-- what Twice answers -/
def twE (k : Int) (xs : List Way) : Int := if inA k xs then putE (atW k xs).to (atW k xs).text xs else 13
def twL (k : Int) (xs : List Way) : List Way := if inA k xs then putL (atW k xs).to (atW k xs).text xs else xs
set_option maxRecDepth 100000 in
set_option maxHeartbeats 2000000 in
theorem atwice_any (w : World) (base B : Nat) (v : Value) (xs : List Way) (k : Int) (h : ABox 81 152 w base B v xs) (hl : xs.length ≤ 40) :
    Calls Try.prog 51 #[.pointer (some ⟨B, 0, none⟩), .int .i64 k] w (AirPost 81 152 w base B v (.int .i64 (twE k xs)) (twL k xs)) := by
  have hh := ahas_any w base B v xs k h
  unfold twE twL
  by_cases hin : inA k xs
  · rw [if_pos hin, if_pos hin]
    rw [decide_eq_true hin] at hh
    obtain ⟨i, rfl⟩ := Int.eq_ofNat_of_zero_le hin.1
    have hi : i < xs.length := by have := hin.2; omega
    rw [atW_get hi]
    obtain ⟨g, cap, rfl, hg1, hg2, hg3, hg4⟩ := own_head h.own (by omega)
    obtain ⟨_, _, _, hc⟩ := lk_cells h.own.lk encWay_len (by decide) (by omega)
    have x0 := hc i hi 0 (by decide); have x1 := hc i hi 1 (by decide)
    rw [show (encWay xs[i])[0]? = some (.int .i64 xs[i].to) from rfl, Nat.add_zero, Nat.zero_add] at x0; rw [show (encWay xs[i])[1]? = some (.string xs[i].text) from rfl, Nat.zero_add] at x1
    have q0 := h.blk.cell (i := 0) rfl
    have hp := fun wx hx => aput_any wx base B (.slice (some ⟨g, 0, none⟩) xs.length cap) xs xs[i].to xs[i].text hx hl
    have hb := (Below.refl w.heap.size w).alloc (Nat.le_refl _) (.cells #[.int .i64 xs[i].to, .string xs[i].text] 152)
    have HP := hid (hp _ (h.below hb))
    have HH := hid hh
    have b1 : (i : Int) < (xs.length : Int) := by omega
    clear hc hh hin h hp
    go_enter Try.func51, Try.ntmps51
    go_wp2_with fail
    refine HH.out.mono ?_
    rintro e w1 ⟨rfl, rfl⟩
    go_wp2_with fail
    refine HP.out.mono ?_
    rintro e w2 ⟨v', rfl, h2, h3, h4⟩
    have HX := hid (And.intro h2 (And.intro h3 h4))
    clear h2 h3 h4
    go_wp2_with fail
    go_ret
    refine ⟨v', rfl, HX.out.1, (Touch.of_below hb).trans' HX.out.2.1 (fun _ _ h => h), fun k hk => ?_⟩
    rcases HX.out.2.2 k hk with e | e
    · exact .inl e
    · exact .inr (by simp at e; omega)
  · rw [if_neg hin, if_neg hin]
    rw [decide_eq_false hin] at hh
    have H := hid h
    have HH := hid hh
    clear hh hin h
    go_enter Try.func51, Try.ntmps51
    go_wp2_with fail
    refine HH.out.mono ?_
    rintro e w1 ⟨rfl, rfl⟩
    go_wp2_with fail
    go_ret
    exact air_same H.out (Below.refl _ _) rfl

theorem out_in (k : Int) (xs : List Way) : decide (k < 0 ∨ ((xs.length : Int) - 1) < k) = !decide (inA k xs) := by
  unfold inA
  by_cases h : 0 ≤ k ∧ k < (xs.length : Int)
  · rw [decide_eq_true h, decide_eq_false (by omega)]; rfl
  · rw [decide_eq_false h, decide_eq_true (by omega)]; rfl

set_option maxRecDepth 100000 in
set_option maxHeartbeats 2000000 in
theorem rtwice_any (w : World) (base B : Nat) (v : Value) (xs : List Way) (k : Int) (h : ABox 85 92 w base B v xs) (hl : xs.length ≤ 40) :
    Calls Try.prog 52 #[.pointer (some ⟨B, 0, none⟩), .int .i64 k] w (AirPost 85 92 w base B v (.int .i64 (twE k xs)) (twL k xs)) := by
  have hh := fun wx => outs_any k 0 ((xs.length : Int) - 1) wx
  rw [out_in] at hh
  have q0 := h.blk.cell (i := 0) rfl
  unfold twE twL
  by_cases hin : inA k xs
  · rw [if_pos hin, if_pos hin]
    rw [decide_eq_true hin, Bool.not_true] at hh
    obtain ⟨i, rfl⟩ := Int.eq_ofNat_of_zero_le hin.1
    have hi : i < xs.length := by have := hin.2; omega
    rw [atW_get hi]
    obtain ⟨g, cap, rfl, hg1, hg2, hg3, hg4⟩ := own_head h.own (by omega)
    obtain ⟨_, _, _, hc⟩ := lk_cells h.own.lk encWay_len (by decide) (by omega)
    have x0 := hc i hi 0 (by decide); have x1 := hc i hi 1 (by decide)
    rw [show (encWay xs[i])[0]? = some (.int .i64 xs[i].to) from rfl, Nat.add_zero, Nat.zero_add] at x0; rw [show (encWay xs[i])[1]? = some (.string xs[i].text) from rfl, Nat.zero_add] at x1
    have hp := raput_any w.drew base B (.slice (some ⟨g, 0, none⟩) xs.length cap) xs xs[i].to xs[i].text (h.below (drew_bel' (n := 1) (Below.refl _ _))) hl
    have HP := hid hp
    have HH := hid hh
    have b1 : (i : Int) < (xs.length : Int) := by omega
    clear hc hh hin h hp
    go_enter Try.func52, Try.ntmps52
    go_wp2_with fail
    refine (HH.out _).mono ?_
    rintro e w1 ⟨rfl, rfl⟩
    go_wp2_with fail
    go_still_tail 17, (by kernel_rfl)
    change wpList _ _ _ _ _ w.drew
    go_wp2_with fail
    refine HP.out.mono ?_
    rintro e w2 ⟨v', rfl, h2, h3, h4⟩
    have HX := hid (And.intro h2 (And.intro h3 h4))
    clear h2 h3 h4
    go_wp2_with fail
    go_ret
    exact ⟨v', rfl, HX.out.1, ⟨HX.out.2.1.os, HX.out.2.1.tape, HX.out.2.1.output, HX.out.2.1.size, HX.out.2.1.block⟩, HX.out.2.2⟩
  · rw [if_neg hin, if_neg hin]
    rw [decide_eq_false hin, Bool.not_false] at hh
    obtain ⟨ao, cap, hvv, _⟩ := own_sl h.own
    subst hvv
    have H := hid h
    have HH := hid hh
    clear hh hin h
    go_enter Try.func52, Try.ntmps52
    go_wp2_with fail
    refine (HH.out _).mono ?_
    rintro e w1 ⟨rfl, rfl⟩
    go_wp2_with fail
    go_ret
    exact air_same H.out (Below.refl _ _) rfl
end Go.Proofs.Ytbjhedfgnocflaa
