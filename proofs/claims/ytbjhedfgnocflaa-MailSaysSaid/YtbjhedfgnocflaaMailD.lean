/-
  MAILBOXES: the program's find, Has, All, Lost, Take. Conditions: the box's own invariant.
-/
import Derived.Test.YtbjhedfgnocflaaMailB
import Derived.Handy
namespace Go.Proofs.Ytbjhedfgnocflaa
open Go.RowKit Go.Lib

def letV (x : Letter) : Value := .agg #[.int .i64 x.node, .int .i64 x.num, .int .i64 x.tag, .string x.body]
def zeroL : Letter := ⟨0, 0, 0, ⟨#[]⟩⟩
def fits (m : Nat) (x : Letter) : Bool := askB m x.tag
/-- what Take gives, and what stays -/
def takeF (m : Nat) (xs : List Letter) : Letter × Bool × List Letter := match xs.findIdx? (fits m) with
  | none => (zeroL, false, xs)
  | some i => (xs.getD i zeroL, true, xs.eraseIdx i)
theorem takeF_none {m : Nat} {xs : List Letter} (h : firstI (fits m) xs < 0) : takeF m xs = (zeroL, false, xs) := by
  unfold firstI at h
  unfold takeF
  cases hf : xs.findIdx? (fits m) with
  | none => rfl
  | some i => rw [hf] at h; simp at h; omega
theorem takeF_some {m : Nat} {xs : List Letter} (h : ¬ firstI (fits m) xs < 0) : ∃ i, ∃ hi : i < xs.length, firstI (fits m) xs = (i : Int) ∧ takeF m xs = (xs[i], true, xs.eraseIdx i) := by
  unfold firstI at *
  unfold takeF
  cases hf : xs.findIdx? (fits m) with
  | none => rw [hf] at h; simp at h
  | some i =>
    have hi := (List.findIdx?_eq_some_iff_getElem.1 hf).1
    exact ⟨i, hi, rfl, by simp [hi]⟩

set_option maxRecDepth 100000 in
set_option maxHeartbeats 1000000 in
theorem find_any (w : World) (base B : Nat) (room lost : Int) (v : Value) (xs : List Letter) (m : Nat) (hm : m < 18446744073709551616) (h : MBox 144 w base B room lost v xs) (ht : okTags xs) :
    Calls Try.prog 85 #[.pointer (some ⟨B, 0, none⟩), .int .u64 m] w fun e w' => e = .returned (.int .i64 (firstI (fits m) xs)) ∧ Below w.heap.size w w' := by
  have q2 := h.blk.cell (i := 2) rfl
  have a2 := fun o => cell_alloc o q2
  have hl := fun w' hv hc => indexL_any v xs m hm w.heap.size w' hv ht hc
  have HL := hid hl
  have hlk : Lk encLetter (w.alloc (.cells #[.int .u64 m] 30)) v xs := Lk.below h.own.lk ((Below.refl _ _).alloc (Nat.le_refl _) _)
  have HK := hid hlk
  have hc : (w.alloc (.cells #[.int .u64 m] 30)).cell? ⟨w.heap.size, 0, none⟩ = some (.int .u64 m) := (Blk.new w _ _ _ rfl).cell rfl
  have HC := hid hc
  obtain ⟨ao, cap, hvv, _⟩ := own_sl h.own
  clear hl hlk hc h q2
  subst hvv
  go_enter Try.func85, Try.ntmps85
  go_wp2_with fail
  refine (HL.out _ HK.out HC.out).mono ?_
  rintro e w1 ⟨rfl, hb⟩
  go_wp2_with fail
  go_ret
  exact ⟨rfl, ((Below.refl _ _).alloc (Nat.le_refl _) _).trans (hb.mono (by simp))⟩

set_option maxRecDepth 100000 in
theorem has_any (w : World) (base B : Nat) (room lost : Int) (v : Value) (xs : List Letter) (m : Nat) (hm : m < 18446744073709551616) (h : MBox 144 w base B room lost v xs) (ht : okTags xs) :
    Calls Try.prog 42 #[.pointer (some ⟨B, 0, none⟩), .int .u64 m] w fun e w' => e = .returned (.bool (takeF m xs).2.1) ∧ Below w.heap.size w w' := by
  have hf := find_any w base B room lost v xs m hm h ht
  have hr : (takeF m xs).2.1 = decide (0 ≤ firstI (fits m) xs) := by
    by_cases h0 : firstI (fits m) xs < 0
    · rw [takeF_none h0]; symm; exact decide_eq_false (by omega)
    · obtain ⟨i, _, h1, h2⟩ := takeF_some h0
      rw [h2]; symm; exact decide_eq_true (by omega)
  generalize firstI (fits m) xs = n at *
  generalize (takeF m xs).2.1 = r at *
  have HF := hid hf
  have HR := hid hr
  clear hf hr h
  go_enter Try.func42, Try.ntmps42
  go_wp2_with fail
  refine HF.out.mono ?_
  rintro e w1 ⟨rfl, hb⟩
  go_wp2_with fail
  go_ret
  exact ⟨retB (by rw [HR.out]), hb⟩

set_option maxRecDepth 100000 in
theorem all_any (w : World) (base B : Nat) (room lost : Int) (v : Value) (xs : List Letter) (h : MBox 144 w base B room lost v xs) (hs : xs.length ≤ 16) :
    Calls Try.prog 44 #[.pointer (some ⟨B, 0, none⟩)] w fun e w' => ∃ v', e = .returned v' ∧ Lk encLetter w' v' xs ∧ Below w.heap.size w w' := by
  have q2 := h.blk.cell (i := 2) rfl
  have hc := clone_Letter v xs w h.own.lk (by omega) (by omega)
  have HC := hid hc
  obtain ⟨ao, cap, hvv, _⟩ := own_sl h.own
  clear hc h
  subst hvv
  go_enter Try.func44, Try.ntmps44
  go_wp2_with fail
  refine HC.out.mono ?_
  rintro e w1 ⟨v', rfl, hl, hb⟩
  go_wp2_with fail
  go_ret
  exact ⟨_, rfl, hl, hb⟩

set_option maxRecDepth 100000 in
theorem lost_any (w : World) (base B : Nat) (room lost : Int) (v : Value) (xs : List Letter) (h : MBox 144 w base B room lost v xs) :
    Calls Try.prog 45 #[.pointer (some ⟨B, 0, none⟩)] w fun e w' => e = .returned (.int .i64 lost) ∧ w = w' := by
  have q1 := h.blk.cell (i := 1) rfl
  clear h
  go_enter Try.func45, Try.ntmps45
  go_wp2_with fail
  go_ret
  exact ⟨rfl, rfl⟩

/-- what Take leaves -/
def TakePost (ty : TypeId) (F : Nat → Prop) (w : World) (base B : Nat) (room lost : Int) (v : Value) (xs : List Letter) (m : Nat) (e : Ending) (w' : World) : Prop :=
  ∃ v', e = .returned (.tuple #[letV (takeF m xs).1, .bool (takeF m xs).2.1]) ∧ MBox ty w' base B room lost v' (takeF m xs).2.2 ∧ Touch F w w' ∧ FreshM w v v'

theorem MBox.below {ty : TypeId} {w w' : World} {base B : Nat} {room lost : Int} {v : Value} {xs : List Letter} (h : MBox ty w base B room lost v xs) (hb : Below w.heap.size w w') : MBox ty w' base B room lost v xs :=
  ⟨h.blk.below hb, own_below h.own hb, h.ne, h.le, Nat.le_trans h.base hb.size⟩

theorem take_none {ty : TypeId} {F : Nat → Prop} {w w' : World} {base B : Nat} {room lost : Int} {v : Value} {xs : List Letter} {m : Nat} (h : MBox ty w base B room lost v xs) (hr : takeF m xs = (zeroL, false, xs)) (hb : Below w.heap.size w w') :
    TakePost ty F w base B room lost v xs m (.returned (.tuple #[.agg #[.int .i64 0, .int .i64 0, .int .i64 0, .string ⟨#[]⟩], .bool false])) w' :=
  ⟨v, by rw [hr]; rfl, by rw [hr]; exact h.below hb, Touch.of_below hb, FreshM.same rfl⟩

theorem take_some {ty : TypeId} {w w3 w5 : World} {base B n : Nat} {room lost : Int} {v v' : Value} {xs ys : List Letter} {x : Letter} {m : Nat} (h : MBox ty w base B room lost v xs) (hr : takeF m xs = (x, true, ys))
    (ht : Touch (footM B v) w w3) (ho : Ok encLetter 4 w3 base 66 v' ys) (hb : Blk w3 B ty [.int .i64 room, .int .i64 lost, v]) (hv : v'.ownBlock = v.ownBlock) (hn : w.heap.size ≤ n) (ht5 : Touch (· = n) (w3.setCell ⟨B, 2, none⟩ v') w5) :
    TakePost ty (footM B v) w base B room lost v xs m (.returned (.tuple #[.agg #[.int .i64 x.node, .int .i64 x.num, .int .i64 x.tag, .string x.body], .bool true])) w5 := by
  have hlt := h.blk.lt
  have hne : v'.ownBlock ≠ some B := by rw [hv]; exact h.ne
  have hown : (w3.setCell ⟨B, 2, none⟩ v').ownsRow base 66 4 v' ys.length (ys.flatMap encLetter) := ownsRow_setCell_other (a := ⟨B, 2, none⟩) ho hne _
  refine ⟨v', by rw [hr]; rfl, ?_, ?_, FreshM.same hv⟩
  · rw [hr]
    refine ⟨(hb.set 2 v').touch ht5 (by omega), own_touch hown ht5 (fun k hk e => ?_), hne, h.le, ?_⟩
    · have := (h.own.lt k (by rw [← hv]; exact hk)).2
      omega
    · have := h.base
      have := ht.size
      have := ht5.size
      simp at this
      omega
  · exact (ht.trans (Touch.setCell (.inl rfl) _)).trans' ht5 (fun k hk e => by omega)

set_option maxRecDepth 100000 in
set_option maxHeartbeats 2000000 in
theorem take_any (w : World) (base B : Nat) (room lost : Int) (v : Value) (xs : List Letter) (m : Nat) (hm : m < 18446744073709551616) (h : MBox 144 w base B room lost v xs) (ht : okTags xs) :
    Calls Try.prog 40 #[.pointer (some ⟨B, 0, none⟩), .int .u64 m] w (TakePost 144 (footM B v) w base B room lost v xs m) := by
  have hb0 : Below w.heap.size w (w.alloc (.cells #[.int .i64 0, .int .i64 0, .int .i64 0, .string ⟨#[]⟩] 66)) := (Below.refl _ _).alloc (Nat.le_refl _) _
  have hf := find_any _ base B room lost v xs m hm (h.below hb0) ht
  by_cases h0 : firstI (fits m) xs < 0
  · have hr := takeF_none h0
    generalize firstI (fits m) xs = n at *
    have HF := hid hf
    have HR := hid hr
    have H := hid h
    clear hf hr h
    go_enter Try.func40, Try.ntmps40
    go_wp2_with fail
    refine HF.out.mono ?_
    rintro e w1 ⟨rfl, hb⟩
    have k1 := (Blk.new w #[.int .i64 0, .int .i64 0, .int .i64 0, .string ⟨#[]⟩] 66 _ rfl).below hb
    have z0 := k1.cell (i := 0) rfl
    have z1 := k1.cell (i := 1) rfl
    have z2 := k1.cell (i := 2) rfl
    have z3 := k1.cell (i := 3) rfl
    have hfr := fun i => k1.free i
    have hbw := hid (hb0.trans (hb.mono (by simp)))
    clear k1 hb hb0
    go_wp2_with fail
    refine bodyPost_ret (v := .tuple #[.agg #[.int .i64 0, .int .i64 0, .int .i64 0, .string ⟨#[]⟩], .bool false]) (by simp [results, Try.results40, go_sem, z0, z1, z2, z3]) rfl ?_
    refine take_none H.out HR.out ?_
    repeat (refine Below.setCell ?_ (by simp) _)
    exact hbw.out
  · obtain ⟨i, hi, h1, h2⟩ := takeF_some h0
    rw [h1] at hf
    obtain ⟨g, cap, rfl, hg1, hg2, hg3, hg4⟩ := own_head h.own (by omega)
    have HF := hid hf
    have HR := hid h2
    have H := hid h
    have hBlt := h.blk.lt
    have hgB : g ≠ B := fun e => h.ne (by rw [e]; rfl)
    clear hf h2 h h0 h1
    go_enter Try.func40, Try.ntmps40
    go_wp2_with fail
    refine HF.out.mono ?_
    rintro e w1 ⟨rfl, hb⟩
    have k1 := (Blk.new w #[.int .i64 0, .int .i64 0, .int .i64 0, .string ⟨#[]⟩] 66 _ rfl).below hb
    have K1 := hid k1
    have hbw := hb0.trans (hb.mono (by simp))
    have hsz := hb.size
    simp at hsz
    have M1 := hid (H.out.below hbw)
    have HBW := hid hbw
    have q2 := M1.out.blk.cell (i := 2) rfl
    obtain ⟨_, _, _, hc⟩ := lk_cells M1.out.own.lk encLetter_len (by decide) (by omega)
    have x0 := hc i hi 0 (by decide); have x1 := hc i hi 1 (by decide); have x2 := hc i hi 2 (by decide); have x3 := hc i hi 3 (by decide)
    rw [show (encLetter xs[i])[0]? = some (.int .i64 xs[i].node) from rfl, Nat.add_zero, Nat.zero_add] at x0; rw [show (encLetter xs[i])[1]? = some (.int .i64 xs[i].num) from rfl, Nat.zero_add] at x1; rw [show (encLetter xs[i])[2]? = some (.int .i64 xs[i].tag) from rfl, Nat.zero_add] at x2; rw [show (encLetter xs[i])[3]? = some (.string xs[i].body) from rfl, Nat.zero_add] at x3
    clear hc k1 hbw hb hb0
    have b1 : (i : Int) < (xs.length : Int) := by omega
    have qn := fun o => cell_alloc o q2
    go_wp2_with fail
    have hok : Ok encLetter 4 (w1.alloc (.cells #[.int .i64 xs[i].node, .int .i64 xs[i].num, .int .i64 xs[i].tag, .string xs[i].body] 66)) base 66 (.slice (some ⟨g, 0, none⟩) xs.length cap) xs := World.ownsRow.alloc M1.out.own _
    refine (delete_Letter g cap base i xs _ hok hi).mono ?_
    rintro e w3 ⟨rfl, ho3, ht3⟩
    have hz3 := ht3.size
    simp at hz3
    have k2 : Blk w3 B 144 _ := (M1.out.blk.alloc _).touch ht3 (fun e => hgB e.symm)
    have k3 : Blk w3 w.heap.size 66 _ := (K1.out.alloc _).touch ht3 (fun e => by omega)
    have k4 : Blk w3 w1.heap.size 66 _ := (Blk.new w1 _ _ _ rfl).touch ht3 (fun e => by omega)
    have y2 := k2.cell (i := 2) rfl
    have f2 := k2.free 2
    have z0 := k3.cell (i := 0) rfl
    have z1 := k3.cell (i := 1) rfl
    have z2 := k3.cell (i := 2) rfl
    have z3 := k3.cell (i := 3) rfl
    have hfr := fun i => k3.free i
    have u0 := k4.cell (i := 0) rfl
    have u1 := k4.cell (i := 1) rfl
    have u2 := k4.cell (i := 2) rfl
    have u3 := k4.cell (i := 3) rfl
    have hne1 : w.heap.size ≠ B := by omega
    have hne2 : w1.heap.size ≠ B := by omega
    have KK := hid (And.intro ho3 (And.intro ht3 k2))
    clear k2 k3 k4 ho3 ht3 hok x0 x1 x2 x3 q2 qn
    go_wp2_with fail
    refine bodyPost_ret (v := .tuple #[.agg #[.int .i64 xs[i].node, .int .i64 xs[i].num, .int .i64 xs[i].tag, .string xs[i].body], .bool true]) (by simp [results, Try.results40, go_sem, z0, z1, z2, z3]) rfl ?_
    have hrl : (xs.eraseIdx i).length = xs.length - 1 := List.length_eraseIdx_of_lt hi
    have ho := KK.out.1
    refine take_some H.out HR.out (w3 := w3) (v' := .slice (some ⟨g, 0, none⟩) (xs.length - 1) cap) ?_ ho KK.out.2.2 rfl (n := w.heap.size) (Nat.le_refl _) ?_
    · exact (Touch.of_below HBW.out).trans' ((Touch.of_below (F := (· = g)) ((Below.refl _ _).alloc (Nat.le_refl _) _)).trans KK.out.2.1) (fun k _ e => .inr (by rw [e]; rfl))
    · exact (((Touch.setCell (F := fun k => k = w.heap.size) (a := ⟨w.heap.size, 0, none⟩) rfl _).trans (Touch.setCell (F := fun k => k = w.heap.size) (a := ⟨w.heap.size, 1, none⟩) rfl _)).trans (Touch.setCell (F := fun k => k = w.heap.size) (a := ⟨w.heap.size, 2, none⟩) rfl _)).trans (Touch.setCell (F := fun k => k = w.heap.size) (a := ⟨w.heap.size, 3, none⟩) rfl _)
end Go.Proofs.Ytbjhedfgnocflaa
