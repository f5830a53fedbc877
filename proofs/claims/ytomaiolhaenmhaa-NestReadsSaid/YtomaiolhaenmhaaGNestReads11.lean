/-
  BODIES READ: a list of instructions that the call owns. No condition.
-/
import Derived.Test.YtomaiolhaenmhaaKt
import Derived.Test.YtomaiolhaenmhaaGNestReads9
import Derived.Test.YtomaiolhaenmhaaGNestReads10
import Derived.Test.YtomaiolhaenmhaaEqs
import Derived.Test.YtomaiolhaenmhaaDec
namespace Go.Proofs.Ytomaiolhaenmhaa
open Go.RowKit Go.Lib

theorem info_insv : (Try.prog.info? 90).map (fun i => (i.zero, i.size, i.bytes)) = some (some (.agg #[.int .u8 0, .int .i64 0, .int .i64 0, .slice none 0 0]), 4, 48) := by kernel_rfl
theorem elem_insv : Elem Try.prog 105 90 (.agg #[.int .u8 0, .int .i64 0, .int .i64 0, .slice none 0 0]) 4 48 := ⟨Try.underlying105, info_insv, rfl, by decide⟩
def ItO (w : World) (base : Nat) (cs : List Value) (x : It) : Prop := ∃ u, cs = [.int .u8 x.op, .int .i64 x.A, .int .i64 x.B, u] ∧ OwnI w base .i64 2 u x.tos
def Its (w : World) (base : Nat) (css : List (List Value)) (l : List It) : Prop := css.length = l.length ∧ ∀ i (h1 : i < css.length) (h2 : i < l.length), ItO w base css[i] l[i]
/-- blocks of instructions and of their lists stay -/
def KI (w w' : World) : Prop := ∀ (k : Nat) (cs : Array Value) (ty : TypeId) (fr : Nat × Nat), (ty = 90 ∨ ty = 2) → w.heap[k]? = some (.cells cs ty fr) → w'.heap[k]? = w.heap[k]?
theorem KI.below {w w' : World} (h : Below w.heap.size w w') : KI w w' := fun k _ _ _ _ hk => h.block k (lt_of_block hk)
theorem own_type {w : World} {base size n : Nat} {e : TypeId} {v : Value} {cs : List Value} (ho : w.ownsRow base e size v n cs) {k : Nat} (hk : v.ownBlock = some k) : ∃ cur fr, w.heap[k]? = some (.cells cur e fr) := by
  rcases ho.2 with ⟨e, _⟩ | ⟨g, cap, cur, e, _, hh, _⟩
  · rw [e] at hk; simp [Value.ownBlock] at hk
  · rw [e] at hk
    simp only [Value.ownBlock, Option.some.injEq] at hk
    subst hk
    exact ⟨_, _, hh⟩
theorem KI.own {w w' : World} {base size n : Nat} {e : TypeId} {v : Value} {cs : List Value} (h : KI w w') (he : e = 90 ∨ e = 2) (ho : w.ownsRow base e size v n cs) : w'.ownsRow base e size v n cs := by
  refine own_same ho (fun k hk => ?_)
  obtain ⟨cur, fr, hh⟩ := own_type ho hk
  exact h k cur e fr he hh
theorem KI.fw {w w' : World} {B base : Nat} {vo vl : Value} {st : Stk × Bool} (h : WkB w B base vo vl st) (ht : Touch (Fw B vo vl) w w') : KI w w' := by
  intro k cs ty fr hty hk
  refine ht.block k (lt_of_block hk) (fun hf => ?_)
  rcases hf with rfl | hf | hf
  · have := h.blk
    unfold Blk at this
    rw [this] at hk
    simp only [Option.some.injEq, Obj.cells.injEq] at hk
    obtain ⟨-, e, -⟩ := hk
    subst e
    rcases hty with e | e <;> exact absurd e (by decide)
  · obtain ⟨cur, fr', hh⟩ := own_type h.op hf
    rw [hh] at hk
    simp only [Option.some.injEq, Obj.cells.injEq] at hk
    obtain ⟨-, e, -⟩ := hk
    subst e
    rcases hty with e | e <;> exact absurd e (by decide)
  · obtain ⟨cur, fr', hh⟩ := own_type h.la hf
    rw [hh] at hk
    simp only [Option.some.injEq, Obj.cells.injEq] at hk
    obtain ⟨-, e, -⟩ := hk
    subst e
    rcases hty with e | e <;> exact absurd e (by decide)
theorem Its.ki {w w' : World} {base : Nat} {css : List (List Value)} {l : List It} (h : Its w base css l) (k : KI w w') : Its w' base css l := by
  refine ⟨h.1, fun i h1 h2 => ?_⟩
  obtain ⟨u, e, ho⟩ := h.2 i h1 h2
  exact ⟨u, e, k.own (.inr rfl) ho⟩
theorem Its.kt {w w' : World} {base : Nat} {css : List (List Value)} {l : List It} (h : Its w base css l) (k : KT 90 w w') : Its w' base css l := by
  refine ⟨h.1, fun i h1 h2 => ?_⟩
  obtain ⟨u, e, ho⟩ := h.2 i h1 h2
  exact ⟨u, e, k.own ho rfl⟩
theorem Its.snoc {w : World} {base : Nat} {css : List (List Value)} {l : List It} (h : Its w base css l) {op : Nat} {A B : Int} {u : Value} {xs : List Int} (hu : OwnI w base .i64 2 u xs) : Its w base (css ++ [[.int .u8 op, .int .i64 A, .int .i64 B, u]]) (l ++ [⟨op, A, B, xs⟩]) := by
  have hl := h.1
  refine ⟨by simp [hl], fun i h1 h2 => ?_⟩
  by_cases hi : i < css.length
  · rw [List.getElem_append_left hi, List.getElem_append_left (by omega)]
    exact h.2 i hi (by omega)
  · obtain rfl : i = css.length := by simp at h1; omega
    rw [List.getElem_append_right (Nat.le_refl _), List.getElem_append_right (by omega)]
    simp only [hl, Nat.sub_self, List.getElem_cons_zero]
    exact ⟨u, rfl, hu⟩
/-- a list of instructions that the call owns -/
def OwnB (w : World) (base : Nat) (v : Value) (l : List It) : Prop := ∃ css : List (List Value), Its w base css l ∧ w.ownsRow base 90 4 v l.length css.flatten
theorem OwnB.nil (w : World) (base : Nat) : OwnB w base (.slice none 0 0) [] := ⟨[], ⟨rfl, fun i h => by simp at h⟩, World.ownsRow_nil _ _ _ _⟩
theorem OwnB.ki {w w' : World} {base : Nat} {v : Value} {l : List It} (h : OwnB w base v l) (k : KI w w') : OwnB w' base v l := by
  obtain ⟨css, h1, h2⟩ := h
  exact ⟨css, h1.ki k, k.own (.inl rfl) h2⟩
theorem OwnB.below {w w' : World} {base : Nat} {v : Value} {l : List It} (h : OwnB w base v l) (k : Below w.heap.size w w') : OwnB w' base v l := h.ki (KI.below k)
theorem OwnB.bod {w : World} {base : Nat} {v : Value} {l : List It} (h : OwnB w base v l) : BodS w v l := by
  obtain ⟨css, h1, h2⟩ := h
  refine ⟨css, h1.1, own_sl h2, fun i g1 g2 => ?_⟩
  obtain ⟨u, e, ho⟩ := h1.2 i g1 g2
  exact ⟨u, e, OwnI.ints ho⟩
theorem OwnB.push {w w' : World} {base : Nat} {v v' : Value} {l : List It} {css : List (List Value)} (h1 : Its w base css l) (h2 : w.ownsRow base 90 4 v l.length css.flatten) {op : Nat} {A B : Int} {u : Value} {xs : List Int} (hu : OwnI w base .i64 2 u xs)
    (hg : w.grownBy w' v.ownBlock) (ho : w'.ownsRow base 90 4 v' (l.length + 1) (css.flatten ++ [.int .u8 op, .int .i64 A, .int .i64 B, u])) : OwnB w' base v' (l ++ [⟨op, A, B, xs⟩]) := by
  have k : KT 90 w w' := KT.grown hg h2
  refine ⟨_, (h1.kt k).snoc (k.own hu rfl), ?_⟩
  simpa using ho
theorem WkB.kt {w w' : World} {B base : Nat} {vo vl : Value} {st : Stk × Bool} (h : WkB w B base vo vl st) (k : KT 90 w w') : WkB w' B base vo vl st :=
  ⟨k.blk h.blk rfl, k.own h.op rfl, k.own h.la rfl, h.le, h.full, h.most⟩
def slLen : Value → Nat
  | .slice _ n _ => n
  | _ => 0
theorem OwnB.len {w : World} {base : Nat} {v : Value} {l : List It} (h : OwnB w base v l) : slLen v = l.length := by
  obtain ⟨css, h1, h2⟩ := h
  obtain ⟨ao, cap, rfl, _⟩ := own_sl h2
  rfl
end Go.Proofs.Ytomaiolhaenmhaa
/-
  THE REFERENCE's COMPARISON OF TWO LISTS (Eq) AT MORE ELEMENT TYPES. No condition beside the readings. Printed by a program of mine.
-/
namespace Go.Proofs.Ytomaiolhaenmhaa
open Go.RowKit

set_option maxRecDepth 100000 in
set_option maxHeartbeats 400000 in
theorem eq_int64 (va vb : Value) (xs ys : List Int) (w : World) (ha : Ints w .i64 va xs) (hb : Ints w .i64 vb ys) :
    Calls Try.prog 116 #[va, vb] w fun e w' => e = .returned (.bool (decide (xs = ys))) ∧ w = w' := by
  by_cases hl : xs.length = ys.length
  · rcases ha.open with ⟨ao, cap, rfl, rfl, _⟩ | ⟨b, off, cap, rfl, h0, hcap, hm, hc⟩
    · obtain rfl : ys = [] := by cases ys <;> simp_all
      obtain ⟨ao', cap', rfl, _, _, _, _⟩ := hb
      clear hl ha
      go_enter Try.func116, Try.ntmps116
      go_wp2
      refine wp_loop_rounds 1 ?_; rw [rounds_succ]; go_wp2
      go_ret
      exact ⟨by simp, rfl⟩
    · rcases hb.open with ⟨ao', cap', rfl, rfl, _⟩ | ⟨b', off', cap', rfl, h0', hcap', hm', hc'⟩
      · simp at hl; simp [hl] at h0
      clear ha hb
      have H := hid hl
      have hne : ((xs.length : Int) != ys.length) = false := by simp [hl]
      clear hl
      go_enter Try.func116, Try.ntmps116
      go_wp2
      go_loop [14] (fun i => ∃ k : Nat, k ≤ xs.length ∧ i = .int .i64 k ∧ Hid (xs = ys ↔ xs.drop k = ys.drop k)) (fun i => xs.length - (intOf i).toNat)
      case atStart => exact ⟨0, Nat.zero_le _, rfl, by simp [Hid]⟩
      case round =>
        obtain ⟨k, hk, rfl, hq⟩ := hrel
        by_cases hlt : k < xs.length
        · have hlt' : k < ys.length := by have := H.out; omega
          go_wp2
          · go_ret
            exact ⟨retB (by simp [eq_no hq ‹_›]), rfl⟩
          · go_round
            case rel => exact ⟨k + 1, by omega, by go_num, eq_on hq ‹_›⟩
            case measure => simp [intOf]; omega
        · go_wp2
          go_ret
          exact ⟨retB (by simp [eq_end hq H.out hlt]), rfl⟩
  · have hne : ((xs.length : Int) != ys.length) = true := by simp; omega
    have hxy : xs ≠ ys := fun e => hl (by rw [e])
    obtain ⟨ao, cap, rfl, _, _, _, _⟩ := ha
    obtain ⟨ao', cap', rfl, _, _, _, _⟩ := hb
    go_enter Try.func116, Try.ntmps116
    go_wp2
    go_ret
    exact ⟨retB (by simp [hxy]), rfl⟩
end Go.Proofs.Ytomaiolhaenmhaa
/-
  INSTRUCTIONS: the reference's Read answers as the program's; SameIns at equal instructions. Conditions: lengths in the form's reach; the library's variable that strings.Contains reads holds some number.
-/
namespace Go.Proofs.Ytomaiolhaenmhaa
open Go.RowKit Go.Lib

theorem rdq_rdp {w w' : World} {t : ByteArray} {e : Ending} {op : Nat} {so : ByteArray × Int} (ho : octM (t, 0) = (op, so)) (h9 : tB op ≤ 9) (h : RdQ w t.size op (frmL (sdL (tB op)) ((0, 0, []), sayM (decide (tB op = 0)) 6 so)) e w') : RdP w t e w' := by
  unfold RdP rdI
  rw [ho]
  simp only
  have hsb : tB op = 0 → (sayM (decide (tB op = 0)) 6 so).2 ≠ 0 := fun g => by rw [g]; exact say_bad (e := 6) (by decide) so
  generalize sayM (decide (tB op = 0)) 6 so = s at *
  by_cases hb : s.2 = 0
  · have hk : 1 ≤ tB op ∧ tB op ≤ 9 := ⟨by have : tB op ≠ 0 := fun g => hsb g hb
                                           omega, h9⟩
    rw [show frmL (sdL (tB op)) ((0, 0, []), s) = besM (tB op) s from frm_bes _ hk s] at h
    simp only [if_pos hb]
    exact h
  · simp only [if_neg hb]
    obtain ⟨u, h1, h2⟩ := h
    have hk := frmL_keep (sdL (tB op)) ((0, 0, []), s) hb
    rw [hk] at h1
    simp only [if_neg hb] at h1
    exact ⟨u, h1, h2⟩
theorem sd_letters : ∀ k, k < 10 → (sdL k).length ≤ 2 ∧ ∀ c ∈ sdL k, (c = 63 ∨ c = 107 ∨ c = 97 ∨ c = 116 ∨ c = 122 ∨ c = 98 ∨ c = 99 ∨ c = 100) := by decide +kernel
theorem sd_quest : ∀ k, k < 10 → (sdL k == [63]) = decide (k = 0) := by decide +kernel
theorem rread_any (w : World) (t : ByteArray) (ht : t.size ≤ 140737488351232) (hM : MaxL w) :
    Calls Try.prog 50 #[.string t] w fun e w' => RdP w t e w' := by
  have hop := octM_lt (t, 0)
  generalize ho : octM (t, 0) = o at hop
  obtain ⟨op, so⟩ := o
  simp only at hop
  have h9 := tB_le ⟨op, hop⟩
  simp only at h9
  refine (rread_q w t ht op so hop ho (S (sdL (tB op))) ?_ ?_ (fun w' hb => rbeside_any op hop w' (hM.below hb)) _ (by rw [Go.ByteArray.toList_eq]; exact sd_quest _ (by omega)) _ rfl).mono (fun e w' h => rdq_rdp ho h9 h)
  · rw [S_size]; exact (sd_letters _ (by omega)).1
  · intro i h
    exact (sd_letters (tB op) (by omega)).2 _ (List.getElem_mem (l := sdL (tB op)) (by rw [S_size] at h; exact h))

set_option maxRecDepth 100000 in
set_option maxHeartbeats 1000000 in
theorem sameIns_any (op : Nat) (A B : Int) (v u : Value) (xs : List Int) (w : World) (hv : Ints w .i64 v xs) (hu : Ints w .i64 u xs) :
    Calls Try.prog 51 #[insV op A B v, insV op A B u] w fun e w' => e = .returned (.bool true) ∧ Below w.heap.size w w' := by
  have hb : Below w.heap.size w ((w.alloc (.cells #[.int .u8 op, .int .i64 A, .int .i64 B, v] 90)).alloc (.cells #[.int .u8 op, .int .i64 A, .int .i64 B, u] 90)) := ((Below.refl _ _).alloc (Nat.le_refl _) _).alloc (by simp) _
  have X := (Blk.new w #[.int .u8 op, .int .i64 A, .int .i64 B, v] 90 _ rfl).alloc (.cells #[.int .u8 op, .int .i64 A, .int .i64 B, u] 90)
  have Y := Blk.new (w.alloc (.cells #[.int .u8 op, .int .i64 A, .int .i64 B, v] 90)) #[.int .u8 op, .int .i64 A, .int .i64 B, u] 90 (w.heap.size + 1) (by simp)
  have HQ := hid (eq_int64 v u xs xs _ (L1.below hv hb) (L1.below hu hb))
  rw [decide_eq_true rfl] at HQ
  have HB := hid hb
  have x0 := X.cell (i := 0) rfl
  have x1 := X.cell (i := 1) rfl
  have x2 := X.cell (i := 2) rfl
  have x3 := X.cell (i := 3) rfl
  have y0 := Y.cell (i := 0) rfl
  have y1 := Y.cell (i := 1) rfl
  have y2 := Y.cell (i := 2) rfl
  have y3 := Y.cell (i := 3) rfl
  obtain ⟨ao, cap, rfl, -⟩ := id hv
  obtain ⟨ao', cap', rfl, -⟩ := id hu
  clear hv hu hb X Y
  go_enter Try.func51, Try.ntmps51
  go_wp2_with (go_at_call 116; refine HQ.out.mono ?_; rintro r w1 ⟨rfl, rfl⟩)
  go_ret
  exact ⟨rfl, HB.out⟩
end Go.Proofs.Ytomaiolhaenmhaa
/-
  HOW THE ARGUMENTS OF THE LAWS READ, by type. No condition. Printed by a program of mine.
-/
namespace Go.Proofs.Ytomaiolhaenmhaa
open Go.RowKit
set_option maxRecDepth 100000

abbrev D_s_int64 : Type := List Int
def R_s_int64 (W : World) : List Value → D_s_int64 → Prop := sliceR W 1 8 (intR .i64)
def b_s_int64 (ys : D_s_int64) : Nat := (ys.map (fun _ => 1)).sum + 1
theorem dec_s_int64 {W : World} : DecT W 88 1 (R_s_int64 W) b_s_int64 := dec_slice Try.underlying88 (dec_int Try.underlying2) (by kernel_rfl) (by decide) (by kernel_rfl)

abbrev D_api_Ins : Type := Int × Int × Int × D_s_int64 × Unit
def R_api_Ins (W : World) : List Value → D_api_Ins → Prop := (pairR (intR .u8) (pairR (intR .i64) (pairR (intR .i64) (pairR (R_s_int64 W) nilR))))
def c_api_Ins (y : D_api_Ins) : Nat := (fun y => (fun _ => 1) y.1 + (fun y => (fun _ => 1) y.1 + (fun y => (fun _ => 1) y.1 + (fun y => b_s_int64 y.1 + (fun _ : Unit => 0) y.2) y.2) y.2) y.2) y
def b_api_Ins (y : D_api_Ins) : Nat := c_api_Ins y + 1
theorem dec_api_Ins {W : World} : DecT W 90 4 (R_api_Ins W) b_api_Ins := by
  refine dec_struct (R := R_api_Ins W) (bk := c_api_Ins) Try.underlying90 ?_ (by kernel_rfl)
  refine decfs_cons (s1 := 1) (s2 := 3) (R1 := (intR .u8)) (b1 := (fun _ => 1)) (R2 := (pairR (intR .i64) (pairR (intR .i64) (pairR (R_s_int64 W) nilR)))) (b2 := (fun y => (fun _ => 1) y.1 + (fun y => (fun _ => 1) y.1 + (fun y => b_s_int64 y.1 + (fun _ : Unit => 0) y.2) y.2) y.2)) ?_ ?_ rfl (by kernel_rfl)
  · exact dec_int Try.underlying5
  refine decfs_cons (s1 := 1) (s2 := 2) (R1 := (intR .i64)) (b1 := (fun _ => 1)) (R2 := (pairR (intR .i64) (pairR (R_s_int64 W) nilR))) (b2 := (fun y => (fun _ => 1) y.1 + (fun y => b_s_int64 y.1 + (fun _ : Unit => 0) y.2) y.2)) ?_ ?_ rfl (by kernel_rfl)
  · exact dec_int Try.underlying2
  refine decfs_cons (s1 := 1) (s2 := 1) (R1 := (intR .i64)) (b1 := (fun _ => 1)) (R2 := (pairR (R_s_int64 W) nilR)) (b2 := (fun y => b_s_int64 y.1 + (fun _ : Unit => 0) y.2)) ?_ ?_ rfl (by kernel_rfl)
  · exact dec_int Try.underlying2
  refine decfs_cons (s1 := 1) (s2 := 0) (R1 := (R_s_int64 W)) (b1 := b_s_int64) (R2 := nilR) (b2 := (fun _ : Unit => 0)) ?_ ?_ rfl (by kernel_rfl)
  · exact dec_s_int64
  exact decfs_nil

end Go.Proofs.Ytomaiolhaenmhaa
