/-
  MODULES READ: a name, plain, and the program's reader's name. Conditions: a text in the form's reach; unicode/utf8's two tables hold what the row lists.
-/
import Derived.Test.YtakfineljffoaaaGreatDoorGBinReads8
import Derived.Test.YtakfineljffoaaaGreatDoorGBinReads23
import Derived.Test.YtakfineljffoaaaGreatDoorGBinReads25
namespace Go.Proofs.YtakfineljffoaaaGreatDoor
open Go.RowKit Go.Lib

/-- a name at the head of t: the name, how many bytes it takes, the error -/
def nmQ (t : ByteArray) : ByteArray × Nat × Int :=
  if (ru 32 t.data.toList 0 0).2.2 ≠ 0 then (⟨#[]⟩, 0, ((ru 32 t.data.toList 0 0).2.2 : Int)) else if 16 < (ru 32 t.data.toList 0 0).1 then (⟨#[]⟩, 0, 2) else if t.size - (ru 32 t.data.toList 0 0).2.1 < (ru 32 t.data.toList 0 0).1 then (⟨#[]⟩, 0, 3)
  else if Lib.validD (t.extract (ru 32 t.data.toList 0 0).2.1 ((ru 32 t.data.toList 0 0).2.1 + (ru 32 t.data.toList 0 0).1)).data.toList = true then (t.extract (ru 32 t.data.toList 0 0).2.1 ((ru 32 t.data.toList 0 0).2.1 + (ru 32 t.data.toList 0 0).1), (ru 32 t.data.toList 0 0).2.1 + (ru 32 t.data.toList 0 0).1, 0) else (⟨#[]⟩, 0, 4)
theorem nmQ_rn (t : ByteArray) (a k e : Nat) (h : ru 32 t.data.toList 0 0 = (a, k, e)) : RN t a k e (nmQ t).1 ((nmQ t).2.1 : Int) (nmQ t).2.2 := by
  unfold nmQ
  rw [h]
  simp only
  by_cases h1 : e ≠ 0
  · rw [if_pos h1]; exact ⟨.inl ⟨h1, rfl, rfl, rfl⟩⟩
  rw [if_neg h1]
  have h1' : e = 0 := by omega
  by_cases h2 : 16 < a
  · rw [if_pos h2]; exact ⟨.inr (.inl ⟨h1', h2, rfl, rfl, rfl⟩)⟩
  rw [if_neg h2]
  by_cases h3 : t.size - k < a
  · rw [if_pos h3]; exact ⟨.inr (.inr (.inl ⟨h1', by omega, h3, rfl, rfl, rfl⟩))⟩
  rw [if_neg h3]
  cases h4 : Lib.validD (t.extract k (k + a)).data.toList
  · rw [if_neg (by decide)]; exact ⟨.inr (.inr (.inr (.inl ⟨h1', by omega, by omega, h4, rfl, rfl, rfl⟩)))⟩
  · rw [if_pos rfl]; exact ⟨.inr (.inr (.inr (.inr ⟨h1', by omega, by omega, h4, rfl, rfl, rfl⟩)))⟩
def namM (s : ByteArray × Int) : ByteArray × ByteArray × Int := if s.2 ≠ 0 then (⟨#[]⟩, s) else ((nmQ s.1).1, (s.1.extract (nmQ s.1).2.1 s.1.size, (nmQ s.1).2.2))
theorem nmQ_le (t : ByteArray) : (nmQ t).2.1 ≤ t.size := by
  have hf := ru_facts (b := 32) (.inl rfl) t.data.toList 0 0 (by decide) (by decide)
  have hlen : t.data.toList.length = t.size := by simp
  unfold nmQ
  generalize ru 32 t.data.toList 0 0 = q at *
  obtain ⟨a, k, e⟩ := q
  simp only at hf ⊢
  split
  · exact Nat.zero_le _
  · rename_i h0
    have h0' : e = 0 := by omega
    have := (hf.1 h0').2.1
    split
    · exact Nat.zero_le _
    · split
      · exact Nat.zero_le _
      · split
        · simp only; omega
        · exact Nat.zero_le _
set_option maxRecDepth 100000 in
set_option maxHeartbeats 4000000 in
theorem bname_any (w : World) (B : Nat) (t : ByteArray) (a : Nat) (h : BrB w B t a) (ha : a ≤ t.size) (hs : t.size ≤ 1000000000) (hT : UTabs w) :
    Calls Tryz.prog 50 #[.pointer (some ⟨B, 0, none⟩)] w (PR B t (.string (namM (left t a, 0)).1) (namM (left t a, 0)).2 w) := by
  obtain ⟨qa, qk, qe, hq⟩ : ∃ x y z, ru 32 (left t a).data.toList 0 0 = (x, y, z) := ⟨_, _, _, rfl⟩
  have hrn := nmQ_rn (left t a) qa qk qe hq
  have hle := nmQ_le (left t a)
  have hls := left_size t a
  have hmx : (left t a).size ≤ maxLen := by unfold maxLen; omega
  have HP := hid (fun wx (hx : Below w.heap.size w wx) => preadname (left t a) hmx qa qk qe hq _ _ _ hrn wx (hT.below hx))
  have HN := hid (show namM (left t a, 0) = ((nmQ (left t a)).1, (left t (a + (nmQ (left t a)).2.1), (nmQ (left t a)).2.2)) from by unfold namM; rw [if_neg (by simp), left_left])
  have hk : a + (nmQ (left t a)).2.1 ≤ t.size := by omega
  generalize nmQ (left t a) = q at *
  obtain ⟨X, k, e⟩ := q
  simp only at HP HN hk
  unfold left at HP
  have D0 := hid (show BrB w.drew B t a from Blk.drew h 1)
  have W0 := hid (Below.refl w.heap.size w).drew
  have hk0 : (0 : Int) ≤ (a : Int) := by omega
  have hk1 : (a : Int) ≤ (t.size : Int) := by omega
  have hx : ¬ (9223372036854775807 < t.size) := by omega
  have hb1 : (a : Int) ≤ 1000000000 := by omega
  have hb2 : (k : Int) ≤ 1000000000 := by omega
  have HK := hid hk
  have hwa : IntKind.i64.wrap (a : Int) = (a : Int) := IntWalk.i64_in _ (by omega)
  clear hrn hle hls hmx hq hk h hT
  go_enter Tryz.func50, Tryz.ntmps50
  go_wp2_with fail
  refine wp_region_tail (S := (fun w' => w'.cell? ⟨B, 0, none⟩ = some (.string t) ∧ w'.cell? ⟨B, 1, none⟩ = some (.int .i64 (a : Int)) ∧ Hid (BrB w' B t a) ∧ Hid (Below w.heap.size w w'))) 16 (by kernel_rfl) (by kernel_rfl) ?_ (fun hHeld => ?_)
  · exact ⟨D0.out.cell (i := 0) rfl, D0.out.cell (i := 1) rfl, D0, W0⟩
  repeat ((first | refine tk 0 ?_ rfl ?_ ?_ | refine tk 1 ?_ rfl ?_ ?_ | refine tk 2 ?_ rfl ?_ ?_ | refine tk 3 ?_ rfl ?_ ?_ | refine tk 4 ?_ rfl ?_ ?_ | refine tk 5 ?_ rfl ?_ ?_ | refine tk 6 ?_ rfl ?_ ?_ | refine tk 7 ?_ rfl ?_ ?_ | refine tk 8 ?_ rfl ?_ ?_ | refine tk 10 ?_ rfl ?_ ?_ | refine tk 11 ?_ rfl ?_ ?_ | refine tk 12 ?_ rfl ?_ ?_ | refine tk 13 ?_ rfl ?_ ?_ | refine tk 14 ?_ rfl ?_ ?_ | refine tk 15 ?_ rfl ?_ ?_); rotate_left; (intro wy hSw; (try dsimp only at hSw); (go_simp <;> with_reducible rfl)); (try simp only [List.getElem_toArray, List.getElem_cons_zero, List.getElem_cons_succ, Act.put, List.setIfInBounds_toArray, List.set_cons_zero, List.set_cons_succ]))
  refine wpT_one (k := 9) rfl (by kernel_rfl) (fun K hK => ?_)
  go_simp
  refine (HP.out _ W0.out).mono ?_
  rintro r w1 ⟨rfl, hb⟩
  have D1 := hid (D0.out.below hb)
  have W1 := hid (W0.out.trans (hb.mono W0.out.size))
  clear hb
  go_wp2_with fail
  refine hK.out _ _ ?_ (fun hHeld => ?_)
  · exact ⟨D1.out.cell (i := 0) rfl, D1.out.cell (i := 1) rfl, D1, W1⟩
  clear hK K
  (try simp only [Act.put, List.setIfInBounds_toArray, List.set_cons_zero, List.set_cons_succ])
  repeat ((first | refine tk 0 ?_ rfl ?_ ?_ | refine tk 1 ?_ rfl ?_ ?_ | refine tk 2 ?_ rfl ?_ ?_ | refine tk 3 ?_ rfl ?_ ?_ | refine tk 4 ?_ rfl ?_ ?_ | refine tk 5 ?_ rfl ?_ ?_ | refine tk 6 ?_ rfl ?_ ?_ | refine tk 7 ?_ rfl ?_ ?_ | refine tk 8 ?_ rfl ?_ ?_ | refine tk 10 ?_ rfl ?_ ?_ | refine tk 11 ?_ rfl ?_ ?_ | refine tk 12 ?_ rfl ?_ ?_ | refine tk 13 ?_ rfl ?_ ?_ | refine tk 14 ?_ rfl ?_ ?_ | refine tk 15 ?_ rfl ?_ ?_); rotate_left; (intro wy hSw; (try dsimp only at hSw); (go_simp <;> with_reducible rfl)); (try simp only [List.getElem_toArray, List.getElem_cons_zero, List.getElem_cons_succ, Act.put, List.setIfInBounds_toArray, List.set_cons_zero, List.set_cons_succ]))
  refine wpT_done (by kernel_rfl) ?_
  go_wp2_with fail
  by_cases h0 : e = 0
  · have hne : (e != 0) = false := by rw [h0]; rfl
    rw [h0] at HN
    have c1 := D1.out.cell (i := 1) rfl
    have cf := D1.out.free 1
    have hc : (a : Int) + (k : Int) = ((a + k : Nat) : Int) := by omega
    have HC := hid hc
    have e2 : IntKind.i64.wrap ((a : Int) + (k : Int)) = (a : Int) + (k : Int) := IntWalk.i64_in _ (by omega)
    have e1 : wrap64 ((a : Int) + (k : Int)) = ((a + k : Nat) : Int) := by unfold wrap64; omega
    clear h0 hc
    go_wp2_with fail
    rw [hne]
    refine (throw_no _ _ _).mono ?_
    rintro r w2 ⟨rfl, rfl⟩
    go_wp2_with fail
    go_ret
    refine ⟨(Touch.of_below W1.out).trans (Touch.setCell (F := fun k => k = B) (a := ⟨B, 1, none⟩) rfl _), .inl ⟨by rw [HN.out], by rw [HN.out]; rfl, a + k, HK.out, by rw [HN.out], ?_⟩⟩
    have hY := D1.out.set 1 (.int .i64 ((a : Int) + (k : Int)))
    show Blk _ B _ [.string t, .int .i64 (((a + k : Nat)) : Int)]
    rw [← HC.out]
    exact hY
  · have hne : (e != 0) = true := by rw [bne_iff_ne]; exact h0
    have HE := hid h0
    clear h0
    go_wp2_with fail
    rw [hne]
    refine (throw_yes _ _ _).mono ?_
    rintro r w2 ⟨rfl, rfl⟩
    go_wp2_with fail
    exact ⟨rfl, Touch.of_below W1.out, .inr ⟨by rw [HN.out]; exact HE.out, by rw [HN.out]⟩⟩
end Go.Proofs.YtakfineljffoaaaGreatDoor
namespace Go.Proofs.YtakfineljffoaaaGreatDoor
open Go.RowKit Go.Lib

theorem info_insv : (Tryz.prog.info? 97).map (fun i => (i.zero, i.size, i.bytes)) = some (some (.agg #[.int .u8 0, .int .i64 0, .int .i64 0, .slice none 0 0]), 4, 48) := by kernel_rfl
theorem elem_insv : Elem Tryz.prog 36 97 (.agg #[.int .u8 0, .int .i64 0, .int .i64 0, .slice none 0 0]) 4 48 := ⟨Tryz.underlying36, info_insv, rfl, by decide⟩
def ItO (w : World) (base : Nat) (cs : List Value) (x : It) : Prop := ∃ u, cs = [.int .u8 x.op, .int .i64 x.A, .int .i64 x.B, u] ∧ OwnI w base .i64 2 u x.tos
def Its (w : World) (base : Nat) (css : List (List Value)) (l : List It) : Prop := css.length = l.length ∧ ∀ i (h1 : i < css.length) (h2 : i < l.length), ItO w base css[i] l[i]
/-- blocks of instructions and of their lists stay -/
def KI (w w' : World) : Prop := ∀ (k : Nat) (cs : Array Value) (ty : TypeId) (fr : Nat × Nat), (ty = 97 ∨ ty = 2) → w.heap[k]? = some (.cells cs ty fr) → w'.heap[k]? = w.heap[k]?
theorem KI.below {w w' : World} (h : Below w.heap.size w w') : KI w w' := fun k _ _ _ _ hk => h.block k (lt_of_block hk)
theorem own_type {w : World} {base size n : Nat} {e : TypeId} {v : Value} {cs : List Value} (ho : w.ownsRow base e size v n cs) {k : Nat} (hk : v.ownBlock = some k) : ∃ cur fr, w.heap[k]? = some (.cells cur e fr) := by
  rcases ho.2 with ⟨e, _⟩ | ⟨g, cap, cur, e, _, hh, _⟩
  · rw [e] at hk; simp [Value.ownBlock] at hk
  · rw [e] at hk
    simp only [Value.ownBlock, Option.some.injEq] at hk
    subst hk
    exact ⟨_, _, hh⟩
theorem KI.own {w w' : World} {base size n : Nat} {e : TypeId} {v : Value} {cs : List Value} (h : KI w w') (he : e = 97 ∨ e = 2) (ho : w.ownsRow base e size v n cs) : w'.ownsRow base e size v n cs := by
  refine own_same ho (fun k hk => ?_)
  obtain ⟨cur, fr, hh⟩ := own_type ho hk
  exact h k cur e fr he hh
theorem KI.fw {w w' : World} {B base : Nat} {vo vl : Value} {st : Stk × Bool} (h : WkB w B base vo vl st) (ht : Touch (Fw B vo vl) w w') : KI w w' := by
  intro k cs ty fr hty hk
  refine ht.block k (lt_of_block hk) (fun hf => ?_)
  rcases hf with rfl | hf | hf
  · have := h.blk
    unfold Blk at this
    rw [this] at hk
    simp only [Option.some.injEq, Obj.cells.injEq] at hk
    obtain ⟨-, e, -⟩ := hk
    subst e
    rcases hty with e | e <;> exact absurd e (by decide)
  · obtain ⟨cur, fr', hh⟩ := own_type h.op hf
    rw [hh] at hk
    simp only [Option.some.injEq, Obj.cells.injEq] at hk
    obtain ⟨-, e, -⟩ := hk
    subst e
    rcases hty with e | e <;> exact absurd e (by decide)
  · obtain ⟨cur, fr', hh⟩ := own_type h.la hf
    rw [hh] at hk
    simp only [Option.some.injEq, Obj.cells.injEq] at hk
    obtain ⟨-, e, -⟩ := hk
    subst e
    rcases hty with e | e <;> exact absurd e (by decide)
theorem Its.ki {w w' : World} {base : Nat} {css : List (List Value)} {l : List It} (h : Its w base css l) (k : KI w w') : Its w' base css l := by
  refine ⟨h.1, fun i h1 h2 => ?_⟩
  obtain ⟨u, e, ho⟩ := h.2 i h1 h2
  exact ⟨u, e, k.own (.inr rfl) ho⟩
theorem Its.kt {w w' : World} {base : Nat} {css : List (List Value)} {l : List It} (h : Its w base css l) (k : KT 97 w w') : Its w' base css l := by
  refine ⟨h.1, fun i h1 h2 => ?_⟩
  obtain ⟨u, e, ho⟩ := h.2 i h1 h2
  exact ⟨u, e, k.own ho rfl⟩
theorem Its.snoc {w : World} {base : Nat} {css : List (List Value)} {l : List It} (h : Its w base css l) {op : Nat} {A B : Int} {u : Value} {xs : List Int} (hu : OwnI w base .i64 2 u xs) : Its w base (css ++ [[.int .u8 op, .int .i64 A, .int .i64 B, u]]) (l ++ [⟨op, A, B, xs⟩]) := by
  have hl := h.1
  refine ⟨by simp [hl], fun i h1 h2 => ?_⟩
  by_cases hi : i < css.length
  · rw [List.getElem_append_left hi, List.getElem_append_left (by omega)]
    exact h.2 i hi (by omega)
  · obtain rfl : i = css.length := by simp at h1; omega
    rw [List.getElem_append_right (Nat.le_refl _), List.getElem_append_right (by omega)]
    simp only [hl, Nat.sub_self, List.getElem_cons_zero]
    exact ⟨u, rfl, hu⟩
/-- a list of instructions that the call owns -/
def OwnB (w : World) (base : Nat) (v : Value) (l : List It) : Prop := ∃ css : List (List Value), Its w base css l ∧ w.ownsRow base 97 4 v l.length css.flatten
theorem OwnB.nil (w : World) (base : Nat) : OwnB w base (.slice none 0 0) [] := ⟨[], ⟨rfl, fun i h => by simp at h⟩, World.ownsRow_nil _ _ _ _⟩
theorem OwnB.ki {w w' : World} {base : Nat} {v : Value} {l : List It} (h : OwnB w base v l) (k : KI w w') : OwnB w' base v l := by
  obtain ⟨css, h1, h2⟩ := h
  exact ⟨css, h1.ki k, k.own (.inl rfl) h2⟩
theorem OwnB.below {w w' : World} {base : Nat} {v : Value} {l : List It} (h : OwnB w base v l) (k : Below w.heap.size w w') : OwnB w' base v l := h.ki (KI.below k)
theorem OwnB.bod {w : World} {base : Nat} {v : Value} {l : List It} (h : OwnB w base v l) : BodS w v l := by
  obtain ⟨css, h1, h2⟩ := h
  refine ⟨css, h1.1, own_sl h2, fun i g1 g2 => ?_⟩
  obtain ⟨u, e, ho⟩ := h1.2 i g1 g2
  exact ⟨u, e, OwnI.ints ho⟩
theorem OwnB.push {w w' : World} {base : Nat} {v v' : Value} {l : List It} {css : List (List Value)} (h1 : Its w base css l) (h2 : w.ownsRow base 97 4 v l.length css.flatten) {op : Nat} {A B : Int} {u : Value} {xs : List Int} (hu : OwnI w base .i64 2 u xs)
    (hg : w.grownBy w' v.ownBlock) (ho : w'.ownsRow base 97 4 v' (l.length + 1) (css.flatten ++ [.int .u8 op, .int .i64 A, .int .i64 B, u])) : OwnB w' base v' (l ++ [⟨op, A, B, xs⟩]) := by
  have k : KT 97 w w' := KT.grown hg h2
  refine ⟨_, (h1.kt k).snoc (k.own hu rfl), ?_⟩
  simpa using ho
theorem WkB.kt {w w' : World} {B base : Nat} {vo vl : Value} {st : Stk × Bool} (h : WkB w B base vo vl st) (k : KT 97 w w') : WkB w' B base vo vl st :=
  ⟨k.blk h.blk rfl, k.own h.op rfl, k.own h.la rfl, h.le, h.full, h.most⟩
def slLen : Value → Nat
  | .slice _ n _ => n
  | _ => 0
theorem OwnB.len {w : World} {base : Nat} {v : Value} {l : List It} (h : OwnB w base v l) : slLen v = l.length := by
  obtain ⟨css, h1, h2⟩ := h
  obtain ⟨ao, cap, rfl, _⟩ := own_sl h2
  rfl
end Go.Proofs.YtakfineljffoaaaGreatDoor
namespace Go.Proofs.YtakfineljffoaaaGreatDoor
open Go.RowKit Go.Lib

abbrev SB := ByteArray × Int
theorem oct_st {s : SB} (h : s.2 ≠ 0) : (octM s).2 = s := by unfold octM; rw [if_pos h]
theorem num_st {s : SB} (h : s.2 ≠ 0) : (numM s).2 = s := by unfold numM; rw [if_pos h]
theorem sgn_st {b : Nat} {s : SB} (h : s.2 ≠ 0) : (sgnM b s).2 = s := by unfold sgnM; rw [if_pos h]
theorem cnt_st {m : Int} {s : SB} (h : s.2 ≠ 0) : cntM m s = (0, s) := by unfold cntM; rw [num_st h, if_pos h]
theorem mst_st {b e : Int} {s : SB} (h : s.2 ≠ 0) : mustM b e s = s := by unfold mustM; rw [oct_st h]; exact say_on h
theorem knd_st {s : SB} (h : s.2 ≠ 0) : (kndM s).2 = s := by unfold kndM; simp only [oct_st h]; exact say_on h
theorem nam_st {s : SB} (h : s.2 ≠ 0) : (namM s).2 = s := by unfold namM; rw [if_pos h]
theorem pie_st {s : SB} (h : s.2 ≠ 0) : (pieM s).2 = s := by unfold pieM; rw [num_st h, if_pos h]

/-- n kinds behind xs -/
def kndsA : Nat → List Int → SB → List Int × SB
  | 0, xs, s => (xs, s)
  | n + 1, xs, s => kndsA n (xs ++ [(kndM s).1]) (kndM s).2
def numsA : Nat → List Int → SB → List Int × SB
  | 0, xs, s => (xs, s)
  | n + 1, xs, s => numsA n (xs ++ [(numM s).1]) (numM s).2
theorem knds_st (n : Nat) : ∀ {xs : List Int} {s : SB}, s.2 ≠ 0 → (kndsA n xs s).2 = s := by
  induction n with
  | zero => intro _ _ _; rfl
  | succ n ih => intro xs s h; rw [kndsA, knd_st h]; exact ih h
theorem nums_st (n : Nat) : ∀ {xs : List Int} {s : SB}, s.2 ≠ 0 → (numsA n xs s).2 = s := by
  induction n with
  | zero => intro _ _ _; rfl
  | succ n ih => intro xs s h; rw [numsA, num_st h]; exact ih h

abbrev Sg := List Int × List Int
def sigD (xs : List Int) (n : Nat) (ys : List Int) (s : SB) : Sg × SB := ((xs, (kndsA n ys s).1), (kndsA n ys s).2)
def sigC (xs : List Int) (s : SB) : Sg × SB := sigD xs (cntM 1 s).1.toNat [] (cntM 1 s).2
def sigB (n : Nat) (xs : List Int) (s : SB) : Sg × SB := sigC (kndsA n xs s).1 (kndsA n xs s).2
def sigA (s : SB) : Sg × SB := sigB (cntM 4 s).1.toNat [] (cntM 4 s).2
def sigM (s : SB) : Sg × SB := sigA (mustM 96 4 s)
theorem sigD_st {xs : List Int} {n : Nat} {ys : List Int} {s : SB} (h : s.2 ≠ 0) : (sigD xs n ys s).2 = s := knds_st n h
theorem sigC_st {xs : List Int} {s : SB} (h : s.2 ≠ 0) : (sigC xs s).2 = s := by unfold sigC; rw [cnt_st h]; exact sigD_st h
theorem sigB_st {n : Nat} {xs : List Int} {s : SB} (h : s.2 ≠ 0) : (sigB n xs s).2 = s := by unfold sigB; rw [knds_st n h]; exact sigC_st h
theorem sigA_st {s : SB} (h : s.2 ≠ 0) : (sigA s).2 = s := by unfold sigA; rw [cnt_st h]; exact sigB_st h
theorem sigM_st {s : SB} (h : s.2 ≠ 0) : (sigM s).2 = s := by unfold sigM; rw [mst_st h]; exact sigA_st h

/-- a value of the module: its kind, whether it may change, its start -/
abbrev Gb := Int × Bool × Int
def glbF (k : Int) (mu : Bool) (q : Int × SB) : Gb × SB := ((k, mu, q.1), mustM 11 4 q.2)
def glbE (k : Int) (mu : Bool) (op : Nat) (s : SB) : Gb × SB := glbF k mu (sgnM (if op = 65 then 32 else 64) s)
def glbC (k : Int) (mu : Bool) (op : Nat) (s : SB) : Gb × SB := glbE k mu op (sayM (decide ((op = 65 ∧ k ≠ 127) ∨ (op = 66 ∧ k ≠ 126))) 4 s)
def glbB (k : Int) (mu : Nat) (s : SB) : Gb × SB := glbC k ((mu : Int) == 1) (octM s).1 (sayM (decide ((octM s).1 ≠ 65 ∧ (octM s).1 ≠ 66)) 6 (octM s).2)
def glbA (k : Int) (s : SB) : Gb × SB := glbB k (octM s).1 (sayM (decide (1 < (octM s).1)) 4 (octM s).2)
def glbM (s : SB) : Gb × SB := glbA (kndM s).1 (kndM s).2
theorem glbF_st {k : Int} {m : Bool} {q : Int × SB} (h : q.2.2 ≠ 0) : (glbF k m q).2 = q.2 := mst_st h
theorem glbE_st {k : Int} {m : Bool} {op : Nat} {s : SB} (h : s.2 ≠ 0) : (glbE k m op s).2 = s := by
  unfold glbE
  rw [glbF_st (by rw [sgn_st h]; exact h), sgn_st h]
theorem glbC_st {k : Int} {m : Bool} {op : Nat} {s : SB} (h : s.2 ≠ 0) : (glbC k m op s).2 = s := by unfold glbC; rw [say_on h]; exact glbE_st h
theorem glbB_st {k : Int} {m : Nat} {s : SB} (h : s.2 ≠ 0) : (glbB k m s).2 = s := by unfold glbB; rw [oct_st h, say_on h]; exact glbC_st h
theorem glbA_st {k : Int} {s : SB} (h : s.2 ≠ 0) : (glbA k s).2 = s := by unfold glbA; rw [oct_st h, say_on h]; exact glbB_st h
theorem glbM_st {s : SB} (h : s.2 ≠ 0) : (glbM s).2 = s := by unfold glbM; rw [knd_st h]; exact glbA_st h

/-- where a part begins -/
def plcC (q : Int × SB) : Int × SB := (q.1, mustM 11 4 q.2)
def plcB (s : SB) : Int × SB := plcC (sgnM 32 s)
def plcA (s : SB) : Int × SB := plcB (mustM 65 6 s)
def plcM (s : SB) : Int × SB := plcA (mustM 0 6 s)
theorem plcC_st {q : Int × SB} (h : q.2.2 ≠ 0) : (plcC q).2 = q.2 := mst_st h
theorem plcB_st {s : SB} (h : s.2 ≠ 0) : (plcB s).2 = s := by
  unfold plcB
  rw [plcC_st (by rw [sgn_st h]; exact h), sgn_st h]
theorem plcA_st {s : SB} (h : s.2 ≠ 0) : (plcA s).2 = s := by unfold plcA; rw [mst_st h]; exact plcB_st h
theorem plcM_st {s : SB} (h : s.2 ≠ 0) : (plcM s).2 = s := by unfold plcM; rw [mst_st h]; exact plcA_st h
end Go.Proofs.YtakfineljffoaaaGreatDoor
namespace Go.Proofs.YtakfineljffoaaaGreatDoor
open Go.RowKit Go.Lib

def PG (B : Nat) (t : ByteArray) (p : Gb × SB) (w : World) (e : Ending) (w' : World) : Prop := PR B t (.agg #[.int .u8 p.1.1, .bool p.1.2.1, .int .i64 p.1.2.2]) p.2 w e w'
set_option maxRecDepth 100000 in
set_option maxHeartbeats 4000000 in
theorem bplace_any (w : World) (B : Nat) (t : ByteArray) (a : Nat) (h : BrB w B t a) (ha : a ≤ t.size) (hs : t.size ≤ 1000000000) :
    Calls Tryz.prog 89 #[.pointer (some ⟨B, 0, none⟩)] w (PR B t (.int .i64 (plcM (left t a, 0)).1) (plcM (left t a, 0)).2 w) := by
  have H0 := hid h
  have HT0 := hid (Touch.refl (fun k => k = B) w)
  clear h
  obtain ⟨P, hP⟩ : ∃ P, plcM (left t a, 0) = P := ⟨_, rfl⟩
  have HM0 := hid hP.symm
  rw [hP]
  clear hP
  go_enter Tryz.func89, Tryz.ntmps89
  go_wp2_with fail
  refine (bfixed_any w B t a 0 6 (by decide) H0.out ha hs).mono ?_
  rintro r w1 ⟨ht1, hor1⟩
  have HT1 := hid (HT0.out.trans ht1)
  clear ht1
  obtain ⟨s1, hv1⟩ : ∃ s, mustM 0 6 (left t a, 0) = s := ⟨_, rfl⟩
  have HM1 := hid (show P = plcA s1 from HM0.out.trans (by unfold plcM; rw [hv1]))
  rw [hv1] at hor1
  clear hv1
  rcases hor1 with ⟨hz, rfl, a1, ha1, hl, hb1⟩ | ⟨hnz, rfl⟩
  case inr =>
    have HN := hid hnz
    clear hnz
    go_wp2_with fail
    exact ⟨rfl, HT1.out, .inr ⟨by rw [HM1.out, plcA_st HN.out]; exact HN.out, by rw [HM1.out, plcA_st HN.out]⟩⟩
  have hs1 : s1 = (left t a1, 0) := Prod.ext hl hz
  subst hs1
  have H1 := hid hb1
  clear hz hl hb1
  go_wp2_with fail
  refine (bfixed_any w1 B t a1 65 6 (by decide) H1.out ha1 hs).mono ?_
  rintro r w2 ⟨ht2, hor2⟩
  have HT2 := hid (HT1.out.trans ht2)
  clear ht2
  obtain ⟨s2, hv2⟩ : ∃ s, mustM 65 6 (left t a1, 0) = s := ⟨_, rfl⟩
  have HM2 := hid (show P = plcB s2 from HM1.out.trans (by unfold plcA; rw [hv2]))
  rw [hv2] at hor2
  clear hv2
  rcases hor2 with ⟨hz, rfl, a2, ha2, hl, hb2⟩ | ⟨hnz, rfl⟩
  case inr =>
    have HN := hid hnz
    clear hnz
    go_wp2_with fail
    exact ⟨rfl, HT2.out, .inr ⟨by rw [HM2.out, plcB_st HN.out]; exact HN.out, by rw [HM2.out, plcB_st HN.out]⟩⟩
  have hs2 : s2 = (left t a2, 0) := Prod.ext hl hz
  subst hs2
  have H2 := hid hb2
  clear hz hl hb2
  go_wp2_with fail
  refine (bsigned_any w2 B t a2 32 (.inl rfl) H2.out ha2 hs).mono ?_
  rintro r w3 ⟨ht3, hor3⟩
  have HT3 := hid (HT2.out.trans ht3)
  clear ht3
  obtain ⟨v3, s3, hv3⟩ : ∃ v s, sgnM 32 (left t a2, 0) = (v, s) := ⟨_, _, rfl⟩
  have HM3 := hid (show P = plcC (v3, s3) from HM2.out.trans (by unfold plcB; rw [hv3]))
  rw [hv3] at hor3
  clear hv3
  rcases hor3 with ⟨hz, rfl, a3, ha3, hl, hb3⟩ | ⟨hnz, rfl⟩
  case inr =>
    have HN := hid hnz
    clear hnz
    go_wp2_with fail
    exact ⟨rfl, HT3.out, .inr ⟨by rw [HM3.out, plcC_st (q := (v3, s3)) HN.out]; exact HN.out, by rw [HM3.out, plcC_st (q := (v3, s3)) HN.out]⟩⟩
  have hs3 : s3 = (left t a3, 0) := Prod.ext hl hz
  subst hs3
  have H3 := hid hb3
  clear hz hl hb3
  go_wp2_with fail
  refine (bfixed_any w3 B t a3 11 4 (by decide) H3.out ha3 hs).mono ?_
  rintro r w4 ⟨ht4, hor4⟩
  have HT4 := hid (HT3.out.trans ht4)
  clear ht4
  obtain ⟨s4, hv4⟩ : ∃ s, mustM 11 4 (left t a3, 0) = s := ⟨_, rfl⟩
  have HM4 := hid (show P = (v3, s4) from HM3.out.trans (by unfold plcC; rw [hv4]))
  rw [hv4] at hor4
  clear hv4
  rcases hor4 with ⟨hz, rfl, a4, ha4, hl, hb4⟩ | ⟨hnz, rfl⟩
  case inr =>
    have HN := hid hnz
    clear hnz
    go_wp2_with fail
    exact ⟨rfl, HT4.out, .inr ⟨by rw [HM4.out]; exact HN.out, by rw [HM4.out]⟩⟩
  have hs4 : s4 = (left t a4, 0) := Prod.ext hl hz
  subst hs4
  have H4 := hid hb4
  clear hz hl hb4
  go_wp2_with fail
  go_ret
  exact ⟨HT4.out, .inl ⟨by rw [HM4.out], by rw [HM4.out]; rfl, a4, ha4, by rw [HM4.out], H4.out⟩⟩
theorem throw_any (w : World) (v : Value) (is : Bool) (e : Int) :
    Calls Tryz.prog 14 #[v, .bool is, .int .i64 e] w fun r w' => (is = true ∧ r = .panicked [{ v := wrongV e, recovered := false }] ∧ w' = w) ∨ (is = false ∧ r = .returned (.tuple #[]) ∧ w' = w) := by
  cases is with
  | true => exact (throw_yes w v e).mono (fun _ _ h => .inl ⟨rfl, h.1, h.2⟩)
  | false => exact (throw_no w v e).mono (fun _ _ h => .inr ⟨rfl, h.1, h.2⟩)
theorem knd_good {s : SB} (h : (kndM s).2.2 = 0) : (kndM s).1 = 127 ∨ (kndM s).1 = 126 := by
  unfold kndM sayM at h
  simp only at h
  cases hk : isK ((octM s).1 : Int) with
  | true => unfold isK at hk; exact of_decide_eq_true hk
  | false =>
    rw [hk] at h
    by_cases hz : (octM s).2.2 = 0
    · rw [if_pos ⟨rfl, hz⟩] at h; exact absurd (show (6 : Int) = 0 from h) (by decide)
    · rw [if_neg (fun g => hz g.2)] at h; exact absurd h hz
theorem Touch.newCell {F : Nat → Prop} {w w' : World} (h : Touch F w w') {a : Addr} (ha : w.heap.size ≤ a.block) (v : Value) : Touch F w (w'.setCell a v) :=
  h.trans' (Touch.setCell (F := fun k => w.heap.size ≤ k) ha v) (fun i hi g => by omega)
abbrev GbB (w : World) (X : Nat) (k : Int) (mu : Bool) (st : Int) : Prop := Blk w X 85 [.int .u8 k, .bool mu, .int .i64 st]
theorem GbB.rd {w w' : World} {X B : Nat} {k : Int} {mu : Bool} {st : Int} {t : ByteArray} {a : Nat} (h : GbB w X k mu st) (hb : BrB w B t a) (ht : Touch (fun k => k = B) w w') : GbB w' X k mu st := (KT.touch hb ht).blk h rfl
set_option maxRecDepth 100000 in
set_option maxHeartbeats 4000000 in
theorem bglobal_any (w : World) (B : Nat) (t : ByteArray) (a : Nat) (h : BrB w B t a) (ha : a ≤ t.size) (hs : t.size ≤ 1000000000) :
    Calls Tryz.prog 51 #[.pointer (some ⟨B, 0, none⟩)] w (PG B t (glbM (left t a, 0)) w) := by
  have H0 := hid h
  have HT0 := hid (Touch.refl (fun k => k = B) w)
  clear h
  obtain ⟨P, hP⟩ : ∃ P, glbM (left t a, 0) = P := ⟨_, rfl⟩
  have HM0 := hid hP.symm
  rw [hP]
  clear hP
  have HT0 := hid (HT0.out.alloc (.cells #[.int .u8 0, .bool false, .int .i64 0] 85))
  have H1 := hid (H0.out.alloc (.cells #[.int .u8 0, .bool false, .int .i64 0] 85))
  have HRB := hid (Nat.ne_of_gt H0.out.lt)
  have R0 := hid (Blk.new w #[.int .u8 0, .bool false, .int .i64 0] 85 _ rfl)
  unfold PG
  go_enter Tryz.func51, Tryz.ntmps51
  go_wp2_with fail
  refine (bkind_any _ B t a H1.out ha hs).mono ?_
  rintro r w1 ⟨ht1, hor1⟩
  have HT1 := hid (HT0.out.trans ht1)
  have HR1 := hid (GbB.rd R0.out H1.out ht1)
  have HKG := hid (fun e => knd_good (s := (left t a, 0)) e)
  clear ht1
  obtain ⟨v1, s1, hv1⟩ : ∃ v s, kndM (left t a, 0) = (v, s) := ⟨_, _, rfl⟩
  have HM1 := hid (show P = glbA v1 s1 from HM0.out.trans (by unfold glbM; rw [hv1]))
  rw [hv1] at hor1
  rw [hv1] at HKG
  clear hv1
  rcases hor1 with ⟨hz, rfl, a1, ha1, hl, hb1⟩ | ⟨hnz, rfl⟩
  case inr =>
    have HN := hid hnz
    clear hnz
    go_wp2_with fail
    exact ⟨rfl, HT1.out, .inr ⟨by rw [HM1.out, glbA_st HN.out]; exact HN.out, by rw [HM1.out, glbA_st HN.out]⟩⟩
  have hs1 : s1 = (left t a1, 0) := Prod.ext hl hz
  subst hs1
  have HK := hid (HKG.out rfl)
  clear HKG
  have H1 := hid hb1
  clear hz hl hb1
  have hXR := Nat.ne_of_gt (HR1.out.lt)
  have hXB := Nat.ne_of_gt (H1.out.lt)
  have hXl := HT1.out.size
  have X1 := hid (Blk.new w1 #[.int .u8 v1, .bool false, .int .i64 0] 85 _ rfl)
  have HR1 := hid (HR1.out.alloc (.cells #[.int .u8 v1, .bool false, .int .i64 0] 85))
  have H1 := hid (H1.out.alloc (.cells #[.int .u8 v1, .bool false, .int .i64 0] 85))
  have HT1 := hid (HT1.out.alloc (.cells #[.int .u8 v1, .bool false, .int .i64 0] 85))
  go_wp2_with fail
  refine (boctet_any _ B t a1 H1.out ha1 hs).mono ?_
  rintro r w2 ⟨ht2, hor2⟩
  have HT2 := hid (HT1.out.trans ht2)
  have X2 := hid (GbB.rd X1.out H1.out ht2)
  have R2 := hid (GbB.rd HR1.out H1.out ht2)
  clear ht2
  obtain ⟨v2, s2, hv2⟩ : ∃ v s, octM (left t a1, 0) = (v, s) := ⟨_, _, rfl⟩
  have HM2 := hid (show P = glbB v1 v2 (sayM (decide (1 < v2)) 4 s2) from HM1.out.trans (by unfold glbA; rw [hv2]))
  rw [hv2] at hor2
  clear hv2
  rcases hor2 with ⟨hz, rfl, a2, ha2, hl, hb2⟩ | ⟨hnz, rfl⟩
  case inr =>
    have HN := hid hnz
    clear hnz
    go_wp2_with fail
    exact ⟨rfl, HT2.out, .inr ⟨by rw [HM2.out, say_on HN.out, glbB_st HN.out]; exact HN.out, by rw [HM2.out, say_on HN.out, glbB_st HN.out]⟩⟩
  have hs2 : s2 = (left t a2, 0) := Prod.ext hl hz
  subst hs2
  have H2 := hid hb2
  clear hz hl hb2
  go_wp2_with fail
  refine (throw_any _ _ _ _).mono ?_
  rintro r wt (⟨hq, rfl, hwt⟩ | ⟨hq, rfl, hwt⟩)
  case inl =>
    have hwt := hwt.symm
    subst hwt
    have HQ2 := hid (show P = glbB v1 v2 (left t a2, 4) from HM2.out.trans (by rw [show decide (1 < v2) = true from decide_eq_true (by have := of_decide_eq_true hq; omega), say_yes rfl]))
    clear hq
    go_wp2_with fail
    have HN : Hid ((4 : Int) ≠ 0) := hid (by decide)
    exact ⟨rfl, HT2.out, .inr ⟨by rw [HQ2.out, glbB_st HN.out]; exact HN.out, by rw [HQ2.out, glbB_st HN.out]⟩⟩
  have hwt := hwt.symm
  subst hwt
  have HM2 := hid (show P = glbB v1 v2 (left t a2, 0) from HM2.out.trans (by rw [show decide (1 < v2) = false from decide_eq_false (by have := of_decide_eq_false hq; omega), say_no]))
  clear hq
  have x1 := X2.out.cell (i := 1) rfl
  have xf := X2.out.free
  generalize w1.heap.size = X at *
  go_wp2_with fail
  have X2 := hid (X2.out.set 1 (.bool ((v2 : Int) == 1)))
  have R2 := hid (R2.out.other (a := ⟨X, 1, none⟩) hXR (.bool ((v2 : Int) == 1)))
  have H2 := hid (H2.out.other (a := ⟨X, 1, none⟩) hXB (.bool ((v2 : Int) == 1)))
  have HT2 := hid (HT2.out.newCell (a := ⟨X, 1, none⟩) hXl (.bool ((v2 : Int) == 1)))
  clear x1 xf
  refine (boctet_any _ B t a2 H2.out ha2 hs).mono ?_
  rintro r w3 ⟨ht3, hor3⟩
  have HT3 := hid (HT2.out.trans ht3)
  have X3 := hid (GbB.rd X2.out H2.out ht3)
  have R3 := hid (GbB.rd R2.out H2.out ht3)
  clear ht3
  obtain ⟨v3, s3, hv3⟩ : ∃ v s, octM (left t a2, 0) = (v, s) := ⟨_, _, rfl⟩
  have HM3 := hid (show P = glbC v1 ((v2 : Int) == 1) v3 (sayM (decide (v3 ≠ 65 ∧ v3 ≠ 66)) 6 s3) from HM2.out.trans (by unfold glbB; rw [hv3]))
  rw [hv3] at hor3
  clear hv3
  rcases hor3 with ⟨hz, rfl, a3, ha3, hl, hb3⟩ | ⟨hnz, rfl⟩
  case inr =>
    have HN := hid hnz
    clear hnz
    go_wp2_with fail
    exact ⟨rfl, HT3.out, .inr ⟨by rw [HM3.out, say_on HN.out, glbC_st HN.out]; exact HN.out, by rw [HM3.out, say_on HN.out, glbC_st HN.out]⟩⟩
  have hs3 : s3 = (left t a3, 0) := Prod.ext hl hz
  subst hs3
  have H3 := hid hb3
  clear hz hl hb3
  generalize ((v2 : Int) == 1) = mu at *
  by_cases h65 : v3 = 65
  case pos =>
    have e1 : ((v3 : Int) != 65) = false := by rw [h65]; rfl
    have e2 : ((v3 : Int) == 65) = true := by rw [h65]; rfl
    go_wp2_with fail
    refine (throw_no _ _ _).mono ?_
    rintro r wt ⟨rfl, hwt⟩
    have hwt := hwt.symm
    subst hwt
    have HM3 := hid (show P = glbC v1 mu v3 (left t a3, 0) from HM3.out.trans (by rw [show decide (v3 ≠ 65 ∧ v3 ≠ 66) = false from decide_eq_false (by omega), say_no]))
    have HM3 := hid (show P = glbE v1 mu v3 (sayM (decide ((v3 = 65 ∧ v1 ≠ 127) ∨ (v3 = 66 ∧ v1 ≠ 126))) 4 (left t a3, 0)) from HM3.out)
    by_cases h127 : v1 = 127
    case pos =>
      have e3 : (v1 == 127) = true := by rw [h127]; rfl
      have H17 := hid h127
      clear h127
      have x0 := X3.out.cell (i := 0) rfl
      go_wp2_with fail
      refine (throw_no _ _ _).mono ?_
      rintro r wt ⟨rfl, hwt⟩
      have hwt := hwt.symm
      subst hwt
      have HM3 := hid (show P = glbE v1 mu v3 (left t a3, 0) from HM3.out.trans (by rw [show decide ((v3 = 65 ∧ v1 ≠ 127) ∨ (v3 = 66 ∧ v1 ≠ 126)) = false from decide_eq_false (by have := H17.out; omega), say_no]))
      clear x0
      have x0 := X3.out.cell (i := 0) rfl
      go_wp2_with fail
      refine (bsigned_any _ B t a3 32 (.inl rfl) H3.out ha3 hs).mono ?_
      rintro r w4 ⟨ht4, hor4⟩
      have HT4 := hid (HT3.out.trans ht4)
      have X4 := hid (GbB.rd X3.out H3.out ht4)
      have R4 := hid (GbB.rd R3.out H3.out ht4)
      clear ht4
      obtain ⟨v4, s4, hv4⟩ : ∃ v s, sgnM 32 (left t a3, 0) = (v, s) := ⟨_, _, rfl⟩
      have HM4 := hid (show P = glbF v1 mu (v4, s4) from HM3.out.trans (by unfold glbE; rw [if_pos h65]; rw [hv4]))
      rw [hv4] at hor4
      clear hv4
      rcases hor4 with ⟨hz, rfl, a4, ha4, hl, hb4⟩ | ⟨hnz, rfl⟩
      case inr =>
        have HN := hid hnz
        clear hnz
        go_wp2_with fail
        exact ⟨rfl, HT4.out, .inr ⟨by rw [HM4.out, glbF_st (q := (v4, s4)) HN.out]; exact HN.out, by rw [HM4.out, glbF_st (q := (v4, s4)) HN.out]⟩⟩
      have hs4 : s4 = (left t a4, 0) := Prod.ext hl hz
      subst hs4
      have H4 := hid hb4
      clear hz hl hb4
      have x2 := X4.out.cell (i := 2) rfl
      have xf := X4.out.free
      go_wp2_with fail
      have X4 := hid (X4.out.set 2 (.int .i64 v4))
      have R4 := hid (R4.out.other (a := ⟨X, 2, none⟩) hXR (.int .i64 v4))
      have H4 := hid (H4.out.other (a := ⟨X, 2, none⟩) hXB (.int .i64 v4))
      have HT4 := hid (HT4.out.newCell (a := ⟨X, 2, none⟩) hXl (.int .i64 v4))
      clear x2 xf x0
      refine (bfixed_any _ B t a4 11 4 (by decide) H4.out ha4 hs).mono ?_
      rintro r w5 ⟨ht5, hor5⟩
      have HT5 := hid (HT4.out.trans ht5)
      have X5 := hid (GbB.rd X4.out H4.out ht5)
      have R5 := hid (GbB.rd R4.out H4.out ht5)
      clear ht5
      obtain ⟨s5, hv5⟩ : ∃ s, mustM 11 4 (left t a4, 0) = s := ⟨_, rfl⟩
      have HM5 := hid (show P = ((v1, mu, v4), s5) from HM4.out.trans (by unfold glbF; rw [hv5]))
      rw [hv5] at hor5
      clear hv5
      rcases hor5 with ⟨hz, rfl, a5, ha5, hl, hb5⟩ | ⟨hnz, rfl⟩
      case inr =>
        have HN := hid hnz
        clear hnz
        go_wp2_with fail
        exact ⟨rfl, HT5.out, .inr ⟨by rw [HM5.out]; exact HN.out, by rw [HM5.out]⟩⟩
      have hs5 : s5 = (left t a5, 0) := Prod.ext hl hz
      subst hs5
      have H5 := hid hb5
      clear hz hl hb5
      have x0 := X5.out.cell (i := 0) rfl
      have x1 := X5.out.cell (i := 1) rfl
      have x2 := X5.out.cell (i := 2) rfl
      have r0 := R5.out.cell (i := 0) rfl
      have r1 := R5.out.cell (i := 1) rfl
      have r2 := R5.out.cell (i := 2) rfl
      have rf := R5.out.free
      go_wp2_with fail
      refine bodyPost_ret (v := .agg #[.int .u8 v1, .bool mu, .int .i64 v4]) (by simp [results, Tryz.results51, go_sem, r0, r1, r2]) rfl ?_
      exact ⟨((HT5.out.newCell (a := ⟨w.heap.size, 0, none⟩) (Nat.le_refl _) _).newCell (a := ⟨w.heap.size, 1, none⟩) (Nat.le_refl _) _).newCell (a := ⟨w.heap.size, 2, none⟩) (Nat.le_refl _) _, .inl ⟨by rw [HM5.out], by rw [HM5.out], a5, ha5, by rw [HM5.out], ((H5.out.other (a := ⟨w.heap.size, 0, none⟩) HRB.out _).other (a := ⟨w.heap.size, 1, none⟩) HRB.out _).other (a := ⟨w.heap.size, 2, none⟩) HRB.out _⟩⟩
    case neg =>
      have e3 : (v1 == 127) = false := by simpa using h127
      have H17 := hid (HK.out.resolve_left h127)
      clear h127
      have x0 := X3.out.cell (i := 0) rfl
      go_wp2_with fail
      refine (throw_yes _ _ _).mono ?_
      rintro r wt ⟨rfl, hwt⟩
      have hwt := hwt.symm
      subst hwt
      have HQ3 := hid (show P = glbE v1 mu v3 (left t a3, 4) from HM3.out.trans (by rw [show decide ((v3 = 65 ∧ v1 ≠ 127) ∨ (v3 = 66 ∧ v1 ≠ 126)) = true from decide_eq_true (by have := H17.out; omega), say_yes rfl]))
      go_wp2_with fail
      have HN : Hid ((4 : Int) ≠ 0) := hid (by decide)
      exact ⟨rfl, HT3.out, .inr ⟨by rw [HQ3.out, glbE_st HN.out]; exact HN.out, by rw [HQ3.out, glbE_st HN.out]⟩⟩
  have e1 : ((v3 : Int) != 65) = true := by rw [bne_iff_ne]; omega
  have e2 : ((v3 : Int) == 65) = false := by rw [beq_eq_false_iff_ne]; omega
  by_cases h66 : v3 = 66
  case neg =>
    have e3 : ((v3 : Int) != 66) = true := by rw [bne_iff_ne]; omega
    go_wp2_with fail
    refine (throw_yes _ _ _).mono ?_
    rintro r wt ⟨rfl, hwt⟩
    have hwt := hwt.symm
    subst hwt
    have HQ3 := hid (show P = glbC v1 mu v3 (left t a3, 6) from HM3.out.trans (by rw [show decide (v3 ≠ 65 ∧ v3 ≠ 66) = true from decide_eq_true (by omega), say_yes rfl]))
    go_wp2_with fail
    have HN : Hid ((6 : Int) ≠ 0) := hid (by decide)
    exact ⟨rfl, HT3.out, .inr ⟨by rw [HQ3.out, glbC_st HN.out]; exact HN.out, by rw [HQ3.out, glbC_st HN.out]⟩⟩
  have e3 : ((v3 : Int) != 66) = false := by rw [h66]; rfl
  go_wp2_with fail
  refine (throw_no _ _ _).mono ?_
  rintro r wt ⟨rfl, hwt⟩
  have hwt := hwt.symm
  subst hwt
  have HM3 := hid (show P = glbC v1 mu v3 (left t a3, 0) from HM3.out.trans (by rw [show decide (v3 ≠ 65 ∧ v3 ≠ 66) = false from decide_eq_false (by omega), say_no]))
  have HM3 := hid (show P = glbE v1 mu v3 (sayM (decide ((v3 = 65 ∧ v1 ≠ 127) ∨ (v3 = 66 ∧ v1 ≠ 126))) 4 (left t a3, 0)) from HM3.out)
  by_cases h127 : v1 = 127
  case pos =>
    have e3 : (v1 == 127) = true := by rw [h127]; rfl
    have H17 := hid h127
    clear h127
    have x0 := X3.out.cell (i := 0) rfl
    go_wp2_with fail
    refine (throw_yes _ _ _).mono ?_
    rintro r wt ⟨rfl, hwt⟩
    have hwt := hwt.symm
    subst hwt
    have HQ3 := hid (show P = glbE v1 mu v3 (left t a3, 4) from HM3.out.trans (by rw [show decide ((v3 = 65 ∧ v1 ≠ 127) ∨ (v3 = 66 ∧ v1 ≠ 126)) = true from decide_eq_true (by have := H17.out; omega), say_yes rfl]))
    go_wp2_with fail
    have HN : Hid ((4 : Int) ≠ 0) := hid (by decide)
    exact ⟨rfl, HT3.out, .inr ⟨by rw [HQ3.out, glbE_st HN.out]; exact HN.out, by rw [HQ3.out, glbE_st HN.out]⟩⟩
  case neg =>
    have e3 : (v1 == 127) = false := by simpa using h127
    have H17 := hid (HK.out.resolve_left h127)
    clear h127
    have x0 := X3.out.cell (i := 0) rfl
    go_wp2_with fail
    refine (throw_no _ _ _).mono ?_
    rintro r wt ⟨rfl, hwt⟩
    have hwt := hwt.symm
    subst hwt
    have HM3 := hid (show P = glbE v1 mu v3 (left t a3, 0) from HM3.out.trans (by rw [show decide ((v3 = 65 ∧ v1 ≠ 127) ∨ (v3 = 66 ∧ v1 ≠ 126)) = false from decide_eq_false (by have := H17.out; omega), say_no]))
    clear x0
    have x0 := X3.out.cell (i := 0) rfl
    go_wp2_with fail
    refine (bsigned_any _ B t a3 64 (.inr rfl) H3.out ha3 hs).mono ?_
    rintro r w4 ⟨ht4, hor4⟩
    have HT4 := hid (HT3.out.trans ht4)
    have X4 := hid (GbB.rd X3.out H3.out ht4)
    have R4 := hid (GbB.rd R3.out H3.out ht4)
    clear ht4
    obtain ⟨v4, s4, hv4⟩ : ∃ v s, sgnM 64 (left t a3, 0) = (v, s) := ⟨_, _, rfl⟩
    have HM4 := hid (show P = glbF v1 mu (v4, s4) from HM3.out.trans (by unfold glbE; rw [if_neg h65]; rw [hv4]))
    rw [hv4] at hor4
    clear hv4
    rcases hor4 with ⟨hz, rfl, a4, ha4, hl, hb4⟩ | ⟨hnz, rfl⟩
    case inr =>
      have HN := hid hnz
      clear hnz
      go_wp2_with fail
      exact ⟨rfl, HT4.out, .inr ⟨by rw [HM4.out, glbF_st (q := (v4, s4)) HN.out]; exact HN.out, by rw [HM4.out, glbF_st (q := (v4, s4)) HN.out]⟩⟩
    have hs4 : s4 = (left t a4, 0) := Prod.ext hl hz
    subst hs4
    have H4 := hid hb4
    clear hz hl hb4
    have x2 := X4.out.cell (i := 2) rfl
    have xf := X4.out.free
    go_wp2_with fail
    have X4 := hid (X4.out.set 2 (.int .i64 v4))
    have R4 := hid (R4.out.other (a := ⟨X, 2, none⟩) hXR (.int .i64 v4))
    have H4 := hid (H4.out.other (a := ⟨X, 2, none⟩) hXB (.int .i64 v4))
    have HT4 := hid (HT4.out.newCell (a := ⟨X, 2, none⟩) hXl (.int .i64 v4))
    clear x2 xf x0
    refine (bfixed_any _ B t a4 11 4 (by decide) H4.out ha4 hs).mono ?_
    rintro r w5 ⟨ht5, hor5⟩
    have HT5 := hid (HT4.out.trans ht5)
    have X5 := hid (GbB.rd X4.out H4.out ht5)
    have R5 := hid (GbB.rd R4.out H4.out ht5)
    clear ht5
    obtain ⟨s5, hv5⟩ : ∃ s, mustM 11 4 (left t a4, 0) = s := ⟨_, rfl⟩
    have HM5 := hid (show P = ((v1, mu, v4), s5) from HM4.out.trans (by unfold glbF; rw [hv5]))
    rw [hv5] at hor5
    clear hv5
    rcases hor5 with ⟨hz, rfl, a5, ha5, hl, hb5⟩ | ⟨hnz, rfl⟩
    case inr =>
      have HN := hid hnz
      clear hnz
      go_wp2_with fail
      exact ⟨rfl, HT5.out, .inr ⟨by rw [HM5.out]; exact HN.out, by rw [HM5.out]⟩⟩
    have hs5 : s5 = (left t a5, 0) := Prod.ext hl hz
    subst hs5
    have H5 := hid hb5
    clear hz hl hb5
    have x0 := X5.out.cell (i := 0) rfl
    have x1 := X5.out.cell (i := 1) rfl
    have x2 := X5.out.cell (i := 2) rfl
    have r0 := R5.out.cell (i := 0) rfl
    have r1 := R5.out.cell (i := 1) rfl
    have r2 := R5.out.cell (i := 2) rfl
    have rf := R5.out.free
    go_wp2_with fail
    refine bodyPost_ret (v := .agg #[.int .u8 v1, .bool mu, .int .i64 v4]) (by simp [results, Tryz.results51, go_sem, r0, r1, r2]) rfl ?_
    exact ⟨((HT5.out.newCell (a := ⟨w.heap.size, 0, none⟩) (Nat.le_refl _) _).newCell (a := ⟨w.heap.size, 1, none⟩) (Nat.le_refl _) _).newCell (a := ⟨w.heap.size, 2, none⟩) (Nat.le_refl _) _, .inl ⟨by rw [HM5.out], by rw [HM5.out], a5, ha5, by rw [HM5.out], ((H5.out.other (a := ⟨w.heap.size, 0, none⟩) HRB.out _).other (a := ⟨w.heap.size, 1, none⟩) HRB.out _).other (a := ⟨w.heap.size, 2, none⟩) HRB.out _⟩⟩
end Go.Proofs.YtakfineljffoaaaGreatDoor
