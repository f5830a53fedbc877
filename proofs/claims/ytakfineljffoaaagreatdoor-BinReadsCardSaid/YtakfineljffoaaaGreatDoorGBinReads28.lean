/-
  MODULES READ, the program's reader: sig. Conditions: a text in the form's reach. Printed by a program of mine.
-/
import Derived.Test.YtakfineljffoaaaGreatDoorGBinReads3
import Derived.Test.YtakfineljffoaaaGreatDoorGBinReads8
import Derived.Test.YtakfineljffoaaaGreatDoorGBinReads15
import Derived.Test.YtakfineljffoaaaGreatDoorGBinReads16
import Derived.Test.YtakfineljffoaaaGreatDoorGBinReads21
import Derived.Test.YtakfineljffoaaaGreatDoorGBinReads23
import Derived.Test.YtakfineljffoaaaGreatDoorGBinReads26
import Derived.Test.YtakfineljffoaaaGreatDoorGBinReads27
import Derived.Deep.RegionHeld3
namespace Go.Proofs.YtakfineljffoaaaGreatDoor
open Go.RowKit Go.Lib

theorem sigB_succ (n : Nat) (xs : List Int) (s : SB) : sigB (n + 1) xs s = sigB n (xs ++ [(kndM s).1]) (kndM s).2 := rfl
theorem sigD_succ (us : List Int) (n : Nat) (xs : List Int) (s : SB) : sigD us (n + 1) xs s = sigD us n (xs ++ [(kndM s).1]) (kndM s).2 := rfl
theorem OwnI.of_app {w : World} {base : Nat} {k : IntKind} {e : TypeId} {v : Value} {xs : List Int} {x : Int} (h : w.ownsRow base e 1 v (xs.length + 1) (xs.map (Value.int k) ++ [.int k x])) : OwnI w base k e v (xs ++ [x]) := by
  unfold OwnI O1
  simpa using h
theorem elem_kindv : Elem Tryz.prog 64 68 (.int .u8 0) 1 1 := ⟨Tryz.underlying64, by kernel_rfl, rfl, by decide⟩
/-- what a type's reading leaves -/
def PSig (B : Nat) (t : ByteArray) (p : Sg × SB) (w : World) (e : Ending) (w' : World) : Prop :=
  Touch (fun k => k = B) w w' ∧ ((p.2.2 = 0 ∧ (∃ u v, e = .returned (.agg #[u, v]) ∧ OwnI w' w.heap.size .u8 68 u p.1.1 ∧ OwnI w' w.heap.size .u8 68 v p.1.2) ∧ ∃ a, a ≤ t.size ∧ p.2.1 = left t a ∧ BrB w' B t a) ∨ (p.2.2 ≠ 0 ∧ e = .panicked [{ v := wrongV p.2.2, recovered := false }]))
/-- a type under way: the reader B, the type X, its two rows -/
structure SgL (w0 w : World) (B X K : Nat) (t : ByteArray) (a : Nat) (u v : Value) (xs ys : List Int) : Prop where
  rd : BrB w B t a
  x : Blk w X 77 [u, v]
  r : Blk w w0.heap.size 77 [.slice none 0 0, .slice none 0 0]
  ou : OwnI w w0.heap.size .u8 68 u xs
  ov : OwnI w K .u8 68 v ys
  tt : Touch (fun k => k = B) w0 w
  hB : B < w0.heap.size
  hX : w0.heap.size < X
  hK : w0.heap.size ≤ K ∧ K ≤ w.heap.size
  du : ∀ k, u.ownBlock = some k → k < K
theorem SgL.read {w0 w w' : World} {B X K : Nat} {t : ByteArray} {a a' : Nat} {u v : Value} {xs ys : List Int} (h : SgL w0 w B X K t a u v xs ys) (ht : Touch (fun k => k = B) w w') (hb : BrB w' B t a') : SgL w0 w' B X K t a' u v xs ys := by
  have k := KT.touch h.rd ht
  exact ⟨hb, k.blk h.x rfl, k.blk h.r rfl, k.own h.ou rfl, k.own h.ov rfl, h.tt.trans ht, h.hB, h.hX, ⟨h.hK.1, Nat.le_trans h.hK.2 ht.size⟩, h.du⟩
theorem SgL.below {w0 w w' : World} {B X K : Nat} {t : ByteArray} {a : Nat} {u v : Value} {xs ys : List Int} (h : SgL w0 w B X K t a u v xs ys) (hb : Below w.heap.size w w') : SgL w0 w' B X K t a u v xs ys := by
  have k : KT 46 w w' := KT.below hb
  exact ⟨h.rd.below hb, k.blk h.x rfl, k.blk h.r rfl, k.own h.ou rfl, k.own h.ov rfl, h.tt.trans (Touch.of_below hb), h.hB, h.hX, ⟨h.hK.1, Nat.le_trans h.hK.2 hb.size⟩, h.du⟩
theorem SgL.drew {w0 w : World} {B X K : Nat} {t : ByteArray} {a : Nat} {u v : Value} {xs ys : List Int} (h : SgL w0 w B X K t a u v xs ys) : SgL w0 w.drew B X K t a u v xs ys := h.below (drew_bel' (n := 1) (Below.refl _ _))
theorem SgL.pushU {w0 w w' : World} {B X K : Nat} {t : ByteArray} {a : Nat} {u u' : Value} {xs : List Int} {x : Int} (h : SgL w0 w B X K t a u (.slice none 0 0) xs []) (hg : w.grownBy w' u.ownBlock) (ho : OwnI w' w0.heap.size .u8 68 u' (xs ++ [x])) :
    (w'.cell? ⟨X, 0, none⟩ = some u ∧ w'.frozen? ⟨X, 0, none⟩ = false) ∧ SgL w0 (w'.setCell ⟨X, 0, none⟩ u') B X w'.heap.size t a u' (.slice none 0 0) (xs ++ [x]) [] := by
  have k : KT 68 w w' := KT.grown hg h.ou
  have hx := k.blk h.x rfl
  have hr := k.blk h.r rfl
  have hb := k.blk h.rd rfl
  have k2 : KT 77 w' (w'.setCell ⟨X, 0, none⟩ u') := KT.set hx u'
  have hsz : w'.heap.size = (w'.setCell ⟨X, 0, none⟩ u').heap.size := by simp
  refine ⟨⟨hx.cell (i := 0) rfl, hx.free 0⟩, hb.other (a := ⟨X, 0, none⟩) (blk_diff hx hb (by decide)) _, hx.set 0 u', hr.other (a := ⟨X, 0, none⟩) (Nat.ne_of_gt h.hX) _, k2.own ho rfl, OwnI.nil _ _ _ _, ?_, h.hB, h.hX, ⟨Nat.le_trans h.tt.size hg.size, Nat.le_of_eq hsz⟩, fun j hj => (World.ownsRow.lt ho j hj).2⟩
  refine Touch.newCell (a := ⟨X, 0, none⟩) ?_ (Nat.le_of_lt h.hX) _
  exact h.tt.trans' (Touch.grown (F := fun j => u.ownBlock = some j) hg (fun _ e => e)) (fun j hj e => by have := (World.ownsRow.lt h.ou j e).1; omega)
theorem SgL.pushV {w0 w w' : World} {B X K : Nat} {t : ByteArray} {a : Nat} {u v v' : Value} {xs ys : List Int} {y : Int} (h : SgL w0 w B X K t a u v xs ys) (hg : w.grownBy w' v.ownBlock) (ho : OwnI w' K .u8 68 v' (ys ++ [y])) :
    (w'.cell? ⟨X, 1, none⟩ = some v ∧ w'.frozen? ⟨X, 1, none⟩ = false) ∧ SgL w0 (w'.setCell ⟨X, 1, none⟩ v') B X K t a u v' xs (ys ++ [y]) := by
  have k : KT 68 w w' := KT.grown hg h.ov
  have hx := k.blk h.x rfl
  have hr := k.blk h.r rfl
  have hb := k.blk h.rd rfl
  have k2 : KT 77 w' (w'.setCell ⟨X, 1, none⟩ v') := KT.set hx v'
  have hsz : w'.heap.size = (w'.setCell ⟨X, 1, none⟩ v').heap.size := by simp
  have hou : OwnI w' w0.heap.size .u8 68 u xs := own_touch h.ou (Touch.grown (F := fun j => v.ownBlock = some j) hg (fun _ e => e)) (fun j hj e => by have := (World.ownsRow.lt h.ov j e).1; have := h.du j hj; omega)
  refine ⟨⟨hx.cell (i := 1) rfl, hx.free 1⟩, hb.other (a := ⟨X, 1, none⟩) (blk_diff hx hb (by decide)) _, hx.set 1 v', hr.other (a := ⟨X, 1, none⟩) (Nat.ne_of_gt h.hX) _, k2.own hou rfl, k2.own ho rfl, ?_, h.hB, h.hX, ⟨h.hK.1, Nat.le_trans h.hK.2 (Nat.le_trans hg.size (Nat.le_of_eq hsz))⟩, h.du⟩
  refine Touch.newCell (a := ⟨X, 1, none⟩) ?_ (Nat.le_of_lt h.hX) _
  exact h.tt.trans' (Touch.grown (F := fun j => v.ownBlock = some j) hg (fun _ e => e)) (fun j hj e => by have := (World.ownsRow.lt h.ov j e).1; have := h.hK.1; omega)
set_option maxRecDepth 100000 in
set_option maxHeartbeats 4000000 in
theorem bsig_any (w : World) (B : Nat) (t : ByteArray) (a : Nat) (h : BrB w B t a) (ha : a ≤ t.size) (hs : t.size ≤ 1000000000) :
    Calls Tryz.prog 49 #[.pointer (some ⟨B, 0, none⟩)] w (PSig B t (sigM (left t a, 0)) w) := by
  have H0 := hid h
  have HT0 := hid (Touch.refl (fun k => k = B) w)
  clear h
  obtain ⟨P, hP⟩ : ∃ P, sigM (left t a, 0) = P := ⟨_, rfl⟩
  have HM0 := hid hP.symm
  rw [hP]
  clear hP
  have A0 : Hid (SgL w ((w.alloc (.cells #[.slice none 0 0, .slice none 0 0] 77)).alloc (.cells #[.slice none 0 0, .slice none 0 0] 77)) B (w.heap.size + 1) (w.heap.size + 1 + 1) t a (.slice none 0 0) (.slice none 0 0) [] []) := by
    have hb := H0.out
    refine hid ⟨(hb.alloc _).alloc _, Blk.new _ #[.slice none 0 0, .slice none 0 0] _ _ (by simp), (Blk.new w #[.slice none 0 0, .slice none 0 0] _ _ rfl).alloc _, OwnI.nil _ _ _ _, OwnI.nil _ _ _ _, (HT0.out.alloc _).alloc _, hb.lt, Nat.lt_succ_self _, ⟨by omega, by simp⟩, fun k hk => by simp [Value.ownBlock] at hk⟩
  unfold PSig
  go_enter Tryz.func49, Tryz.ntmps49
  go_wp2_with fail
  refine (bfixed_any _ B t a 96 4 (by decide) A0.out.rd ha hs).mono ?_
  rintro r w1 ⟨ht1, hor1⟩
  have HT1 := hid (A0.out.tt.trans ht1)
  have HA1 := hid (fun aa hh => A0.out.read (a' := aa) ht1 hh)
  clear ht1
  obtain ⟨s1, hv1⟩ : ∃ s, mustM 96 4 (left t a, 0) = s := ⟨_, rfl⟩
  have HM1 := hid (show P = sigA s1 from HM0.out.trans (by unfold sigM; rw [hv1]))
  rw [hv1] at hor1
  clear hv1
  rcases hor1 with ⟨hz, rfl, a1, ha1, hl, hb1⟩ | ⟨hnz, rfl⟩
  case inr =>
    have HN := hid hnz
    clear hnz
    go_wp2_with fail
    exact ⟨rfl, HT1.out, .inr ⟨by rw [HM1.out, sigA_st HN.out]; exact HN.out, by rw [HM1.out, sigA_st HN.out]⟩⟩
  have hs1 : s1 = (left t a1, 0) := Prod.ext hl hz
  subst hs1
  have A1 := hid (HA1.out a1 hb1)
  clear HA1
  clear hz hl hb1
  go_wp2_with fail
  have hcf2 := cntM_facts 4 (by decide) (left t a1, 0)
  refine (bcount_any _ B t a1 4 A1.out.rd ha1 hs).mono ?_
  rintro r w2 ⟨ht2, hor2⟩
  have HT2 := hid (A1.out.tt.trans ht2)
  have HA2 := hid (fun aa hh => A1.out.read (a' := aa) ht2 hh)
  clear ht2
  obtain ⟨v2, s2, hv2⟩ : ∃ v s, cntM 4 (left t a1, 0) = (v, s) := ⟨_, _, rfl⟩
  have HM2 := hid (show P = sigB v2.toNat [] s2 from HM1.out.trans (by unfold sigA; rw [hv2]))
  rw [hv2] at hor2
  rw [hv2] at hcf2
  clear hv2
  rcases hor2 with ⟨hz, rfl, a2, ha2, hl, hb2⟩ | ⟨hnz, rfl⟩
  case inr =>
    have HN := hid hnz
    clear hnz
    go_wp2_with fail
    exact ⟨rfl, HT2.out, .inr ⟨by rw [HM2.out, sigB_st HN.out]; exact HN.out, by rw [HM2.out, sigB_st HN.out]⟩⟩
  have hs2 : s2 = (left t a2, 0) := Prod.ext hl hz
  subst hs2
  have A2 := hid (HA2.out a2 hb2)
  clear HA2
  clear hz hl hb2
  obtain ⟨N2, rfl⟩ := Int.eq_ofNat_of_zero_le hcf2.1
  have hN2 : N2 ≤ 4 := by have := hcf2.2.1; omega
  have HM2 := hid (show P = sigB N2 [] (left t a2, 0) from HM2.out.trans (by rw [Int.toNat_natCast]))
  clear hcf2
  go_wp2_with fail
  go_loopw [8] (fun i wr => ∃ (k K : Nat) (u : Value) (xs : List Int) (aa : Nat), k ≤ N2 ∧ i = .int .i64 k ∧ xs.length = k ∧ aa ≤ t.size ∧ Hid (P = sigB (N2 - k) xs (left t aa, 0)) ∧ Hid (SgL w wr B (w.heap.size + 1) K t aa u (.slice none 0 0) xs [])) (fun i _ => N2 - (RowKit.intOf i).toNat)
  case atStart => exact ⟨0, _, _, [], a2, Nat.zero_le _, rfl, rfl, ha2, HM2, A2⟩
  case round =>
    obtain ⟨k, K, u, xs, a3, hk, rfl, hxl, ha3, HM3, A3⟩ := hrel
    by_cases hlt : k < N2
    · have HM3 := hid (show P = sigB (N2 - (k + 1) + 1) xs (left t a3, 0) from HM3.out.trans (by rw [show N2 - (k + 1) + 1 = N2 - k by omega]))
      obtain ⟨ao, cap, rfl, _⟩ := own_sl A3.out.ou
      have A4 := hid A3.out.drew
      have HXL := hid hxl
      clear hxl
      go_wp2_with fail
      refine wp_region_tail (S := (fun w' => w'.cell? ⟨w.heap.size + 1, 0, none⟩ = some (.slice ao xs.length cap))) 7 (by kernel_rfl) (by kernel_rfl) ?_ (fun hHeld => ?_)
      · exact A4.out.x.cell (i := 0) rfl
      repeat ((first | refine tk 0 ?_ rfl ?_ ?_ | refine tk 1 ?_ rfl ?_ ?_ | refine tk 2 ?_ rfl ?_ ?_ | refine tk 6 ?_ rfl ?_ ?_); rotate_left; (intro wy hSw; (try dsimp only at hSw); (go_simp <;> with_reducible rfl)); (try simp only [List.getElem_toArray, List.getElem_cons_zero, List.getElem_cons_succ, Act.put, List.setIfInBounds_toArray, List.set_cons_zero, List.set_cons_succ]))
      refine wpT_one (k := 3) rfl (by kernel_rfl) (fun K hK => ?_)
      go_simp
      refine (bkind_any _ B t a3 A4.out.rd ha3 hs).mono ?_
      rintro r w5 ⟨ht5, hor5⟩
      have HT5 := hid (A4.out.tt.trans ht5)
      have HA5 := hid (fun aa hh => A4.out.read (a' := aa) ht5 hh)
      clear ht5
      obtain ⟨v5, s5, hv5⟩ : ∃ v s, kndM (left t a3, 0) = (v, s) := ⟨_, _, rfl⟩
      have HM5 := hid (show P = sigB (N2 - (k + 1)) (xs ++ [v5]) s5 from HM3.out.trans (by rw [sigB_succ, hv5]))
      rw [hv5] at hor5
      clear hv5
      rcases hor5 with ⟨hz, rfl, a5, ha5, hl, hb5⟩ | ⟨hnz, rfl⟩
      case inr =>
        have HN := hid hnz
        clear hnz
        go_simp
        exact ⟨rfl, HT5.out, .inr ⟨by rw [HM5.out, sigB_st HN.out]; exact HN.out, by rw [HM5.out, sigB_st HN.out]⟩⟩
      have hs5 : s5 = (left t a5, 0) := Prod.ext hl hz
      subst hs5
      have A5 := hid (HA5.out a5 hb5)
      clear HA5
      clear hz hl hb5
      refine hK.out _ _ ?_ (fun hHeld => ?_)
      · exact A5.out.x.cell (i := 0) rfl
      clear hK K
      (try simp only [Act.put, List.setIfInBounds_toArray, List.set_cons_zero, List.set_cons_succ])
      refine wpT_one (k := 4) rfl (by kernel_rfl) (fun K hK => ?_)
      go_simp
      refine hK.out _ _ ?_ (fun hHeld => ?_)
      · exact cell_alloc _ (A5.out.x.cell (i := 0) rfl)
      clear hK K
      (try simp only [Act.put, List.setIfInBounds_toArray, List.set_cons_zero, List.set_cons_succ])
      have B5 := hid (A5.out.below ((Below.refl _ _).alloc (Nat.le_refl _) (.cells #[.int .u8 v5] 68)))
      have hlx : xs.length ≤ 4 := by have := HXL.out; omega
      refine wpT_one (k := 5) rfl (by kernel_rfl) (fun K hK => ?_)
      refine step_one1 elem_kindv (cs := [.int .u8 v5]) (by rfl) _ _ (by rfl) (by rfl) (by rfl) rfl A5.out.ou rfl (by intro c hc; simp at hc; subst hc; rfl) (by simp; omega) (by simp; omega) (Nat.le_trans A5.out.hK.1 A5.out.hK.2) ?_
      intro v' w6 ho6 hb6 hg6
      obtain ⟨a6, c6, rfl, _⟩ := own_sl ho6
      have C5 := hid (A5.out.pushU (x := v5) hg6.1 (OwnI.of_app ho6))
      have y0 := C5.out.1.1
      have yf := C5.out.1.2
      refine hK.out _ _ ?_ (fun hHeld => ?_)
      · exact y0
      clear hK K
      (try simp only [Act.put, List.setIfInBounds_toArray, List.set_cons_zero, List.set_cons_succ])
      repeat ((first | refine tk 6 ?_ rfl ?_ ?_); rotate_left; (intro wy hSw; (try dsimp only at hSw); (go_simp <;> with_reducible rfl)); (try simp only [List.getElem_toArray, List.getElem_cons_zero, List.getElem_cons_succ, Act.put, List.setIfInBounds_toArray, List.set_cons_zero, List.set_cons_succ]))
      refine wpT_done (by kernel_rfl) ?_
      go_wp2_with fail
      go_roundw
      case rel => exact ⟨k + 1, _, _, xs ++ [v5], a5, hlt, by go_num, by have := HXL.out; simp; omega, ha5, HM5, hid C5.out.2⟩
      case measure => simp [RowKit.intOf]; omega
    obtain rfl : k = N2 := by omega
    have HM3 := hid (show P = sigC xs (left t a3, 0) from HM3.out.trans (by rw [Nat.sub_self]; rfl))
    clear hlt
    obtain ⟨ao, cap, rfl, _⟩ := own_sl A3.out.ou
    clear hxl
    go_wp2_with fail
    have hcf6 := cntM_facts 1 (by decide) (left t a3, 0)
    refine (bcount_any _ B t a3 1 A3.out.rd ha3 hs).mono ?_
    rintro r w6 ⟨ht6, hor6⟩
    have HT6 := hid (A3.out.tt.trans ht6)
    have HA6 := hid (fun aa hh => A3.out.read (a' := aa) ht6 hh)
    clear ht6
    obtain ⟨v6, s6, hv6⟩ : ∃ v s, cntM 1 (left t a3, 0) = (v, s) := ⟨_, _, rfl⟩
    have HM6 := hid (show P = sigD xs v6.toNat [] s6 from HM3.out.trans (by unfold sigC; rw [hv6]))
    rw [hv6] at hor6
    rw [hv6] at hcf6
    clear hv6
    rcases hor6 with ⟨hz, rfl, a6, ha6, hl, hb6⟩ | ⟨hnz, rfl⟩
    case inr =>
      have HN := hid hnz
      clear hnz
      go_wp2_with fail
      exact ⟨rfl, HT6.out, .inr ⟨by rw [HM6.out, sigD_st HN.out]; exact HN.out, by rw [HM6.out, sigD_st HN.out]⟩⟩
    have hs6 : s6 = (left t a6, 0) := Prod.ext hl hz
    subst hs6
    have A6 := hid (HA6.out a6 hb6)
    clear HA6
    clear hz hl hb6
    obtain ⟨N6, rfl⟩ := Int.eq_ofNat_of_zero_le hcf6.1
    have hN6 : N6 ≤ 1 := by have := hcf6.2.1; omega
    have HM6 := hid (show P = sigD xs N6 [] (left t a6, 0) from HM6.out.trans (by rw [Int.toNat_natCast]))
    clear hcf6
    go_wp2_with fail
    go_loopw [20] (fun i wr => ∃ (k : Nat) (u : Value) (ys : List Int) (aa : Nat), k ≤ N6 ∧ i = .int .i64 k ∧ ys.length = k ∧ aa ≤ t.size ∧ Hid (P = sigD xs (N6 - k) ys (left t aa, 0)) ∧ Hid (SgL w wr B (w.heap.size + 1) K t aa (.slice ao xs.length cap) u xs ys)) (fun i _ => N6 - (RowKit.intOf i).toNat)
    case atStart => exact ⟨0, _, [], a6, Nat.zero_le _, rfl, rfl, ha6, HM6, A6⟩
    case round =>
      obtain ⟨j, v, ys, a7, hj, rfl, hyl, ha7, HM7, A7⟩ := hrel
      by_cases hlt : j < N6
      · have HM7 := hid (show P = sigD xs (N6 - (j + 1) + 1) ys (left t a7, 0) from HM7.out.trans (by rw [show N6 - (j + 1) + 1 = N6 - j by omega]))
        obtain ⟨bo, cbp, rfl, _⟩ := own_sl A7.out.ov
        have A8 := hid A7.out.drew
        have HXL := hid hyl
        clear hyl
        go_wp2_with fail
        refine wp_region_tail (S := (fun w' => w'.cell? ⟨w.heap.size + 1, 1, none⟩ = some (.slice bo ys.length cbp))) 7 (by kernel_rfl) (by kernel_rfl) ?_ (fun hHeld => ?_)
        · exact A8.out.x.cell (i := 1) rfl
        repeat ((first | refine tk 0 ?_ rfl ?_ ?_ | refine tk 1 ?_ rfl ?_ ?_ | refine tk 2 ?_ rfl ?_ ?_ | refine tk 6 ?_ rfl ?_ ?_); rotate_left; (intro wy hSw; (try dsimp only at hSw); (go_simp <;> with_reducible rfl)); (try simp only [List.getElem_toArray, List.getElem_cons_zero, List.getElem_cons_succ, Act.put, List.setIfInBounds_toArray, List.set_cons_zero, List.set_cons_succ]))
        refine wpT_one (k := 3) rfl (by kernel_rfl) (fun K hK => ?_)
        go_simp
        refine (bkind_any _ B t a7 A8.out.rd ha7 hs).mono ?_
        rintro r w9 ⟨ht9, hor9⟩
        have HT9 := hid (A8.out.tt.trans ht9)
        have HA9 := hid (fun aa hh => A8.out.read (a' := aa) ht9 hh)
        clear ht9
        obtain ⟨v9, s9, hv9⟩ : ∃ v s, kndM (left t a7, 0) = (v, s) := ⟨_, _, rfl⟩
        have HM9 := hid (show P = sigD xs (N6 - (j + 1)) (ys ++ [v9]) s9 from HM7.out.trans (by rw [sigD_succ, hv9]))
        rw [hv9] at hor9
        clear hv9
        rcases hor9 with ⟨hz, rfl, a9, ha9, hl, hb9⟩ | ⟨hnz, rfl⟩
        case inr =>
          have HN := hid hnz
          clear hnz
          go_simp
          exact ⟨rfl, HT9.out, .inr ⟨by rw [HM9.out, sigD_st HN.out]; exact HN.out, by rw [HM9.out, sigD_st HN.out]⟩⟩
        have hs9 : s9 = (left t a9, 0) := Prod.ext hl hz
        subst hs9
        have A9 := hid (HA9.out a9 hb9)
        clear HA9
        clear hz hl hb9
        refine hK.out _ _ ?_ (fun hHeld => ?_)
        · exact A9.out.x.cell (i := 1) rfl
        clear hK K
        (try simp only [Act.put, List.setIfInBounds_toArray, List.set_cons_zero, List.set_cons_succ])
        refine wpT_one (k := 4) rfl (by kernel_rfl) (fun K hK => ?_)
        go_simp
        refine hK.out _ _ ?_ (fun hHeld => ?_)
        · exact cell_alloc _ (A9.out.x.cell (i := 1) rfl)
        clear hK K
        (try simp only [Act.put, List.setIfInBounds_toArray, List.set_cons_zero, List.set_cons_succ])
        have B9 := hid (A9.out.below ((Below.refl _ _).alloc (Nat.le_refl _) (.cells #[.int .u8 v9] 68)))
        have hlx : ys.length ≤ 4 := by have := HXL.out; omega
        refine wpT_one (k := 5) rfl (by kernel_rfl) (fun K hK => ?_)
        refine step_one1 elem_kindv (cs := [.int .u8 v9]) (by rfl) _ _ (by rfl) (by rfl) (by rfl) rfl A9.out.ov rfl (by intro c hc; simp at hc; subst hc; rfl) (by simp; omega) (by simp; omega) A9.out.hK.2 ?_
        intro v' w6 ho6 hb6 hg6
        obtain ⟨a6, c6, rfl, _⟩ := own_sl ho6
        have C9 := hid (A9.out.pushV (y := v9) hg6.1 (OwnI.of_app ho6))
        have y0 := C9.out.1.1
        have yf := C9.out.1.2
        refine hK.out _ _ ?_ (fun hHeld => ?_)
        · exact y0
        clear hK K
        (try simp only [Act.put, List.setIfInBounds_toArray, List.set_cons_zero, List.set_cons_succ])
        repeat ((first | refine tk 6 ?_ rfl ?_ ?_); rotate_left; (intro wy hSw; (try dsimp only at hSw); (go_simp <;> with_reducible rfl)); (try simp only [List.getElem_toArray, List.getElem_cons_zero, List.getElem_cons_succ, Act.put, List.setIfInBounds_toArray, List.set_cons_zero, List.set_cons_succ]))
        refine wpT_done (by kernel_rfl) ?_
        go_wp2_with fail
        go_roundw
        case rel => exact ⟨j + 1, _, ys ++ [v9], a9, hlt, by go_num, by have := HXL.out; simp; omega, ha9, HM9, hid C9.out.2⟩
        case measure => simp [RowKit.intOf]; omega
      obtain rfl : j = N6 := by omega
      have HM7 := hid (show P = ((xs, ys), (left t a7, 0)) from HM7.out.trans (by rw [Nat.sub_self]; rfl))
      clear hlt
      obtain ⟨bo, cbp, rfl, _⟩ := own_sl A7.out.ov
      clear hyl
      have x0 := A7.out.x.cell (i := 0) rfl
      have x1 := A7.out.x.cell (i := 1) rfl
      have r0 := A7.out.r.cell (i := 0) rfl
      have r1 := A7.out.r.cell (i := 1) rfl
      have rf := A7.out.r.free
      go_wp2_with fail
      refine bodyPost_ret (v := .agg #[.slice ao xs.length cap, .slice bo ys.length cbp]) (by simp [results, Tryz.results49, go_sem, r0, r1]) rfl ?_
      have k1 := KT.set (i := 0) A7.out.r (.slice ao xs.length cap)
      have hr1 := A7.out.r.set 0 (.slice ao xs.length cap)
      have k2 := k1.trans (KT.set (i := 1) hr1 (.slice bo ys.length cbp))
      exact ⟨(A7.out.tt.newCell (a := ⟨w.heap.size, 0, none⟩) (Nat.le_refl _) _).newCell (a := ⟨w.heap.size, 1, none⟩) (Nat.le_refl _) _, .inl ⟨by rw [HM7.out], ⟨_, _, rfl, by rw [HM7.out]; exact k2.own A7.out.ou rfl, by rw [HM7.out]; exact own_mono' (k2.own A7.out.ov rfl) A7.out.hK.1⟩, a7, ha7, by rw [HM7.out], k2.blk A7.out.rd rfl⟩⟩
end Go.Proofs.YtakfineljffoaaaGreatDoor
namespace Go.Proofs.YtakfineljffoaaaGreatDoor
open Go.RowKit Go.Lib

theorem say_le (is : Bool) (e : Int) (s : SB) : (sayM is e s).1.size ≤ s.1.size := by rw [say_fst]; exact Nat.le_refl _
theorem num_le (s : SB) : (numM s).2.1.size ≤ s.1.size := (numM_facts s).2.2.1
theorem cnt_le (m : Int) (h : 0 ≤ m) (s : SB) : (cntM m s).2.1.size ≤ s.1.size := (cntM_facts m h s).2.2.1
theorem mst_le (b e : Int) (s : SB) : (mustM b e s).1.size ≤ s.1.size := Nat.le_trans (say_le _ _ _) (octM_size s)
theorem knd_le (s : SB) : (kndM s).2.1.size ≤ s.1.size := Nat.le_trans (say_le _ _ _) (octM_size s)
theorem nam_le (s : SB) : (namM s).2.1.size ≤ s.1.size := by
  unfold namM
  split
  · exact Nat.le_refl _
  · simp only [ByteArray.size_extract]; omega
theorem sgn_le {b : Nat} (hb : b = 32 ∨ b = 64) (s : SB) : (sgnM b s).2.1.size ≤ s.1.size := (sgnM_facts hb s).2.2
theorem plc_le (s : SB) : (plcM s).2.1.size ≤ s.1.size :=
  Nat.le_trans (mst_le _ _ _) (Nat.le_trans (sgn_le (.inl rfl) _) (Nat.le_trans (mst_le _ _ _) (mst_le _ _ _)))
theorem glb_le (s : SB) : (glbM s).2.1.size ≤ s.1.size := by
  refine Nat.le_trans (mst_le _ _ _) (Nat.le_trans (sgn_le (by split; exact .inl rfl; exact .inr rfl) _) (Nat.le_trans (say_le _ _ _) (Nat.le_trans (say_le _ _ _) (Nat.le_trans (octM_size _) (Nat.le_trans (say_le _ _ _) (Nat.le_trans (octM_size _) (knd_le _)))))))
theorem okSc.le {s s' : SB} (h : okSc s) (hl : s'.1.size ≤ s.1.size) : okSc s' := Nat.le_trans hl h
theorem pie_le (s : SB) : (pieM s).2.1.size ≤ s.1.size := by
  have h := num_le s
  unfold pieM
  split
  · exact h
  · split
    · exact h
    · simp only [ByteArray.size_extract]; omega
theorem with_le {α : Type} (F : SB → α × SB) (d : α) (s : SB) : (withM F d s).2.1.size ≤ s.1.size := by
  unfold withM
  split
  · exact pie_le s
  · unfold withB
    simp only
    split
    · exact num_le s
    · exact pie_le s
end Go.Proofs.YtakfineljffoaaaGreatDoor
namespace Go.Proofs.YtakfineljffoaaaGreatDoor
open Go.RowKit Go.Lib
attribute [local go_sem ↓] Go.wp_at_zero Go.wp_at_succ

set_option maxRecDepth 100000 in
set_option maxHeartbeats 2000000 in
theorem sameAll_SaF (w : World) (va vb : Value) (ca cb : List (List Value)) (hl : ca.length = cb.length) (hla : ∀ c ∈ ca, c.length = 3) (hlb : ∀ c ∈ cb, c.length = 3) (ha : Sl w va ca.length ca.flatten) (hb : Sl w vb cb.length cb.flatten)
    (hs : ∀ i (h1 : i < ca.length) (h2 : i < cb.length) (w' : World), Below w.heap.size w w' → Calls Tryz.prog 25 #[.agg ca[i].toArray, .agg cb[i].toArray] w' fun e w2 => e = .returned (.bool true) ∧ Below w'.heap.size w' w2) :
    Calls Tryz.prog 32 #[va, vb, .func (.func 25) #[] #[]] w fun e w' => e = .returned (.bool true) ∧ Below w.heap.size w w' := by
  rcases sm_open (s := 3) (by decide) hla ha with ⟨ao, cap, rfl, h0⟩ | ⟨b, off, cap, rfl, h0, hcap, hm, hca⟩
  · have hb0 : cb.length = 0 := by omega
    obtain ⟨ao', cap', rfl, _, _, _, _⟩ := hb
    rw [hb0]
    clear hs hb0 hl hla hlb ha h0
    go_enter Tryz.func32, Tryz.ntmps32
    go_wp2
    refine wp_loop_rounds 1 ?_; rw [rounds_succ]; go_wp2
    go_ret
    exact ⟨rfl, Below.refl _ _⟩
  rcases sm_open (s := 3) (by decide) hlb hb with ⟨ao', cap', rfl, h0'⟩ | ⟨b', off', cap', rfl, h0', hcap', hm', hcb⟩
  · omega
  have hne : ((ca.length : Int) != cb.length) = false := by simp [hl]
  have HL := hid hl
  have HCA := hid hca
  have HCB := hid hcb
  have HS := hid hs
  have HLA := hid hla
  have HLB := hid hlb
  clear hl hca hcb hs hla hlb ha hb
  go_enter Tryz.func32, Tryz.ntmps32
  go_wp2
  go_loopw [15] (fun i wr => ∃ k : Nat, k ≤ ca.length ∧ i = .int .i64 k ∧ Hid (Below w.heap.size w wr)) (fun i _ => ca.length - (RowKit.intOf i).toNat)
  case atStart => exact ⟨0, Nat.zero_le _, rfl, hid (Below.refl _ _)⟩
  case round =>
    obtain ⟨k, hk, rfl, HB⟩ := hrel
    by_cases hlt : k < ca.length
    · have hlt' : k < cb.length := by have := HL.out; omega
      have hh := HS.out k hlt hlt' wr.drew (below_dr HB.out)
      obtain ⟨c0, c1, c2, hea⟩ := sm_split3 (HLA.out _ (List.getElem_mem hlt))
      obtain ⟨d0, d1, d2, heb⟩ := sm_split3 (HLB.out _ (List.getElem_mem hlt'))
      rw [hea, heb] at hh
      have HH := hid hh
      have HEA := hid hea
      have HEB := hid heb
      have e0 : wr.drew.cell? ⟨b, off + k * 3, none⟩ = some c0 := sm_at HCA.out (below_dr HB.out) hlt HLA.out hea (f := 0) rfl
      have e1 : wr.drew.cell? ⟨b, off + k * 3 + 1, none⟩ = some c1 := sm_at HCA.out (below_dr HB.out) hlt HLA.out hea (f := 1) rfl
      have e2 : wr.drew.cell? ⟨b, off + k * 3 + 2, none⟩ = some c2 := sm_at HCA.out (below_dr HB.out) hlt HLA.out hea (f := 2) rfl
      have f0 : wr.drew.cell? ⟨b', off' + k * 3, none⟩ = some d0 := sm_at HCB.out (below_dr HB.out) hlt' HLB.out heb (f := 0) rfl
      have f1 : wr.drew.cell? ⟨b', off' + k * 3 + 1, none⟩ = some d1 := sm_at HCB.out (below_dr HB.out) hlt' HLB.out heb (f := 1) rfl
      have f2 : wr.drew.cell? ⟨b', off' + k * 3 + 2, none⟩ = some d2 := sm_at HCB.out (below_dr HB.out) hlt' HLB.out heb (f := 2) rfl
      clear hh hea heb
      have hi0 : (0 : Int) ≤ (k : Int) := by omega
      have hi1 : (k : Int) < (ca.length : Int) := by omega
      have hi2 : (k : Int) < (cb.length : Int) := by omega
      go_wp2_with fail
      go_region_held3 (fun w' => w'.cell? ⟨b, off + k * 3, none⟩ = some c0 ∧ w'.cell? ⟨b, off + k * 3 + 1, none⟩ = some c1 ∧ w'.cell? ⟨b, off + k * 3 + 2, none⟩ = some c2 ∧ w'.cell? ⟨b', off' + k * 3, none⟩ = some d0 ∧ w'.cell? ⟨b', off' + k * 3 + 1, none⟩ = some d1 ∧ w'.cell? ⟨b', off' + k * 3 + 2, none⟩ = some d2) (first | exact ⟨e0, e1, e2, f0, f1, f2⟩ | exact ⟨sm_at HCA.out HB3.out hlt HLA.out HEA.out (f := 0) rfl, sm_at HCA.out HB3.out hlt HLA.out HEA.out (f := 1) rfl, sm_at HCA.out HB3.out hlt HLA.out HEA.out (f := 2) rfl, sm_at HCB.out HB3.out hlt' HLB.out HEB.out (f := 0) rfl, sm_at HCB.out HB3.out hlt' HLB.out HEB.out (f := 1) rfl, sm_at HCB.out HB3.out hlt' HLB.out HEB.out (f := 2) rfl⟩ | go_keep) (first | (go_at_call 25; (with_reducible refine HH.out.mono ?_); rintro r w3 ⟨rfl, h1⟩; have HB3 := hid (HB.out.trans ((below_dr (Below.refl wr.heap.size wr)).trans h1 |>.mono HB.out.size)); clear h1))
      all_goals
        go_wp2_with fail
        go_roundw
        case rel => exact ⟨k + 1, by omega, by go_num, HB3⟩
        case measure => simp [RowKit.intOf]; omega
    · go_wp2
      go_ret
      exact ⟨rfl, HB.out⟩
end Go.Proofs.YtakfineljffoaaaGreatDoor
namespace Go.Proofs.YtakfineljffoaaaGreatDoor
open Go.RowKit

set_option maxRecDepth 100000 in
set_option maxHeartbeats 400000 in
theorem eq_kind (va vb : Value) (xs ys : List Int) (w : World) (ha : Ints w .u8 va xs) (hb : Ints w .u8 vb ys) :
    Calls Tryz.prog 26 #[va, vb] w fun e w' => e = .returned (.bool (decide (xs = ys))) ∧ w = w' := by
  by_cases hl : xs.length = ys.length
  · rcases ha.open with ⟨ao, cap, rfl, rfl, _⟩ | ⟨b, off, cap, rfl, h0, hcap, hm, hc⟩
    · obtain rfl : ys = [] := by cases ys <;> simp_all
      obtain ⟨ao', cap', rfl, _, _, _, _⟩ := hb
      clear hl ha
      go_enter Tryz.func26, Tryz.ntmps26
      go_wp2
      refine wp_loop_rounds 1 ?_; rw [rounds_succ]; go_wp2
      go_ret
      exact ⟨by simp, rfl⟩
    · rcases hb.open with ⟨ao', cap', rfl, rfl, _⟩ | ⟨b', off', cap', rfl, h0', hcap', hm', hc'⟩
      · simp at hl; simp [hl] at h0
      clear ha hb
      have H := hid hl
      have hne : ((xs.length : Int) != ys.length) = false := by simp [hl]
      clear hl
      go_enter Tryz.func26, Tryz.ntmps26
      go_wp2
      go_loop [14] (fun i => ∃ k : Nat, k ≤ xs.length ∧ i = .int .i64 k ∧ Hid (xs = ys ↔ xs.drop k = ys.drop k)) (fun i => xs.length - (intOf i).toNat)
      case atStart => exact ⟨0, Nat.zero_le _, rfl, by simp [Hid]⟩
      case round =>
        obtain ⟨k, hk, rfl, hq⟩ := hrel
        by_cases hlt : k < xs.length
        · have hlt' : k < ys.length := by have := H.out; omega
          go_wp2
          · go_ret
            exact ⟨retB (by simp [eq_no hq ‹_›]), rfl⟩
          · go_round
            case rel => exact ⟨k + 1, by omega, by go_num, eq_on hq ‹_›⟩
            case measure => simp [intOf]; omega
        · go_wp2
          go_ret
          exact ⟨retB (by simp [eq_end hq H.out hlt]), rfl⟩
  · have hne : ((xs.length : Int) != ys.length) = true := by simp; omega
    have hxy : xs ≠ ys := fun e => hl (by rw [e])
    obtain ⟨ao, cap, rfl, _, _, _, _⟩ := ha
    obtain ⟨ao', cap', rfl, _, _, _, _⟩ := hb
    go_enter Tryz.func26, Tryz.ntmps26
    go_wp2
    go_ret
    exact ⟨retB (by simp [hxy]), rfl⟩
end Go.Proofs.YtakfineljffoaaaGreatDoor
