/-
  SUPERVISORS: New of both. No condition.
-/
import Derived.Test.YtpapblahnbeccaaSsG
namespace Go.Proofs.Ytpapblahnbeccaa
open Go.RowKit Go.Lib
attribute [local go_sem ↓] Go.wp_at_zero Go.wp_at_succ

def newS (st mo wi : Int) (keep : List Bool) : SSt := ⟨st, mo, wi, keep.map fun k => ⟨true, k⟩, [], 0, false⟩
def newE (st mo wi : Int) (n : Nat) : Int := if 8 < n then 2 else if st < 1 ∨ 3 < st ∨ mo < 0 ∨ 64 < mo ∨ ¬ isT wi then 1 else 0
def NewPost (ty : TypeId) (w : World) (st mo wi : Int) (keep : List Bool) (e : Ending) (w' : World) : Prop :=
  (newE st mo wi keep.length ≠ 0 ∧ e = .returned (.tuple #[.pointer none, .int .i64 (newE st mo wi keep.length)]) ∧ Below w.heap.size w w')
  ∨ (newE st mo wi keep.length = 0 ∧ ∃ B kv pv, e = .returned (.tuple #[.pointer (some ⟨B, 0, none⟩), .int .i64 0]) ∧ SBox ty w' w.heap.size B kv pv (newS st mo wi keep) ∧ Below w.heap.size w w')
theorem new_err {ty : TypeId} {w : World} {st mo wi : Int} {keep : List Bool} {n : Int} (h : newE st mo wi keep.length = n) (hn : n ≠ 0) : NewPost ty w st mo wi keep (.returned (.tuple #[.pointer none, .int .i64 n])) w :=
  .inl ⟨by rw [h]; exact hn, by rw [h], Below.refl _ _⟩

set_option maxRecDepth 100000 in
set_option maxHeartbeats 4000000 in
theorem newS_any (w : World) (st mo wi : Int) (v : Value) (keep : List Bool) (h : L1 Value.bool w v keep) :
    Calls Try.prog 37 #[.int .i64 st, v, .int .i64 mo, .int .i64 wi] w (NewPost 180 w st mo wi keep) := by
  obtain ⟨ao, cap, hv, _⟩ := id h
  subst hv
  by_cases k1 : 8 < keep.length
  · have he : newE st mo wi keep.length = 2 := if_pos k1
    have k1' : (8 : Int) < (keep.length : Int) := by omega
    have HE := hid (new_err (ty := 180) (w := w) he (by decide))
    clear he h
    go_enter Try.func37, Try.ntmps37
    go_wp2_with fail
    go_ret2
    exact HE.out
  · have k1' : (keep.length : Int) ≤ 8 := by omega
    have e0 : newE st mo wi keep.length = _ := if_neg k1
    by_cases k2 : st < 1 ∨ 3 < st ∨ mo < 0 ∨ 64 < mo ∨ ¬ isT wi
    · have HE := hid (new_err (ty := 180) (w := w) (e0.trans (if_pos k2)) (by decide))
      have hcs : (st < 1 ∨ 3 < st) ∨ (1 ≤ st ∧ st ≤ 3 ∧ mo < 0) ∨ (1 ≤ st ∧ st ≤ 3 ∧ 0 ≤ mo ∧ 64 < mo) ∨ (1 ≤ st ∧ st ≤ 3 ∧ 0 ≤ mo ∧ mo ≤ 64 ∧ (wi < 0 ∨ 1099511627776 < wi)) := by
        unfold isT maxT at k2; omega
      clear e0 h k2
      rcases hcs with g1 | ⟨g1, g2, g3⟩ | ⟨g1, g2, g3, g4⟩ | ⟨g1, g2, g3, g4, g5⟩
      · have HS := hid (isStr_no st w g1)
        go_enter Try.func37, Try.ntmps37
        go_wp2_with fail
        refine HS.out.mono ?_
        rintro e w1 ⟨rfl, rfl⟩
        go_wp2_with fail
        go_ret2
        exact HE.out
      · have HS := hid (isStr_yes st w ⟨g1, g2⟩)
        go_enter Try.func37, Try.ntmps37
        go_wp2_with fail
        refine HS.out.mono ?_
        rintro e w1 ⟨rfl, rfl⟩
        go_wp2_with fail
        go_ret2
        exact HE.out
      · have HS := hid (isStr_yes st w ⟨g1, g2⟩)
        have d1 : decide (mo < 0) = false := decide_eq_false (by omega)
        go_enter Try.func37, Try.ntmps37
        go_wp2_with fail
        refine HS.out.mono ?_
        rintro e w1 ⟨rfl, rfl⟩
        go_wp2_with fail
        go_ret2
        exact HE.out
      · have HS := hid (isStr_yes st w ⟨g1, g2⟩)
        have HTM := hid (isTime_no wi w g5)
        have d1 : decide (mo < 0) = false := decide_eq_false (by omega)
        have d2 : decide (64 < mo) = false := decide_eq_false (by omega)
        go_enter Try.func37, Try.ntmps37
        go_wp2_with fail
        refine HS.out.mono ?_
        rintro e w1 ⟨rfl, rfl⟩
        go_wp2_with fail
        refine HTM.out.mono ?_
        rintro e w1 ⟨rfl, rfl⟩
        go_wp2_with fail
        go_ret2
        exact HE.out
    · have HE := hid (e0.trans (if_neg k2))
      have g1 : 1 ≤ st ∧ st ≤ 3 ∧ 0 ≤ mo ∧ mo ≤ 64 ∧ 0 ≤ wi ∧ wi ≤ 1099511627776 := by unfold isT maxT at k2; omega
      have d0 : decide (st < 1) = false := decide_eq_false (by omega)
      have d0' : decide (3 < st) = false := decide_eq_false (by omega)
      have d1 : decide (mo < 0) = false := decide_eq_false (by omega)
      have d2 : decide (64 < mo) = false := decide_eq_false (by omega)
      have d3 : decide (wi < 0) = false := decide_eq_false (by omega)
      have d4 : decide (1099511627776 < wi) = false := decide_eq_false (by omega)
      have H := hid h
      clear e0 h k2
      have HS := hid (isStr_yes st w ⟨g1.1, g1.2.1⟩)
      have HTM := hid (isTime_yes wi w ⟨g1.2.2.2.2.1, g1.2.2.2.2.2⟩)
      have HB0 : Hid (SBox 180 (w.alloc (.cells #[.int .i64 st, .int .i64 mo, .int .i64 wi, .slice none 0 0, .slice none 0 0, .int .i64 0, .bool false] 180)) w.heap.size w.heap.size (.slice none 0 0) (.slice none 0 0) (newS st mo wi [])) :=
        hid ⟨Blk.new _ _ _ _ rfl, World.ownsRow_nil _ _ _ _, OwnI.nil _ _ _ _, Nat.le_refl _, by simp⟩
      have HA := hid (Below.alloc (Below.refl w.heap.size w) (Nat.le_refl _) (.cells #[.int .i64 st, .int .i64 mo, .int .i64 wi, .slice none 0 0, .slice none 0 0, .int .i64 0, .bool false] 180))
      go_enter Try.func37, Try.ntmps37
      go_wp2_with fail
      refine HS.out.mono ?_
      rintro e w1 ⟨rfl, rfl⟩
      go_wp2_with fail
      refine HTM.out.mono ?_
      rintro e w1 ⟨rfl, rfl⟩
      go_wp2_with fail
      go_loopw [39] (fun i wr => ∃ (k : Nat) (kv : Value), k ≤ keep.length ∧ i = .int .i64 k ∧ Hid (SBox 180 wr w.heap.size w.heap.size kv (.slice none 0 0) (newS st mo wi (keep.take k))) ∧ Hid (Below w.heap.size w wr)) (fun i _ => keep.length - (RowKit.intOf i).toNat)
      case atStart => exact ⟨0, _, Nat.zero_le _, rfl, HB0, HA⟩
      case round =>
        obtain ⟨k, kv, hk, rfl, hS, hb⟩ := hrel
        by_cases hlt : k < keep.length
        · rcases (L1.below H.out hb.out).open with ⟨_, _, _, e, _⟩ | ⟨lb, lo, cap', hv, _, hcap, hcap2, hcl⟩
          · rw [e] at hlt; simp at hlt
          simp only [Value.slice.injEq, true_and] at hv
          obtain ⟨rfl, rfl⟩ := hv
          have e0 := hcl k hlt
          have b3 := hS.out.blk.cell (i := 3) rfl
          have f3 := hS.out.blk.free 3
          have hne := blk_ne2 hS.out.blk hS.out.kids (by rfl)
          have hnl : (newS st mo wi (keep.take k)).kids.length = k := by unfold newS; rw [List.length_map, List.length_take]; omega
          have hst : (newS st mo wi (keep.take k)).kids ++ [(⟨true, keep[k]⟩ : Kd)] = (newS st mo wi (keep.take (k + 1))).kids := by
            unfold newS
            rw [List.take_succ_eq_append_getElem hlt, List.map_append]
            rfl
          have HST := hid hst
          have hkk : World.ownsRow wr w.heap.size 74 2 kv k ((newS st mo wi (keep.take k)).kids.flatMap encKd) := by
            have := hS.out.kids
            unfold Ok at this
            rw [hnl] at this
            exact this
          have HKK := hid hkk
          have hbs := hb.out.size
          clear hcl hst hkk
          generalize keep[k] = kp at *
          go_wp2_with (at_builtin; go_loud (refine app_one elem_Kd (cs := [.bool true, .bool kp]) rfl _ _ rfl rfl rfl rfl HKK.out rfl (by intro c hc; simp at hc; rcases hc with rfl | rfl <;> rfl) (by omega) (by omega) hbs ?_); intro v' w' ho' hb' hg'; obtain ⟨ao2, cap2, rfl, _⟩ := own_sl ho'; have z3 := Grew.cell hg' b3 hne; have zf := Grew.free hg' b3 hne f3; have HO := hid (And.intro ho' (And.intro hb' hg')); clear ho' hb' hg')
          have hS2 : SBox 180 (w'.setCell ⟨w.heap.size, 3, none⟩ (.slice ao2 (k + 1) cap2)) w.heap.size w.heap.size (.slice ao2 (k + 1) cap2) (.slice none 0 0) (newS st mo wi (keep.take (k + 1))) := by
            have hk2 : Ok encKd 2 w' w.heap.size 74 (.slice ao2 (k + 1) cap2) (newS st mo wi (keep.take (k + 1))).kids := by
              rw [← HST.out]
              show World.ownsRow _ _ _ _ _ ((newS st mo wi (keep.take k)).kids ++ [(⟨true, kp⟩ : Kd)]).length _
              rw [List.length_append, hnl, List.flatMap_append]
              exact HO.out.1
            have hblk : Blk w' w.heap.size _ _ := hS.out.blk.touch (Touch.grown (F := fun j => kv.ownBlock = some j) HO.out.2.2.1 (fun j hj => hj)) hne
            have hn2 := blk_ne2 hblk hk2 (by rfl)
            exact ⟨hblk.set 3 _, ownsRow_setCell_other (a := ⟨w.heap.size, 3, none⟩) hk2 hn2 _, OwnI.nil _ _ _ _, Nat.le_refl _, by have := HO.out.2.1.size; simp; omega⟩
          have HS2 := hid hS2
          have HB2 : Hid (Below w.heap.size w (w'.setCell ⟨w.heap.size, 3, none⟩ (.slice ao2 (k + 1) cap2))) := hid (Below.setCell (hb.out.trans HO.out.2.1) (Nat.le_refl w.heap.size) _)
          clear hS2
          go_roundw
          case rel => exact ⟨k + 1, _, by omega, by go_num, HS2, HB2⟩
          case measure => simp [RowKit.intOf]; omega
        · obtain rfl : k = keep.length := by omega
          have hS2 := hS.out
          rw [List.take_length] at hS2
          have HS2 := hid hS2
          clear hS2
          go_wp2_with fail
          go_ret2
          exact .inr ⟨HE.out, _, kv, _, rfl, HS2.out, hb.out⟩

set_option maxRecDepth 100000 in
set_option maxHeartbeats 4000000 in
theorem newR_any (w : World) (st mo wi : Int) (v : Value) (keep : List Bool) (h : L1 Value.bool w v keep) :
    Calls Try.prog 38 #[.int .i64 st, v, .int .i64 mo, .int .i64 wi] w (NewPost 78 w st mo wi keep) := by
  obtain ⟨ao, cap, hv, _⟩ := id h
  subst hv
  by_cases k1 : 8 < keep.length
  · have he : newE st mo wi keep.length = 2 := if_pos k1
    have k1' : (8 : Int) < (keep.length : Int) := by omega
    have HE := hid (new_err (ty := 78) (w := w) he (by decide))
    clear he h
    go_enter Try.func38, Try.ntmps38
    go_wp2_with fail
    go_ret2
    exact HE.out
  · have k1' : (keep.length : Int) ≤ 8 := by omega
    have e0 : newE st mo wi keep.length = _ := if_neg k1
    by_cases k2 : st < 1 ∨ 3 < st ∨ mo < 0 ∨ 64 < mo ∨ ¬ isT wi
    · have HE := hid (new_err (ty := 78) (w := w) (e0.trans (if_pos k2)) (by decide))
      have hcs : st < 1 ∨ (1 ≤ st ∧ 3 < st) ∨ (1 ≤ st ∧ st ≤ 3 ∧ mo < 0) ∨ (1 ≤ st ∧ st ≤ 3 ∧ 0 ≤ mo ∧ 64 < mo) ∨ (1 ≤ st ∧ st ≤ 3 ∧ 0 ≤ mo ∧ mo ≤ 64 ∧ wi < 0) ∨ (1 ≤ st ∧ st ≤ 3 ∧ 0 ≤ mo ∧ mo ≤ 64 ∧ 0 ≤ wi ∧ 1099511627776 < wi) := by
        unfold isT maxT at k2; omega
      clear e0 h k2
      rcases hcs with g1 | ⟨g1, g2⟩ | ⟨g1, g2, g3⟩ | ⟨g1, g2, g3, g4⟩ | ⟨g1, g2, g3, g4, g5⟩ | ⟨g1, g2, g3, g4, g5, g6⟩
      all_goals
        (try have d0 : decide (st < 1) = false := decide_eq_false (by omega))
        (try have d0' : decide (3 < st) = false := decide_eq_false (by omega))
        (try have d1 : decide (mo < 0) = false := decide_eq_false (by omega))
        (try have d2 : decide (64 < mo) = false := decide_eq_false (by omega))
        (try have d3 : decide (wi < 0) = false := decide_eq_false (by omega))
        go_enter Try.func38, Try.ntmps38
        go_wp2_with fail
        go_ret2
        exact HE.out
    · have HE := hid (e0.trans (if_neg k2))
      have g1 : 1 ≤ st ∧ st ≤ 3 ∧ 0 ≤ mo ∧ mo ≤ 64 ∧ 0 ≤ wi ∧ wi ≤ 1099511627776 := by unfold isT maxT at k2; omega
      have d0 : decide (st < 1) = false := decide_eq_false (by omega)
      have d0' : decide (3 < st) = false := decide_eq_false (by omega)
      have d1 : decide (mo < 0) = false := decide_eq_false (by omega)
      have d2 : decide (64 < mo) = false := decide_eq_false (by omega)
      have d3 : decide (wi < 0) = false := decide_eq_false (by omega)
      have d4 : decide (1099511627776 < wi) = false := decide_eq_false (by omega)
      have H := hid h
      clear e0 h k2
      have HB0 : Hid (SBox 78 (w.alloc (.cells #[.int .i64 st, .int .i64 mo, .int .i64 wi, .slice none 0 0, .slice none 0 0, .int .i64 0, .bool false] 78)) w.heap.size w.heap.size (.slice none 0 0) (.slice none 0 0) (newS st mo wi [])) :=
        hid ⟨Blk.new _ _ _ _ rfl, World.ownsRow_nil _ _ _ _, OwnI.nil _ _ _ _, Nat.le_refl _, by simp⟩
      have HA := hid (Below.alloc (Below.refl w.heap.size w) (Nat.le_refl _) (.cells #[.int .i64 st, .int .i64 mo, .int .i64 wi, .slice none 0 0, .slice none 0 0, .int .i64 0, .bool false] 78))
      go_enter Try.func38, Try.ntmps38
      go_wp2_with fail
      go_loopw [45] (fun i wr => ∃ (k : Nat) (kv : Value), k ≤ keep.length ∧ i = .int .i64 k ∧ Hid (SBox 78 wr w.heap.size w.heap.size kv (.slice none 0 0) (newS st mo wi (keep.take k))) ∧ Hid (Below w.heap.size w wr)) (fun i _ => keep.length - (RowKit.intOf i).toNat)
      case atStart => exact ⟨0, _, Nat.zero_le _, rfl, HB0, HA⟩
      case round =>
        obtain ⟨k, kv, hk, rfl, hS, hb⟩ := hrel
        by_cases hlt : k < keep.length
        · rcases (L1.below H.out hb.out).open with ⟨_, _, _, e, _⟩ | ⟨lb, lo, cap', hv, _, hcap, hcap2, hcl⟩
          · rw [e] at hlt; simp at hlt
          simp only [Value.slice.injEq, true_and] at hv
          obtain ⟨rfl, rfl⟩ := hv
          have e0 := hcl k hlt
          have b3 := hS.out.blk.cell (i := 3) rfl
          have f3 := hS.out.blk.free 3
          have hne := blk_ne2 hS.out.blk hS.out.kids (by rfl)
          have hnl : (newS st mo wi (keep.take k)).kids.length = k := by unfold newS; rw [List.length_map, List.length_take]; omega
          have hst : (newS st mo wi (keep.take k)).kids ++ [(⟨true, keep[k]⟩ : Kd)] = (newS st mo wi (keep.take (k + 1))).kids := by
            unfold newS
            rw [List.take_succ_eq_append_getElem hlt, List.map_append]
            rfl
          have HST := hid hst
          have hkk : World.ownsRow wr w.heap.size 74 2 kv k ((newS st mo wi (keep.take k)).kids.flatMap encKd) := by
            have := hS.out.kids
            unfold Ok at this
            rw [hnl] at this
            exact this
          have HKK := hid hkk
          have hbs := hb.out.size
          clear hcl hst hkk
          generalize keep[k] = kp at *
          go_wp2_with (at_builtin; go_loud (refine app_one elem_Kd (cs := [.bool true, .bool kp]) rfl _ _ rfl rfl rfl rfl HKK.out rfl (by intro c hc; simp at hc; rcases hc with rfl | rfl <;> rfl) (by omega) (by omega) hbs ?_); intro v' w' ho' hb' hg'; obtain ⟨ao2, cap2, rfl, _⟩ := own_sl ho'; have z3 := Grew.cell hg' b3 hne; have zf := Grew.free hg' b3 hne f3; have HO := hid (And.intro ho' (And.intro hb' hg')); clear ho' hb' hg')
          have hS2 : SBox 78 (w'.setCell ⟨w.heap.size, 3, none⟩ (.slice ao2 (k + 1) cap2)) w.heap.size w.heap.size (.slice ao2 (k + 1) cap2) (.slice none 0 0) (newS st mo wi (keep.take (k + 1))) := by
            have hk2 : Ok encKd 2 w' w.heap.size 74 (.slice ao2 (k + 1) cap2) (newS st mo wi (keep.take (k + 1))).kids := by
              rw [← HST.out]
              show World.ownsRow _ _ _ _ _ ((newS st mo wi (keep.take k)).kids ++ [(⟨true, kp⟩ : Kd)]).length _
              rw [List.length_append, hnl, List.flatMap_append]
              exact HO.out.1
            have hblk : Blk w' w.heap.size _ _ := hS.out.blk.touch (Touch.grown (F := fun j => kv.ownBlock = some j) HO.out.2.2.1 (fun j hj => hj)) hne
            have hn2 := blk_ne2 hblk hk2 (by rfl)
            exact ⟨hblk.set 3 _, ownsRow_setCell_other (a := ⟨w.heap.size, 3, none⟩) hk2 hn2 _, OwnI.nil _ _ _ _, Nat.le_refl _, by have := HO.out.2.1.size; simp; omega⟩
          have HS2 := hid hS2
          have HB2 : Hid (Below w.heap.size w (w'.setCell ⟨w.heap.size, 3, none⟩ (.slice ao2 (k + 1) cap2))) := hid (Below.setCell (hb.out.trans HO.out.2.1) (Nat.le_refl w.heap.size) _)
          clear hS2
          go_roundw
          case rel => exact ⟨k + 1, _, by omega, by go_num, HS2, HB2⟩
          case measure => simp [RowKit.intOf]; omega
        · obtain rfl : k = keep.length := by omega
          have hS2 := hS.out
          rw [List.take_length] at hS2
          have HS2 := hid hS2
          clear hS2
          go_wp2_with fail
          go_ret2
          exact .inr ⟨HE.out, _, kv, _, rfl, HS2.out, hb.out⟩

end Go.Proofs.Ytpapblahnbeccaa
