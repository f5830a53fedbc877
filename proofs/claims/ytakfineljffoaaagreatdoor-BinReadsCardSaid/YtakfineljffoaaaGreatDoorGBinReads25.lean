/-
  MODULES READ, the program's reader: done, piece. Conditions: a text in the form's reach.
-/
import Derived.Test.YtakfineljffoaaaGreatDoorGBinReads17
import Derived.Test.YtakfineljffoaaaGreatDoorGBinReads21
import Derived.Test.YtakfineljffoaaaGreatDoorGBinReads24
namespace Go.Proofs.YtakfineljffoaaaGreatDoor
open Go.RowKit Go.Lib

def dneM (s : ByteArray × Int) : ByteArray × Int := sayM (decide (s.1.size ≠ 0)) 4 s
set_option maxRecDepth 100000 in
set_option maxHeartbeats 2000000 in
theorem bdone_any (w : World) (B : Nat) (t : ByteArray) (a : Nat) (h : BrB w B t a) (ha : a ≤ t.size) (_hs : t.size ≤ 1000000000) :
    Calls Tryz.prog 17 #[.pointer (some ⟨B, 0, none⟩)] w (PR B t (.tuple #[]) (dneM (left t a, 0)) w) := by
  have H := hid h
  have d0 : w.drew.cell? ⟨B, 0, none⟩ = some (.string t) := h.cell (i := 0) rfl
  have d1 : w.drew.cell? ⟨B, 1, none⟩ = some (.int .i64 (a : Int)) := h.cell (i := 1) rfl
  have HD := hid (show BrB w.drew B t a from Blk.drew h 1)
  have hls := left_size t a
  clear h
  by_cases hq : a < t.size
  · have hd : decide ((a : Int) < (t.size : Int)) = true := decide_eq_true (by omega)
    have hd2 : decide (a < t.size) = true := decide_eq_true hq
    have HS := hid (show dneM (left t a, 0) = (left t a, 4) from by unfold dneM; rw [decide_eq_true (by simp only; omega)]; exact say_yes rfl)
    clear hq hls
    go_enter Tryz.func17, Tryz.ntmps17
    go_wp2_with fail
    refine wp_region_tail (S := (fun w' => w'.cell? ⟨B, 0, none⟩ = some (.string t) ∧ w'.cell? ⟨B, 1, none⟩ = some (.int .i64 (a : Int)))) 11 (by kernel_rfl) (by kernel_rfl) ?_ (fun hHeld => ?_)
    · exact ⟨d0, d1⟩
    repeat ((first | refine tk 0 ?_ rfl ?_ ?_ | refine tk 1 ?_ rfl ?_ ?_ | refine tk 2 ?_ rfl ?_ ?_ | refine tk 3 ?_ rfl ?_ ?_ | refine tk 4 ?_ rfl ?_ ?_ | refine tk 5 ?_ rfl ?_ ?_ | refine tk 6 ?_ rfl ?_ ?_ | refine tk 7 ?_ rfl ?_ ?_ | refine tk 8 ?_ rfl ?_ ?_ | refine tk 9 ?_ rfl ?_ ?_ | refine tk 10 ?_ rfl ?_ ?_); rotate_left; (intro wy hSw; (try dsimp only at hSw); (go_simp <;> with_reducible rfl)); (try simp only [List.getElem_toArray, List.getElem_cons_zero, List.getElem_cons_succ, Act.put, List.setIfInBounds_toArray, List.set_cons_zero, List.set_cons_succ]))
    refine wpT_done (by kernel_rfl) ?_
    go_wp2_with fail
    refine (throw_yes _ _ _).mono ?_
    rintro r w1 ⟨rfl, rfl⟩
    go_wp2_with fail
    exact ⟨rfl, Touch.of_below (Below.refl _ _).drew, .inr ⟨by rw [HS.out]; exact (by decide : (4 : Int) ≠ 0), by rw [HS.out]⟩⟩
  · have hd : decide ((a : Int) < (t.size : Int)) = false := decide_eq_false (by omega)
    have hd2 : decide (a < t.size) = false := decide_eq_false hq
    have HS := hid (show dneM (left t a, 0) = (left t a, 0) from by unfold dneM; rw [decide_eq_false (by simp only; omega)]; exact say_no)
    clear hq hls
    go_enter Tryz.func17, Tryz.ntmps17
    go_wp2_with fail
    refine wp_region_tail (S := (fun w' => w'.cell? ⟨B, 0, none⟩ = some (.string t) ∧ w'.cell? ⟨B, 1, none⟩ = some (.int .i64 (a : Int)))) 11 (by kernel_rfl) (by kernel_rfl) ?_ (fun hHeld => ?_)
    · exact ⟨d0, d1⟩
    repeat ((first | refine tk 0 ?_ rfl ?_ ?_ | refine tk 1 ?_ rfl ?_ ?_ | refine tk 2 ?_ rfl ?_ ?_ | refine tk 3 ?_ rfl ?_ ?_ | refine tk 4 ?_ rfl ?_ ?_ | refine tk 5 ?_ rfl ?_ ?_ | refine tk 6 ?_ rfl ?_ ?_ | refine tk 7 ?_ rfl ?_ ?_ | refine tk 8 ?_ rfl ?_ ?_ | refine tk 9 ?_ rfl ?_ ?_ | refine tk 10 ?_ rfl ?_ ?_); rotate_left; (intro wy hSw; (try dsimp only at hSw); (go_simp <;> with_reducible rfl)); (try simp only [List.getElem_toArray, List.getElem_cons_zero, List.getElem_cons_succ, Act.put, List.setIfInBounds_toArray, List.set_cons_zero, List.set_cons_succ]))
    refine wpT_done (by kernel_rfl) ?_
    go_wp2_with fail
    refine (throw_no _ _ _).mono ?_
    rintro r w1 ⟨rfl, rfl⟩
    go_wp2_with fail
    go_end0
    exact ⟨Touch.of_below (Below.refl _ _).drew, .inl ⟨by rw [HS.out], rfl, a, ha, by rw [HS.out], HD.out⟩⟩
/-- so many bytes by themselves, and what is left behind them -/
def pieM (s : ByteArray × Int) : ByteArray × ByteArray × Int :=
  if (numM s).2.2 ≠ 0 then (⟨#[]⟩, (numM s).2) else if ((numM s).2.1.size : Int) < (numM s).1 then (⟨#[]⟩, ((numM s).2.1, 3)) else ((numM s).2.1.extract 0 (numM s).1.toNat, ((numM s).2.1.extract (numM s).1.toNat (numM s).2.1.size, 0))
def PPie (B : Nat) (t : ByteArray) (p : ByteArray × ByteArray × Int) (w : World) (e : Ending) (w' : World) : Prop :=
  Touch (fun k => k = B) w w' ∧ ((p.2.2 = 0 ∧ ∃ R a, w.heap.size ≤ R ∧ e = .returned (.pointer (some ⟨R, 0, none⟩)) ∧ a ≤ t.size ∧ p.2.1 = left t a ∧ BrB w' B t a ∧ BrB w' R p.1 0) ∨ (p.2.2 ≠ 0 ∧ e = .panicked [{ v := wrongV p.2.2, recovered := false }]))
theorem left_cut (t : ByteArray) (a n : Nat) (h : a + n ≤ t.size) : (left t a).extract 0 n = t.extract a (a + n) := by
  unfold left
  rw [ByteArray.extract_extract]
  congr 1
  omega
set_option maxRecDepth 100000 in
set_option maxHeartbeats 4000000 in
theorem bpiece_any (w : World) (B : Nat) (t : ByteArray) (a : Nat) (h : BrB w B t a) (ha : a ≤ t.size) (hs : t.size ≤ 1000000000) :
    Calls Tryz.prog 15 #[.pointer (some ⟨B, 0, none⟩)] w (PPie B t (pieM (left t a, 0)) w) := by
  have hf := numM_facts (left t a, 0)
  have HC := hid (bnumber_any w B t a h ha hs)
  clear h
  go_enter Tryz.func15, Tryz.ntmps15
  go_wp2_with fail
  refine HC.out.mono ?_
  rintro r w1 ⟨ht, hor⟩
  have HT := hid ht
  clear ht
  obtain ⟨v, s, hv⟩ : ∃ v s, numM (left t a, 0) = (v, s) := ⟨_, _, rfl⟩
  have HM := hid (show pieM (left t a, 0) = if s.2 ≠ 0 then (⟨#[]⟩, s) else if (s.1.size : Int) < v then (⟨#[]⟩, (s.1, 3)) else (s.1.extract 0 v.toNat, (s.1.extract v.toNat s.1.size, 0)) from by unfold pieM; rw [hv])
  rw [hv] at hor hf
  simp only at hor hf
  clear hv
  rcases hor with ⟨hz, rfl, a2, ha2, hl, hb2⟩ | ⟨hnz, rfl⟩
  · have HB := hid hb2
    have d0 : w1.drew.cell? ⟨B, 0, none⟩ = some (.string t) := hb2.cell (i := 0) rfl
    have d1 : w1.drew.cell? ⟨B, 1, none⟩ = some (.int .i64 (a2 : Int)) := hb2.cell (i := 1) rfl
    have HD := hid (show BrB w1.drew B t a2 from Blk.drew hb2 1)
    have hls := left_size t a2
    rw [← hl] at hls
    have hwr : IntKind.i64.wrap ((t.size : Int) - (a2 : Int)) = (t.size : Int) - (a2 : Int) := IntWalk.i64_in _ (by omega)
    by_cases hq : (s.1.size : Int) < v
    · have hd : decide ((t.size : Int) - (a2 : Int) < v) = true := decide_eq_true (by omega)
      have HS := hid (show pieM (left t a, 0) = (⟨#[]⟩, (s.1, 3)) from by rw [HM.out, if_neg (fun g => g hz), if_pos hq])
      clear hb2 hz hl hf hq hls
      go_wp2_with fail
      refine wp_region_tail (S := (fun w' => w'.cell? ⟨B, 0, none⟩ = some (.string t) ∧ w'.cell? ⟨B, 1, none⟩ = some (.int .i64 (a2 : Int)))) 13 (by kernel_rfl) (by kernel_rfl) ?_ (fun hHeld => ?_)
      · exact ⟨d0, d1⟩
      repeat ((first | refine tk 0 ?_ rfl ?_ ?_ | refine tk 1 ?_ rfl ?_ ?_ | refine tk 2 ?_ rfl ?_ ?_ | refine tk 3 ?_ rfl ?_ ?_ | refine tk 4 ?_ rfl ?_ ?_ | refine tk 5 ?_ rfl ?_ ?_ | refine tk 6 ?_ rfl ?_ ?_ | refine tk 7 ?_ rfl ?_ ?_ | refine tk 8 ?_ rfl ?_ ?_ | refine tk 9 ?_ rfl ?_ ?_ | refine tk 10 ?_ rfl ?_ ?_ | refine tk 11 ?_ rfl ?_ ?_ | refine tk 12 ?_ rfl ?_ ?_); rotate_left; (intro wy hSw; (try dsimp only at hSw); (go_simp <;> with_reducible rfl)); (try simp only [List.getElem_toArray, List.getElem_cons_zero, List.getElem_cons_succ, Act.put, List.setIfInBounds_toArray, List.set_cons_zero, List.set_cons_succ]))
      refine wpT_done (by kernel_rfl) ?_
      go_wp2_with fail
      refine (throw_yes _ _ _).mono ?_
      rintro r w2 ⟨rfl, rfl⟩
      go_wp2_with fail
      exact ⟨rfl, HT.out.trans (Touch.of_below (Below.refl _ _).drew), .inr ⟨by rw [HS.out]; exact (by decide : (3 : Int) ≠ 0), by rw [HS.out]⟩⟩
    · have hd : decide ((t.size : Int) - (a2 : Int) < v) = false := decide_eq_false (by omega)
      obtain ⟨n, rfl⟩ := Int.eq_ofNat_of_zero_le hf.1
      have hn : a2 + n ≤ t.size := by omega
      have HS := hid (show pieM (left t a, 0) = (t.extract a2 (a2 + n), (left t (a2 + n), 0)) from by
        rw [HM.out, if_neg (fun g => g hz), if_neg hq, Int.toNat_natCast, hl, left_left, left_cut t a2 n hn])
      have hn1 : (a2 : Int) + (n : Int) ≤ 1000000000 := by omega
      have e2 : IntKind.i64.wrap ((a2 : Int) + (n : Int) - (n : Int)) = (a2 : Int) := by rw [IntKind.wrap_i64]; omega
      have e3 : ((a2 : Int) + (n : Int)).toNat = a2 + n := by omega
      have HX := hid (show Blk (w1.setCell ⟨B, 1, none⟩ (.int .i64 ((a2 : Int) + (n : Int)))).drew.drew B 46 [.string t, .int .i64 ((a2 : Int) + (n : Int))] from (HB.out.set 1 (.int .i64 ((a2 : Int) + (n : Int)))).drew 2)
      have n0 := HX.out.cell (i := 0) rfl
      have n1 := HX.out.cell (i := 1) rfl
      have c1 := HD.out.cell (i := 1) rfl
      have cf := HD.out.free 1
      have hlt : (a2 : Int) ≤ (a2 : Int) + (n : Int) := by omega
      have hlt2 : (a2 : Int) + (n : Int) ≤ (t.size : Int) := by omega
      have h0a : (0 : Int) ≤ (a2 : Int) := by omega
      have hx : ¬ (9223372036854775807 < t.size) := by omega
      have h0s : (0 : Int) ≤ (a2 : Int) + (n : Int) := by omega
      have hwa : IntKind.i64.wrap (a2 : Int) = (a2 : Int) := IntWalk.i64_in _ (by omega)
      clear hb2 hz hl hf hq hls
      go_wp2_with fail
      refine wp_region_tail (S := (fun w' => w'.cell? ⟨B, 0, none⟩ = some (.string t) ∧ w'.cell? ⟨B, 1, none⟩ = some (.int .i64 (a2 : Int)))) 13 (by kernel_rfl) (by kernel_rfl) ?_ (fun hHeld => ?_)
      · exact ⟨d0, d1⟩
      repeat ((first | refine tk 0 ?_ rfl ?_ ?_ | refine tk 1 ?_ rfl ?_ ?_ | refine tk 2 ?_ rfl ?_ ?_ | refine tk 3 ?_ rfl ?_ ?_ | refine tk 4 ?_ rfl ?_ ?_ | refine tk 5 ?_ rfl ?_ ?_ | refine tk 6 ?_ rfl ?_ ?_ | refine tk 7 ?_ rfl ?_ ?_ | refine tk 8 ?_ rfl ?_ ?_ | refine tk 9 ?_ rfl ?_ ?_ | refine tk 10 ?_ rfl ?_ ?_ | refine tk 11 ?_ rfl ?_ ?_ | refine tk 12 ?_ rfl ?_ ?_); rotate_left; (intro wy hSw; (try dsimp only at hSw); (go_simp <;> with_reducible rfl)); (try simp only [List.getElem_toArray, List.getElem_cons_zero, List.getElem_cons_succ, Act.put, List.setIfInBounds_toArray, List.set_cons_zero, List.set_cons_succ]))
      refine wpT_done (by kernel_rfl) ?_
      go_wp2_with fail
      refine (throw_no _ _ _).mono ?_
      rintro r w2 ⟨rfl, rfl⟩
      go_wp2_with fail
      refine wp_region_tail (S := (fun w' => w'.cell? ⟨B, 0, none⟩ = some (.string t) ∧ w'.cell? ⟨B, 1, none⟩ = some (.int .i64 ((a2 : Int) + (n : Int))))) 16 (by kernel_rfl) (by kernel_rfl) ?_ (fun hHeld => ?_)
      · exact ⟨n0, n1⟩
      repeat ((first | refine tk 0 ?_ rfl ?_ ?_ | refine tk 1 ?_ rfl ?_ ?_ | refine tk 2 ?_ rfl ?_ ?_ | refine tk 3 ?_ rfl ?_ ?_ | refine tk 4 ?_ rfl ?_ ?_ | refine tk 5 ?_ rfl ?_ ?_ | refine tk 6 ?_ rfl ?_ ?_ | refine tk 7 ?_ rfl ?_ ?_ | refine tk 8 ?_ rfl ?_ ?_ | refine tk 9 ?_ rfl ?_ ?_ | refine tk 10 ?_ rfl ?_ ?_ | refine tk 11 ?_ rfl ?_ ?_ | refine tk 12 ?_ rfl ?_ ?_ | refine tk 13 ?_ rfl ?_ ?_ | refine tk 14 ?_ rfl ?_ ?_ | refine tk 15 ?_ rfl ?_ ?_); rotate_left; (intro wy hSw; (try dsimp only at hSw); (go_simp <;> with_reducible rfl)); (try simp only [List.getElem_toArray, List.getElem_cons_zero, List.getElem_cons_succ, Act.put, List.setIfInBounds_toArray, List.set_cons_zero, List.set_cons_succ]))
      refine wpT_done (by kernel_rfl) ?_
      go_wp2_with fail
      go_ret
      have hc : (a2 : Int) + (n : Int) = ((a2 + n : Nat) : Int) := by omega
      have hY := (((HB.out.set 1 (.int .i64 ((a2 : Int) + (n : Int)))).alloc (.cells #[.string (t.extract a2 (a2 + n)), .int .i64 0] 46)).drew 2)
      have hZ := (Blk.new (w1.setCell ⟨B, 1, none⟩ (.int .i64 ((a2 : Int) + (n : Int)))) #[.string (t.extract a2 (a2 + n)), .int .i64 0] 46 w1.heap.size (by simp)).drew 2
      have hT := (((HT.out.trans (Touch.setCell (F := fun k => k = B) (a := ⟨B, 1, none⟩) rfl (.int .i64 ((a2 : Int) + (n : Int))))).alloc (.cells #[.string (t.extract a2 (a2 + n)), .int .i64 0] 46)).drew 2)
      refine ⟨hT, .inl ⟨by rw [HS.out], w1.heap.size, a2 + n, HT.out.size, rfl, hn, by rw [HS.out], ?_, by rw [HS.out]; exact hZ⟩⟩
      show Blk _ B _ [.string t, .int .i64 (((a2 + n : Nat)) : Int)]
      rw [← hc]
      exact hY
  · have HS := hid (show pieM (left t a, 0) = (⟨#[]⟩, s) from by rw [HM.out, if_pos hnz])
    have HE := hid hnz
    clear hnz hf
    go_wp2_with fail
    exact ⟨rfl, HT.out, .inr ⟨by rw [HS.out]; exact HE.out, by rw [HS.out]⟩⟩
end Go.Proofs.YtakfineljffoaaaGreatDoor
namespace Go.Proofs.YtakfineljffoaaaGreatDoor
open Go.RowKit Go.Lib

theorem rs_room32 {a k c : Nat} (h7 : 7 * k < 32) (ha : a < 2 ^ (7 * k)) (hc : 32 - 7 * k < 7 → -2 ^ (32 - 7 * k - 1) ≤ sv c ∧ sv c < 2 ^ (32 - 7 * k - 1)) : -2147483648 ≤ (a : Int) + sv c * 2 ^ (7 * k) ∧ (a : Int) + sv c * 2 ^ (7 * k) ≤ 2147483647 := by
  have hs := sv_bd c
  generalize sv c = v at *
  rcases (by omega : k = 0 ∨ k = 1 ∨ k = 2 ∨ k = 3 ∨ k = 4) with rfl | rfl | rfl | rfl | rfl
  all_goals
    simp at ha hc ⊢
    omega
theorem rs_32 (l : List UInt8) : ∀ (i n : Nat), n < 2 ^ (7 * i) → 7 * i < 32 → -2147483648 ≤ (rs 32 l i n).1 ∧ (rs 32 l i n).1 ≤ 2147483647 := by
  induction l with
  | nil => intro i n _ _; simp [rs]
  | cons c r ih =>
    intro i n hn hi
    rw [rs]
    by_cases h1 : 32 - 7 * i < 7 ∧ (128 ≤ c.toNat ∨ sv c.toNat < -2 ^ (32 - 7 * i - 1) ∨ 2 ^ (32 - 7 * i - 1) ≤ sv c.toNat)
    · rw [if_pos h1]; simp
    rw [if_neg h1]
    by_cases h2 : c.toNat < 128
    · rw [if_pos h2]
      exact rs_room32 hi hn (fun hl => ⟨Int.not_lt.1 fun g => h1 ⟨hl, .inr (.inl g)⟩, Int.not_le.1 fun g => h1 ⟨hl, .inr (.inr g)⟩⟩)
    · rw [if_neg h2]
      have hm : 7 * (i + 1) < 32 := by
        by_cases hl : 32 - 7 * i < 7
        · exact absurd ⟨hl, .inl (by omega)⟩ h1
        · omega
      exact ih (i + 1) (n + c.toNat % 128 * 2 ^ (7 * i)) (ru_next hn) hm
theorem sgn_32 (s : ByteArray × Int) : -2147483648 ≤ (sgnM 32 s).1 ∧ (sgnM 32 s).1 ≤ 2147483647 := by
  unfold sgnM
  split
  · simp
  · exact rs_32 s.1.data.toList 0 0 (by decide) (by decide)
theorem num_ix (s : ByteArray × Int) : isIx (numM s).1 = true := by
  have := numM_facts s
  unfold isIx
  exact decide_eq_true ⟨this.1, by omega⟩
theorem take_ix (n : Nat) (s : ByteArray × Int) : (takeM n s).1.all isIx = true := by
  induction n generalizing s with
  | zero => simp [takeM]
  | succ n ih =>
    unfold takeM
    split
    · simp
    · simp only [List.all_cons, num_ix, Bool.true_and]; exact ih _
theorem take_size (n : Nat) (s : ByteArray × Int) : (takeM n s).2.1.size ≤ s.1.size := by
  induction n generalizing s with
  | zero => simp [takeM]
  | succ n ih =>
    unfold takeM
    split
    · exact Nat.le_refl _
    · exact Nat.le_trans (ih _) (numM_facts s).2.2.1
theorem num_good {s : ByteArray × Int} (h : (numM s).2.2 = 0) : s.2 = 0 := Classical.byContradiction fun g => g (by rw [num_keep g] at h; exact h)
theorem take_good {n : Nat} {s : ByteArray × Int} (h : (takeM n s).2.2 = 0) : s.2 = 0 := Classical.byContradiction fun g => g (by rw [take_bad _ _ g] at h; exact h)
theorem say_good {is : Bool} {e : Int} {s : ByteArray × Int} (he : e ≠ 0) (h : (sayM is e s).2 = 0) : is = false ∧ s.2 = 0 := by
  unfold sayM at h
  split at h
  · exact absurd h he
  · next g =>
    refine ⟨?_, h⟩
    cases is with
    | false => rfl
    | true => exact absurd ⟨rfl, h⟩ g
theorem nog_size (s : ByteArray × Int) : (nogM s).1.size ≤ s.1.size := by unfold nogM; rw [say_fst]; exact octM_size s
/-- what was read well is good -/
theorem bes_chk (k : Nat) (hk : 1 ≤ k ∧ k ≤ 9) (s : ByteArray × Int) : ((besM k s).2.2 = 0 → chkI k (besM k s).1.1 (besM k s).1.2.1 (besM k s).1.2.2 = 0) ∧ (-9223372036854775808 ≤ (besM k s).1.1 ∧ (besM k s).1.1 ≤ 9223372036854775807) ∧ (besM k s).2.1.size ≤ s.1.size := by
  have n1 := numM_facts s
  have o1 := octM_size s
  rcases (by omega : k = 1 ∨ k = 2 ∨ k = 3 ∨ k = 4 ∨ k = 5 ∨ k = 6 ∨ k = 7 ∨ k = 8 ∨ k = 9) with rfl | rfl | rfl | rfl | rfl | rfl | rfl | rfl | rfl
  · exact ⟨fun _ => rfl, by show (-9223372036854775808 : Int) ≤ 0 ∧ (0 : Int) ≤ 9223372036854775807; decide, Nat.le_refl _⟩
  · have o2 := octM_lt s
    refine ⟨fun h => ?_, ⟨?_, ?_⟩, ?_⟩
    · have := (say_good (by decide) h).1
      show chkI 2 ((octM s).1 : Int) 0 [] = 0
      generalize (octM s).1 = n at *
      have hn : n = 64 ∨ n = 127 ∨ n = 126 := by
        simp [okK] at this
        omega
      rcases hn with rfl | rfl | rfl <;> decide
    · show (-9223372036854775808 : Int) ≤ ((octM s).1 : Int); omega
    · show ((octM s).1 : Int) ≤ (9223372036854775807 : Int); omega
    · show (sayM (okK (octM s).1) 6 (octM s).2).1.size ≤ s.1.size
      rw [say_fst]; exact o1
  · refine ⟨fun _ => ?_, ⟨?_, ?_⟩, n1.2.2.1⟩
    · show chkI 3 (numM s).1 0 [] = 0
      have := num_ix s
      simp [chkI, okA, okB, okT, this]
    · show (-9223372036854775808 : Int) ≤ (numM s).1; omega
    · show (numM s).1 ≤ (9223372036854775807 : Int); omega
  · generalize hq : takeM (numM s).1.toNat (sayM (decide (16 < (numM s).1)) 2 (numM s).2) = q
    have e : besM 4 s = (((numM q.2).1, 0, q.1), (numM q.2).2) := by
      show (((numM (takeM (numM s).1.toNat (sayM (decide (16 < (numM s).1)) 2 (numM s).2)).2).1, (0 : Int), (takeM (numM s).1.toNat (sayM (decide (16 < (numM s).1)) 2 (numM s).2)).1), (numM (takeM (numM s).1.toNat (sayM (decide (16 < (numM s).1)) 2 (numM s).2)).2).2) = _
      rw [hq]
    rw [e]
    have n2 := numM_facts q.2
    refine ⟨fun h => ?_, ⟨?_, ?_⟩, ?_⟩
    · have h1 := num_good h
      rw [← hq] at h1
      have h2 := (say_good (by decide) (take_good h1)).1
      have h3 : (numM s).1 ≤ 16 := by simpa using h2
      have h4 : q.1.length ≤ 16 := by
        have := take_len (numM s).1.toNat (sayM (decide (16 < (numM s).1)) 2 (numM s).2)
        rw [hq] at this
        omega
      have h5 : q.1.all isIx = true := by rw [← hq]; exact take_ix _ _
      have h6 := num_ix q.2
      show chkI 4 (numM q.2).1 0 q.1 = 0
      rw [chk_rest (by decide) (by omega)]
      simp only [okA, okB, okT]
      rw [if_pos]
      simp only [Bool.and_eq_true]
      refine ⟨⟨?_, ?_⟩, ?_⟩
      · simpa using h6
      · simp
      · simpa using h5
    · show (-9223372036854775808 : Int) ≤ (numM q.2).1; omega
    · show (numM q.2).1 ≤ (9223372036854775807 : Int); omega
    · have h7 := take_size (numM s).1.toNat (sayM (decide (16 < (numM s).1)) 2 (numM s).2)
      rw [hq, say_fst] at h7
      show (numM q.2).2.1.size ≤ s.1.size
      omega
  · refine ⟨fun _ => ?_, ⟨?_, ?_⟩, ?_⟩
    · show chkI 5 (numM s).1 0 [] = 0
      have := num_ix s
      simp [chkI, okA, okB, okT, this]
    · show (-9223372036854775808 : Int) ≤ (numM s).1; omega
    · show (numM s).1 ≤ (9223372036854775807 : Int); omega
    · show (nogM (numM s).2).1.size ≤ s.1.size
      have := nog_size (numM s).2; omega
  · have n2 := numM_facts (numM s).2
    refine ⟨fun _ => ?_, ⟨?_, ?_⟩, ?_⟩
    · show chkI 6 (numM s).1 (numM (numM s).2).1 [] = 0
      have := num_ix s
      have := num_ix (numM s).2
      simp [chkI, okA, okB, okT, *]
    · show (-9223372036854775808 : Int) ≤ (numM s).1; omega
    · show (numM s).1 ≤ (9223372036854775807 : Int); omega
    · show (numM (numM s).2).2.1.size ≤ s.1.size; omega
  · exact ⟨fun _ => rfl, by show (-9223372036854775808 : Int) ≤ 0 ∧ (0 : Int) ≤ 9223372036854775807; decide, nog_size s⟩
  · have g := sgn_32 s
    refine ⟨fun _ => ?_, ⟨?_, ?_⟩, ?_⟩
    · show chkI 8 (sgnM 32 s).1 0 [] = 0
      simp [chkI, okA, okB, okT, g]
    · show (-9223372036854775808 : Int) ≤ (sgnM 32 s).1; omega
    · show (sgnM 32 s).1 ≤ (9223372036854775807 : Int); omega
    · exact (sgnM_facts (.inl rfl) s).2.2
  · have g := sgnM_facts (.inr rfl) s
    refine ⟨fun _ => ?_, ⟨?_, ?_⟩, ?_⟩
    · show chkI 9 (sgnM 64 s).1 0 [] = 0
      simp [chkI, okA, okB, okT]
    · exact g.1
    · exact g.2.1
    · exact g.2.2
/-- the instruction that a text begins with -/
def rdX (t : ByteArray) : It := ⟨(rdI t).1, (rdI t).2.1.1, (rdI t).2.1.2.1, (rdI t).2.1.2.2⟩
theorem rd_well (t : ByteArray) (h : (rdI t).2.2.2 = 0) : ItOk (rdX t) ∧ itC (rdX t) = 0 ∧ (rdI t).2.2.1.size ≤ t.size := by
  have hlt := octM_lt (t, 0)
  have h9 := tB_le ⟨_, hlt⟩
  have hsz := octM_size (t, 0)
  simp only at h9 hsz
  unfold rdX itC ItOk
  unfold rdI at h ⊢
  simp only at h ⊢
  by_cases hs : (sayM (decide (tB (octM (t, 0)).1 = 0)) 6 (octM (t, 0)).2).2 = 0
  · rw [if_pos hs] at h ⊢
    have h1 := say_good (by decide) hs
    have hk : tB (octM (t, 0)).1 ≠ 0 := by simpa using h1.1
    have hb := bes_chk (tB (octM (t, 0)).1) ⟨by omega, h9⟩ (sayM (decide (tB (octM (t, 0)).1 = 0)) 6 (octM (t, 0)).2)
    refine ⟨⟨hlt, hb.2.1⟩, hb.1 h, ?_⟩
    have := hb.2.2
    rw [say_fst] at this
    omega
  · rw [if_neg hs] at h
    exact absurd h hs
/-- a body's Read: so many rounds at most; what was read; where; what is open -/
def rlM (t : ByteArray) : Nat → List It → Nat → Stk → Int × Nat × List It
  | 0, _, _, _ => (2, 0, [])
  | f + 1, l, a, T =>
    if (rdI (left t a)).2.2.2 ≠ 0 then ((rdI (left t a)).2.2.2, 0, [])
    else if l.length = 200 then (2, 0, [])
    else if (wnext (T, false) (rdX (left t a)).op l.length).1.2 ≠ 0 then ((wnext (T, false) (rdX (left t a)).op l.length).1.2, 0, [])
    else if (wnext (T, false) (rdX (left t a)).op l.length).2.2 = true then (0, t.size - (rdI (left t a)).2.2.1.size, l ++ [rdX (left t a)])
    else rlM t f (l ++ [rdX (left t a)]) (t.size - (rdI (left t a)).2.2.1.size) (wnext (T, false) (rdX (left t a)).op l.length).2.1
section
variable {t : ByteArray} {f a : Nat} {l : List It} {T : Stk}
theorem rl_bad (h : (rdI (left t a)).2.2.2 ≠ 0) : rlM t (f + 1) l a T = ((rdI (left t a)).2.2.2, 0, []) := by rw [rlM, if_pos h]
theorem rl_large (h : (rdI (left t a)).2.2.2 = 0) (h2 : l.length = 200) : rlM t (f + 1) l a T = (2, 0, []) := by rw [rlM, if_neg (by simp [h]), if_pos h2]
theorem rl_wrong (h : (rdI (left t a)).2.2.2 = 0) (h2 : l.length ≠ 200) (h3 : (wnext (T, false) (rdX (left t a)).op l.length).1.2 ≠ 0) : rlM t (f + 1) l a T = ((wnext (T, false) (rdX (left t a)).op l.length).1.2, 0, []) := by rw [rlM, if_neg (by simp [h]), if_neg h2, if_pos h3]
theorem rl_over (h : (rdI (left t a)).2.2.2 = 0) (h2 : l.length ≠ 200) (h3 : (wnext (T, false) (rdX (left t a)).op l.length).1.2 = 0) (h4 : (wnext (T, false) (rdX (left t a)).op l.length).2.2 = true) : rlM t (f + 1) l a T = (0, t.size - (rdI (left t a)).2.2.1.size, l ++ [rdX (left t a)]) := by rw [rlM, if_neg (by simp [h]), if_neg h2, if_neg (by simp [h3]), if_pos h4]
theorem rl_next (h : (rdI (left t a)).2.2.2 = 0) (h2 : l.length ≠ 200) (h3 : (wnext (T, false) (rdX (left t a)).op l.length).1.2 = 0) (h4 : (wnext (T, false) (rdX (left t a)).op l.length).2.2 = false) : rlM t (f + 1) l a T = rlM t f (l ++ [rdX (left t a)]) (t.size - (rdI (left t a)).2.2.1.size) (wnext (T, false) (rdX (left t a)).op l.length).2.1 := by rw [rlM, if_neg (by simp [h]), if_neg h2, if_neg (by simp [h3]), if_neg (by simp [h4])]
end
/-- a list that passes so far: what is open behind it -/
def Way (l : List It) (T : Stk) : Prop := ∀ r, chkR itC It.op (l ++ r) 0 ([(-1, 2)], false) = chkR itC It.op r l.length (T, false)
theorem way_nil : Way [] [(-1, 2)] := fun _ => rfl
theorem Way.next {l : List It} {T : Stk} (h : Way l T) {x : It} (hc : itC x = 0) (h3 : (wnext (T, false) x.op l.length).1.2 = 0) (h4 : (wnext (T, false) x.op l.length).2.2 = false) : Way (l ++ [x]) (wnext (T, false) x.op l.length).2.1 := by
  intro r
  rw [List.append_assoc, List.singleton_append, h, chkR, if_neg (by simp [hc]), if_neg (by simp [h3]), List.length_append, List.length_singleton]
  generalize wnext (T, false) x.op l.length = q at *
  obtain ⟨⟨a, b⟩, c, d⟩ := q
  simp only at h4
  rw [h4]
theorem wn_errs (T : Stk) (op : Nat) (k : Int) : (wnext (T, false) op k).1.2 = 0 ∨ (wnext (T, false) op k).1.2 = 4 ∨ (wnext (T, false) op k).1.2 = 7 := by
  unfold wnext
  rw [if_neg (by simp)]
  split
  · split <;> simp
  split
  · split
    · split <;> simp
    · simp
  split
  · split <;> simp
  · simp
/-- the check of the list with one more -/
theorem Way.check {l : List It} {T : Stk} (h : Way l T) {x : It} (hc : itC x = 0) (hl : l.length < 200) : ncM (l ++ [x]) = if (wnext (T, false) x.op l.length).1.2 ≠ 0 then (wnext (T, false) x.op l.length).1.2 else if (wnext (T, false) x.op l.length).2.2 = true then 0 else 3 := by
  unfold ncM
  rw [if_neg (by simp; omega), h, chkR, if_neg (by simp [hc])]
  rfl
end Go.Proofs.YtakfineljffoaaaGreatDoor
