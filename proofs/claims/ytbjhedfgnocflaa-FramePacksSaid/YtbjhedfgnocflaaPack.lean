/-
  PACKAGE frame AND ITS REFERENCE: Pack, Unpack.
-/
import Derived.Test.YtbjhedfgnocflaaStrs
namespace Go.Proofs.Ytbjhedfgnocflaa
open Go.RowKit Go.Lib

structure Sig where
  k : Int
  fn : Int
  fm : Int
  tn : Int
  tm : Int
  r : Int
  y : Int
  g : Int
  body : ByteArray

def sigV (s : Sig) : Value := .agg #[.int .i64 s.k, .int .i64 s.fn, .int .i64 s.fm, .int .i64 s.tn, .int .i64 s.tm, .int .i64 s.r, .int .i64 s.y, .int .i64 s.g, .string s.body]
def inR (lo hi n : Int) : Prop := lo ≤ n ∧ n ≤ hi
instance (lo hi n : Int) : Decidable (inR lo hi n) := by unfold inR; infer_instance

theorem in_no {lo hi n : Int} (h : n < lo ∨ hi < n) : decide (inR lo hi n) = false := decide_eq_false (by unfold inR; omega)
theorem in_yes {lo hi n : Int} (h : lo ≤ n) (h2 : n ≤ hi) : decide (inR lo hi n) = true := decide_eq_true ⟨h, h2⟩

set_option maxRecDepth 100000 in
theorem isNode_any (n : Int) (w : World) : Calls Try.prog 110 #[.int .i64 n] w fun e w' => e = .returned (.bool (decide (inR 0 2 n))) ∧ w = w' := by
  by_cases h : n < 0
  · rw [in_no (.inl h)]
    go_enter Try.func110, Try.ntmps110
    go_wp2_with fail
    go_ret
    exact ⟨retB (by simp <;> omega), rfl⟩
  · have h1 : 0 ≤ n := by omega
    have e : decide (inR 0 2 n) = decide (n < 3) := decide_eq_decide.2 (by unfold inR; omega)
    rw [e]
    go_enter Try.func110, Try.ntmps110
    go_wp2_with fail
    go_ret
    exact ⟨retB (by simp <;> omega), rfl⟩

set_option maxRecDepth 100000 in
theorem isOctet_any (n : Int) (w : World) : Calls Try.prog 106 #[.int .i64 n] w fun e w' => e = .returned (.bool (decide (inR 0 255 n))) ∧ w = w' := by
  by_cases h : n < 0
  · rw [in_no (.inl h)]
    go_enter Try.func106, Try.ntmps106
    go_wp2_with fail
    go_ret
    exact ⟨retB (by simp <;> omega), rfl⟩
  · have h1 : 0 ≤ n := by omega
    have e : decide (inR 0 255 n) = decide (n ≤ 255) := decide_eq_decide.2 (by unfold inR; omega)
    rw [e]
    go_enter Try.func106, Try.ntmps106
    go_wp2_with fail
    go_ret
    exact ⟨retB (by simp <;> omega), rfl⟩

set_option maxRecDepth 100000 in
theorem isPid_any (a b : Int) (w : World) : Calls Try.prog 105 #[.agg #[.int .i64 a, .int .i64 b]] w fun e w' => e = .returned (.bool (decide (inR 0 2 a) && decide (inR 1 16 b))) ∧ w' = w.alloc (.cells #[.int .i64 a, .int .i64 b] 38) := by
  have H := fun w' => isNode_any a w'
  have HN := hid H
  clear H
  by_cases ha : inR 0 2 a
  · rw [decide_eq_true ha] at *
    have H2 : ∀ w', Calls Try.prog 110 #[.int .i64 a] w' fun e w'' => e = .returned (.bool true) ∧ w' = w'' := fun w' => by rw [← decide_eq_true ha]; exact isNode_any a w'
    have HN := hid H2
    clear H2
    by_cases hb : b < 1
    · rw [in_no (.inl hb)]
      go_enter Try.func105, Try.ntmps105
      go_wp2_with fail
      refine (HN.out _).mono ?_
      rintro e w1 ⟨rfl, rfl⟩
      go_wp2_with fail
      go_ret
      exact ⟨retB (by simp <;> omega), rfl⟩
    · have h1 : 1 ≤ b := by omega
      have e : decide (inR 1 16 b) = decide (b ≤ 16) := decide_eq_decide.2 (by unfold inR; omega)
      rw [e]
      go_enter Try.func105, Try.ntmps105
      go_wp2_with fail
      refine (HN.out _).mono ?_
      rintro e w1 ⟨rfl, rfl⟩
      go_wp2_with fail
      go_ret
      exact ⟨retB (by simp <;> omega), rfl⟩
  · have H2 : ∀ w', Calls Try.prog 110 #[.int .i64 a] w' fun e w'' => e = .returned (.bool false) ∧ w' = w'' := fun w' => by rw [← decide_eq_false ha]; exact isNode_any a w'
    have HN := hid H2
    clear H2
    rw [decide_eq_false ha]
    go_enter Try.func105, Try.ntmps105
    go_wp2_with fail
    refine (HN.out _).mono ?_
    rintro e w1 ⟨rfl, rfl⟩
    go_wp2_with fail
    go_ret
    exact ⟨retB (by simp <;> omega), rfl⟩

/-- the eight numbers are in their ranges -/
def sigOk (s : Sig) : Prop := inR 1 6 s.k ∧ (inR 0 2 s.fn ∧ inR 1 16 s.fm) ∧ (inR 0 2 s.tn ∧ inR 1 16 s.tm) ∧ inR 0 255 s.r ∧ inR 0 255 s.y ∧ inR 0 255 s.g
instance (s : Sig) : Decidable (sigOk s) := by unfold sigOk; infer_instance
def chkF (s : Sig) : Int := if sigOk s then (if 32 < s.body.size then 2 else 0) else 1

theorem chk_cases (s : Sig) : (chkF s = 1 ∧ (s.k < 1 ∨ (1 ≤ s.k ∧ 6 < s.k) ∨ (1 ≤ s.k ∧ s.k ≤ 6 ∧ ((decide (inR 0 2 s.fn) && decide (inR 1 16 s.fm)) = false ∨ ((decide (inR 0 2 s.fn) && decide (inR 1 16 s.fm)) = true ∧ ((decide (inR 0 2 s.tn) && decide (inR 1 16 s.tm)) = false ∨ ((decide (inR 0 2 s.tn) && decide (inR 1 16 s.tm)) = true ∧ (decide (inR 0 255 s.r) = false ∨ (decide (inR 0 255 s.r) = true ∧ (decide (inR 0 255 s.y) = false ∨ (decide (inR 0 255 s.y) = true ∧ decide (inR 0 255 s.g) = false)))))))))))
    ∨ (chkF s = (if 32 < s.body.size then 2 else 0) ∧ 1 ≤ s.k ∧ s.k ≤ 6 ∧ (decide (inR 0 2 s.fn) && decide (inR 1 16 s.fm)) = true ∧ (decide (inR 0 2 s.tn) && decide (inR 1 16 s.tm)) = true ∧ decide (inR 0 255 s.r) = true ∧ decide (inR 0 255 s.y) = true ∧ decide (inR 0 255 s.g) = true) := by
  unfold chkF
  simp only [Bool.and_eq_true, Bool.and_eq_false_iff, decide_eq_true_eq, decide_eq_false_iff_not]
  by_cases h : sigOk s
  · right
    rw [if_pos h]
    obtain ⟨h1, h2, h3, h4, h5, h6⟩ := h
    exact ⟨rfl, h1.1, h1.2, h2, h3, h4, h5, h6⟩
  · left
    rw [if_neg h]
    refine ⟨rfl, ?_⟩
    unfold sigOk at h
    by_cases h1 : s.k < 1
    · exact .inl h1
    by_cases h2 : 6 < s.k
    · exact .inr (.inl ⟨by omega, h2⟩)
    refine .inr (.inr ⟨by omega, by omega, ?_⟩)
    have hk : inR 1 6 s.k := ⟨by omega, by omega⟩
    by_cases a1 : inR 0 2 s.fn <;> by_cases a2 : inR 1 16 s.fm <;> by_cases a3 : inR 0 2 s.tn <;> by_cases a4 : inR 1 16 s.tm <;> by_cases a5 : inR 0 255 s.r <;> by_cases a6 : inR 0 255 s.y <;> by_cases a7 : inR 0 255 s.g <;> simp_all

set_option maxRecDepth 100000 in
set_option maxHeartbeats 4000000 in
theorem check_any (s : Sig) (w : World) : Calls Try.prog 75 #[sigV s] w fun e w' => e = .returned (.int .i64 (chkF s)) ∧ Below w.heap.size w w' := by
  have hc := chk_cases s
  obtain ⟨k, fn, fm, tn, tm, r, y, g, body⟩ := s
  simp only [sigV] at *
  obtain ⟨c, hcc⟩ : ∃ c, chkF ⟨k, fn, fm, tn, tm, r, y, g, body⟩ = c := ⟨_, rfl⟩
  rw [hcc] at hc ⊢
  clear hcc
  have P1 := fun w' => isPid_any fn fm w'
  have P2 := fun w' => isPid_any tn tm w'
  have O1' := fun w' => isOctet_any r w'
  have O2' := fun w' => isOctet_any y w'
  have O3' := fun w' => isOctet_any g w'
  generalize (decide (inR 0 2 fn) && decide (inR 1 16 fm)) = b1 at *
  generalize (decide (inR 0 2 tn) && decide (inR 1 16 tm)) = b2 at *
  generalize decide (inR 0 255 r) = b3 at *
  generalize decide (inR 0 255 y) = b4 at *
  generalize decide (inR 0 255 g) = b5 at *
  have H1 := hid P1
  have H2 := hid P2
  have H3 := hid O1'
  have H4 := hid O2'
  have H5 := hid O3'
  clear P1 P2 O1' O2' O3'
  rcases hc with ⟨rfl, h | ⟨ha, h⟩ | ⟨ha, hb, rfl | ⟨rfl, rfl | ⟨rfl, rfl | ⟨rfl, rfl | ⟨rfl, rfl⟩⟩⟩⟩⟩⟩ | ⟨hc, ha, hb, rfl, rfl, rfl, rfl, rfl⟩
  all_goals try
    go_enter Try.func75, Try.ntmps75
    go_wp2_with fail
    (try (refine (H1.out _).mono ?_; rintro e w1 ⟨rfl, rfl⟩; go_wp2_with fail))
    (try (refine (H2.out _).mono ?_; rintro e w1 ⟨rfl, rfl⟩; go_wp2_with fail))
    (try (refine (H3.out _).mono ?_; rintro e w1 ⟨rfl, rfl⟩; go_wp2_with fail))
    (try (refine (H4.out _).mono ?_; rintro e w1 ⟨rfl, rfl⟩; go_wp2_with fail))
    (try (refine (H5.out _).mono ?_; rintro e w1 ⟨rfl, rfl⟩; go_wp2_with fail))
    go_ret
    refine ⟨rfl, ?_⟩
    repeat (first | exact Below.refl _ _ | refine Below.alloc ?_ (by simp <;> omega) _)
  by_cases hl : 32 < body.size
  · rw [if_pos hl] at hc
    have hl2 : (32 : Int) < (body.size : Int) := by omega
    subst hc
    go_enter Try.func75, Try.ntmps75
    go_wp2_with fail
    refine (H1.out _).mono ?_; rintro e w1 ⟨rfl, rfl⟩; go_wp2_with fail
    refine (H2.out _).mono ?_; rintro e w1 ⟨rfl, rfl⟩; go_wp2_with fail
    refine (H3.out _).mono ?_; rintro e w1 ⟨rfl, rfl⟩; go_wp2_with fail
    refine (H4.out _).mono ?_; rintro e w1 ⟨rfl, rfl⟩; go_wp2_with fail
    refine (H5.out _).mono ?_; rintro e w1 ⟨rfl, rfl⟩; go_wp2_with fail
    go_ret
    refine ⟨rfl, ?_⟩
    repeat (first | exact Below.refl _ _ | refine Below.alloc ?_ (by simp <;> omega) _)
  · rw [if_neg hl] at hc
    have hl2 : (body.size : Int) ≤ 32 := by omega
    subst hc
    go_enter Try.func75, Try.ntmps75
    go_wp2_with fail
    refine (H1.out _).mono ?_; rintro e w1 ⟨rfl, rfl⟩; go_wp2_with fail
    refine (H2.out _).mono ?_; rintro e w1 ⟨rfl, rfl⟩; go_wp2_with fail
    refine (H3.out _).mono ?_; rintro e w1 ⟨rfl, rfl⟩; go_wp2_with fail
    refine (H4.out _).mono ?_; rintro e w1 ⟨rfl, rfl⟩; go_wp2_with fail
    refine (H5.out _).mono ?_; rintro e w1 ⟨rfl, rfl⟩; go_wp2_with fail
    go_ret
    refine ⟨rfl, ?_⟩
    repeat (first | exact Below.refl _ _ | refine Below.alloc ?_ (by simp <;> omega) _)

/-- what Pack gives -/
def packL (s : Sig) : List Int := [s.k, s.fn, s.fm, s.tn, s.tm, s.r, s.y, s.g]
def packF (s : Sig) : ByteArray × Int := if chkF s = 0 then (S ((packL s).map byteOf ++ s.body.data.toList), 0) else (⟨#[]⟩, chkF s)

/-- the numbers that Pack appends, in a round -/
theorem pk_step (s : Sig) (k : Nat) (x : Int) (h : (packL s)[k]? = some x) : ((packL s).take k).map (· % 256) ++ [x % 256] = ((packL s).take (k + 1)).map (· % 256) := by
  rw [List.take_add_one, h]
  simp
theorem pk_bytes (l : List Int) : (l.map (· % 256)).map (fun n => UInt8.ofNat n.toNat) = l.map byteOf := by
  rw [List.map_map]
  rfl

set_option maxRecDepth 100000 in
theorem idx_sig (k fn fm tn tm r y g : Int) (wr : World) :
    (Instr.index 133 (.agg #[.int .i64 k, .int .i64 fn, .int .i64 fm, .int .i64 tn, .int .i64 tm, .int .i64 r, .int .i64 y, .int .i64 g]) (.int .i64 0)).run Try.prog wr = .ok (.int .i64 k) wr ∧
    (Instr.index 133 (.agg #[.int .i64 k, .int .i64 fn, .int .i64 fm, .int .i64 tn, .int .i64 tm, .int .i64 r, .int .i64 y, .int .i64 g]) (.int .i64 1)).run Try.prog wr = .ok (.int .i64 fn) wr ∧
    (Instr.index 133 (.agg #[.int .i64 k, .int .i64 fn, .int .i64 fm, .int .i64 tn, .int .i64 tm, .int .i64 r, .int .i64 y, .int .i64 g]) (.int .i64 2)).run Try.prog wr = .ok (.int .i64 fm) wr ∧
    (Instr.index 133 (.agg #[.int .i64 k, .int .i64 fn, .int .i64 fm, .int .i64 tn, .int .i64 tm, .int .i64 r, .int .i64 y, .int .i64 g]) (.int .i64 3)).run Try.prog wr = .ok (.int .i64 tn) wr ∧
    (Instr.index 133 (.agg #[.int .i64 k, .int .i64 fn, .int .i64 fm, .int .i64 tn, .int .i64 tm, .int .i64 r, .int .i64 y, .int .i64 g]) (.int .i64 4)).run Try.prog wr = .ok (.int .i64 tm) wr ∧
    (Instr.index 133 (.agg #[.int .i64 k, .int .i64 fn, .int .i64 fm, .int .i64 tn, .int .i64 tm, .int .i64 r, .int .i64 y, .int .i64 g]) (.int .i64 5)).run Try.prog wr = .ok (.int .i64 r) wr ∧
    (Instr.index 133 (.agg #[.int .i64 k, .int .i64 fn, .int .i64 fm, .int .i64 tn, .int .i64 tm, .int .i64 r, .int .i64 y, .int .i64 g]) (.int .i64 6)).run Try.prog wr = .ok (.int .i64 y) wr ∧
    (Instr.index 133 (.agg #[.int .i64 k, .int .i64 fn, .int .i64 fm, .int .i64 tn, .int .i64 tm, .int .i64 r, .int .i64 y, .int .i64 g]) (.int .i64 7)).run Try.prog wr = .ok (.int .i64 g) wr := by
  refine ⟨?_, ?_, ?_, ?_, ?_, ?_, ?_, ?_⟩ <;> rfl

set_option maxRecDepth 100000 in
set_option maxHeartbeats 4000000 in
theorem pack_any (s : Sig) (w : World) (hb : s.body.size ≤ 140737488351232) : Calls Try.prog 24 #[sigV s] w fun e w' => e = .returned (.tuple #[.string (packF s).1, .int .i64 (packF s).2]) ∧ Below w.heap.size w w' := by
  have hc := fun w' => check_any s w'
  unfold packF
  have h32 : chkF s = 0 → s.body.size ≤ 32 := by
    intro h
    unfold chkF at h
    split at h
    · split at h
      · simp at h
      · omega
    · simp at h
  generalize chkF s = c at *
  have HC := hid hc
  clear hc
  by_cases h0 : c = 0
  · subst h0
    rw [if_pos rfl]
    have hl := h32 rfl
    clear h32 hb
    obtain ⟨k, fn, fm, tn, tm, r, y, g, body⟩ := s
    have HP := hid (pk_step ⟨k, fn, fm, tn, tm, r, y, g, body⟩)
    simp only [sigV] at *
    obtain ⟨L, hL⟩ : ∃ L, packL ⟨k, fn, fm, tn, tm, r, y, g, body⟩ = L := ⟨_, rfl⟩
    have hL2 : L = [k, fn, fm, tn, tm, r, y, g] := by rw [← hL]; rfl
    rw [hL] at HP ⊢
    have HL := hid hL2
    clear hL hL2
    go_enter Try.func24, Try.ntmps24
    go_wp2_with fail
    refine (HC.out _).mono ?_
    rintro e w1 ⟨rfl, hb1⟩
    have q0 := box_cell hb1 0 rfl
    have q1 := box_cell hb1 1 rfl
    have q2 := box_cell hb1 2 rfl
    have q3 := box_cell hb1 3 rfl
    have q4 := box_cell hb1 4 rfl
    have q5 := box_cell hb1 5 rfl
    have q6 := box_cell hb1 6 rfl
    have q7 := box_cell hb1 7 rfl
    have q8 := box_cell hb1 8 rfl
    have hsz := hb1.size
    simp only [World.size_alloc] at hsz
    have hbw : Below w.heap.size w w1 := ((Below.refl _ _).alloc (Nat.le_refl _) _).trans (hb1.mono (by simp))
    go_wp2_with fail
    go_loopw [5, 34] (fun o i wr => ∃ j : Nat, j ≤ 8 ∧ i = .int .i64 j ∧ OwnI wr w1.heap.size .u8 5 o ((L.take j).map (· % 256)) ∧ Below w1.heap.size w1 wr ∧ Hid (j ≤ 8 ∧ ((L.take j).map (· % 256)).length = j)) (fun _ i _ => 8 - (intOf i).toNat)
    case atStart => exact ⟨0, by omega, rfl, by simp; exact OwnI.nil _ _ _ _, Below.refl _ _, by simp [Hid]⟩
    case round =>
      obtain ⟨j, hj, rfl, hown, hbel, hlen⟩ := hrel
      have hl2 := hlen.out.2
      have hs2 := hbel.size
      have hcs : j = 0 ∨ j = 1 ∨ j = 2 ∨ j = 3 ∨ j = 4 ∨ j = 5 ∨ j = 6 ∨ j = 7 ∨ j = 8 := by omega
      clear hj
      obtain ⟨i0, i1, i2, i3, i4, i5, i6, i7⟩ := idx_sig k fn fm tn tm r y g wr
      rcases hcs with rfl | rfl | rfl | rfl | rfl | rfl | rfl | rfl | rfl
      case inr.inr.inr.inr.inr.inr.inr.inr =>
        have p8 := hbel.cell (p := ⟨w.heap.size, 8, none⟩) (World.block_lt_of_cell? _ ⟨w.heap.size, 8, none⟩ q8)
        rw [q8] at p8
        go_wp2_with (at_builtin; go_must (refine app_str elem_u8 Try.underlying9 (base := w1.heap.size) rfl (.tmp 43) (.tmp 45) rfl rfl rfl hown (by omega) (by omega) ?_); intro v' w' ho hbel2; have hcv := conv_bytes ho.ints; rw [List.map_append, nums_bytes, pk_bytes, show L.take 8 = L by rw [HL.out]; rfl] at hcv)
        go_ret2
        exact ⟨rfl, hbw.trans ((hbel.trans hbel2).mono (by omega))⟩
      all_goals
        go_wp2_with (at_builtin; go_must (refine app_int elem_u8 (base := w1.heap.size) rfl (.tmp 37) (.tmp 40) rfl rfl rfl (by simp) hown (by omega) (by omega) (by omega) ?_); intro v' w' ho hbel2 _)
        go_roundw
        case rel => first | exact ⟨1, by omega, by go_num, by rw [← HP.out 0 _ (by rw [HL.out]; rfl)]; exact ho, hbel.trans hbel2, by show _ ∧ _; rw [HL.out]; simp⟩ | exact ⟨2, by omega, by go_num, by rw [← HP.out 1 _ (by rw [HL.out]; rfl)]; exact ho, hbel.trans hbel2, by show _ ∧ _; rw [HL.out]; simp⟩ | exact ⟨3, by omega, by go_num, by rw [← HP.out 2 _ (by rw [HL.out]; rfl)]; exact ho, hbel.trans hbel2, by show _ ∧ _; rw [HL.out]; simp⟩ | exact ⟨4, by omega, by go_num, by rw [← HP.out 3 _ (by rw [HL.out]; rfl)]; exact ho, hbel.trans hbel2, by show _ ∧ _; rw [HL.out]; simp⟩ | exact ⟨5, by omega, by go_num, by rw [← HP.out 4 _ (by rw [HL.out]; rfl)]; exact ho, hbel.trans hbel2, by show _ ∧ _; rw [HL.out]; simp⟩ | exact ⟨6, by omega, by go_num, by rw [← HP.out 5 _ (by rw [HL.out]; rfl)]; exact ho, hbel.trans hbel2, by show _ ∧ _; rw [HL.out]; simp⟩ | exact ⟨7, by omega, by go_num, by rw [← HP.out 6 _ (by rw [HL.out]; rfl)]; exact ho, hbel.trans hbel2, by show _ ∧ _; rw [HL.out]; simp⟩ | exact ⟨8, by omega, by go_num, by rw [← HP.out 7 _ (by rw [HL.out]; rfl)]; exact ho, hbel.trans hbel2, by show _ ∧ _; rw [HL.out]; simp⟩
        case measure => simp [intOf]
  · rw [if_neg h0]
    have hne : (c != 0) = true := by simp [h0]
    simp only [sigV] at *
    go_enter Try.func24, Try.ntmps24
    go_wp2_with fail
    refine (HC.out _).mono ?_
    rintro e w1 ⟨rfl, hb1⟩
    go_wp2_with fail
    go_ret2
    exact ⟨rfl, ((Below.refl _ _).alloc (Nat.le_refl _) _).trans (hb1.mono (by simp))⟩

/-! ### the reference -/
def lows : List Int := [1, 0, 1, 0, 1, 0, 0, 0]
def highs : List Int := [6, 2, 16, 2, 16, 255, 255, 255]

set_option maxRecDepth 100000 in
theorem outside_any (n lo hi : Int) (w : World) : Calls Try.prog 76 #[.int .i64 n, .int .i64 lo, .int .i64 hi] w fun e w' => e = .returned (.bool (!decide (inR lo hi n))) ∧ w = w' := by
  by_cases h : n < lo
  · rw [in_no (.inl h)]
    go_enter Try.func76, Try.ntmps76
    go_wp2_with fail
    go_ret
    exact ⟨retB (by simp <;> omega), rfl⟩
  · have h1 : lo ≤ n := by omega
    have e : (!decide (inR lo hi n)) = decide (hi < n) := by
      by_cases h2 : hi < n
      · rw [in_no (.inr h2)]; simp [h2]
      · rw [in_yes h1 (by omega)]; simp [h2]
    rw [e]
    go_enter Try.func76, Try.ntmps76
    go_wp2_with fail
    go_ret
    exact ⟨retB (by simp <;> omega), rfl⟩

end Go.Proofs.Ytbjhedfgnocflaa
