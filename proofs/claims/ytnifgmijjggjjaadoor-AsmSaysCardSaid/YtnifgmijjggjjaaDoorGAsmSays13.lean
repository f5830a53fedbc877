/-
  strings.Cut AT A SEPARATOR OF ONE LETTER. Condition: the letter is there, behind a piece that lacks it; sizes in the form's reach.
-/
import Derived.Test.YtnifgmijjggjjaaDoorRowK
import Derived.Test.YtnifgmijjggjjaaDoorGAsmSays6
import Derived.Lib.Bytealg
import Derived.Lib.IndexLaws
import Derived.Laws.Externs
import Derived.Deep.RegionHeld3
import Derived.IntWalk
namespace Go.Proofs.YtnifgmijjggjjaaDoor
open Go.RowKit Go.Lib

set_option maxRecDepth 100000 in
set_option maxHeartbeats 1000000 in
theorem indexByte_any (s : ByteArray) (c : Int) (w : World) :
    Calls Tryd.prog 51 #[.string s, .int .u8 c] w fun e w' => e = .returned (.int .i64 (Lib.indexByte s.data.toList c.toNat.toUInt8)) ∧ w = w' := by
  go_enter Tryd.func51, Tryd.ntmps51
  go_wp2
  rw [run_callFunc_extern Tryd.func64 (by kernel_rfl) (by kernel_rfl) (by kernel_rfl) (e := Extern.BytealgIndexByte.indexByte) (by kernel_rfl), Lib.run_indexByteString]
  simp only [Result.andThen]
  rw [Oper.upon_value]
  go_wp2
  go_ret
  exact ⟨rfl, rfl⟩
theorem indexByte_at {a b : List UInt8} {c : UInt8} (h : ∀ x ∈ a, x ≠ c) : Lib.indexByte (a ++ c :: b) c = a.length := by
  induction a with
  | nil => simp [Lib.indexByte]
  | cons x r ih =>
    have hx : (x == c) = false := by simpa using h x (by simp)
    have := ih (fun y hy => h y (by simp [hy]))
    rw [List.cons_append, Lib.indexByte, hx, this]
    have hn : ((r.length : Int) == -1) = false := by rw [beq_eq_false_iff_ne]; omega
    simp only [Bool.false_eq_true, if_false, hn]
    rw [List.length_cons]
    omega
set_option maxRecDepth 100000 in
set_option maxHeartbeats 1000000 in
theorem index1_any (s : ByteArray) (c : UInt8) (w : World) (hs : s.size ≤ 140737488351232) (h2 : 2 ≤ s.size) :
    Calls Tryd.prog 39 #[.string s, .string ⟨#[c]⟩] w fun e w' => e = .returned (.int .i64 (Lib.indexByte s.data.toList c)) ∧ w = w' := by
  have H := hid (indexByte_any s (c.toNat : Int) w)
  rw [show ((c.toNat : Int)).toNat.toUInt8 = c from by simp] at H
  have hne : ([c] == s.toList) = false := by
    rw [beq_eq_false_iff_ne]
    intro e
    have h3 := congrArg List.length e
    rw [Go.ByteArray.toList_eq] at h3
    have h4 : s.data.toList.length = s.size := rfl
    simp at h3
    omega
  go_enter Tryd.func39, Tryd.ntmps39
  go_wp2_with fail
  refine H.out.mono ?_
  rintro e w1 ⟨rfl, rfl⟩
  go_wp2_with fail
  go_ret
  exact ⟨rfl, rfl⟩

theorem cutS (a b : List UInt8) (c : UInt8) : (S (a ++ c :: b)).extract 0 a.length = S a ∧ (S (a ++ c :: b)).extract (a.length + 1) (S (a ++ c :: b)).size = S b := by
  constructor
  · apply ByteArray.ext
    simp [S]
  · apply ByteArray.ext
    simp [S, ByteArray.size]
    exact List.take_of_length_le (by omega)
set_option maxRecDepth 100000 in
set_option maxHeartbeats 1000000 in
theorem cut1_any (a b : List UInt8) (c : UInt8) (h : ∀ x ∈ a, x ≠ c) (w : World) (hs : (a ++ c :: b).length ≤ 140737488351232) (h2 : 0 < (a ++ b).length) :
    Calls Tryd.prog 24 #[.string (S (a ++ c :: b)), .string ⟨#[c]⟩] w fun e w' => e = .returned (.tuple #[.string (S a), .string (S b), .bool true]) ∧ Below w.heap.size w w' := by
  have hl : (a ++ c :: b).length = a.length + 1 + b.length := by simp; omega
  have hsz : (S (a ++ c :: b)).size = a.length + 1 + b.length := by rw [S_size, hl]
  have h1 := index1_any (S (a ++ c :: b)) c w (by rw [hsz]; omega) (by rw [hsz]; simp at h2; omega)
  rw [S_data, indexByte_at h] at h1
  have H1 := hid h1
  obtain ⟨e1, e2⟩ := cutS a b c
  have E1 := hid e1
  have E2 := hid e2
  rw [hl] at hs
  clear h1 h2 hl h e1 e2
  generalize S (a ++ c :: b) = s at *
  have g0 : (0 : Int) ≤ (a.length : Int) := by omega
  have g1 : (a.length : Int) ≤ (s.size : Int) := by omega
  have g2 : (a.length : Int) + 1 ≤ (s.size : Int) := by omega
  have g3 : IntKind.i64.wrap ((a.length : Int) + 1) = (a.length : Int) + 1 := by rw [IntKind.wrap_i64]; omega
  have g4 : ¬ (9223372036854775807 < s.size) := by omega
  have g5 : (0 : Int) ≤ (a.length : Int) + 1 := by omega
  have g6 : ((a.length : Int) + 1).toNat = a.length + 1 := by omega
  clear hsz
  go_enter Tryd.func24, Tryd.ntmps24
  go_wp2_with fail
  refine H1.out.mono ?_
  rintro e w1 ⟨rfl, rfl⟩
  go_wp2_with fail
  go_region_held3 (fun _ => True) (trivial) (fail)
  all_goals
    go_wp2_with fail
    go_ret3
    exact ⟨by rw [← E1.out, ← E2.out]; rfl, drew_bel' (n := 1) (Below.refl _ _)⟩
set_option maxRecDepth 100000 in
set_option maxHeartbeats 1000000 in
/-- strings.Cut -/
theorem cut_any (a b : List UInt8) (c : UInt8) (h : ∀ x ∈ a, x ≠ c) (w : World) (hs : (a ++ c :: b).length ≤ 140737488351232) (h2 : 0 < (a ++ b).length) :
    Calls Tryd.prog 10 #[.string (S (a ++ c :: b)), .string ⟨#[c]⟩] w fun e w' => e = .returned (.tuple #[.string (S a), .string (S b), .bool true]) ∧ Below w.heap.size w w' := by
  have H := hid (cut1_any a b c h w hs h2)
  clear h hs h2
  generalize S (a ++ c :: b) = s at *
  go_enter Tryd.func10, Tryd.ntmps10
  go_wp2_with fail
  refine H.out.mono ?_
  rintro e w1 ⟨rfl, hb⟩
  go_wp2_with fail
  go_ret3
  exact ⟨rfl, hb⟩
end Go.Proofs.YtnifgmijjggjjaaDoor
namespace Go.Proofs.YtnifgmijjggjjaaDoor
open Go.RowKit Go.Lib
attribute [local go_sem ↓] Go.wp_at_zero Go.wp_at_succ

theorem asT_jn : ∀ s : ByteArray, s = S (jn [44, 32] (asW.map asT)) → ∀ (w : World), MaxL w → Calls Tryd.prog 9 #[.string s, .string ⟨#[44, 32]⟩] w fun e w' => e = .returned (.slice (some ⟨w.heap.size, 0, none⟩) 109 109) ∧ Blk w' w.heap.size 9 ((asW.map asT).map (fun t => .string (S t))) ∧ Below w.heap.size w w' := by
  intro s hs w hM
  subst hs
  refine (split_any 44 [32] (asW.map asT) (by decide +kernel) asW_ok.1 _ rfl ((by decide +kernel : (jn [44, 32] (asW.map asT)).length < 4294967281)) w hM).mono ?_
  rintro e w' ⟨rfl, rfl⟩
  refine ⟨rfl, ?_, (Below.refl _ _).alloc (Nat.le_refl _) _⟩
  have h := Blk.new w (((asW.map asT).map S).map Value.string).toArray 9 _ rfl
  rw [List.map_map] at h
  exact h
theorem asW_len : asW.length = 109 := by decide +kernel
set_option maxRecDepth 100000 in
set_option maxHeartbeats 8000000 in
theorem rname_any (op : Nat) (hop : op < 256) (w : World) (hM : MaxL w) :
    Calls Tryd.prog 5 #[.int .u8 op] w fun e w' => e = .returned (.tuple #[.string (S (nmM op).1), .bool (nmM op).2]) ∧ Below w.heap.size w w' := by
  obtain ⟨fin, hfin⟩ : ∃ fin, nmG asW op = fin := ⟨_, rfl⟩
  unfold nmM
  rw [← nm_same ⟨op, hop⟩, hfin]
  have HF0 := hid (show nmG (asW.drop 0) op = fin from hfin)
  have HS := hid (fun s hs => asT_jn s hs w hM)
  have HD := hid (fun wx => digits_any op (by omega) wx)
  have hopr : (op : Int) < 256 := by omega
  clear hfin hM
  go_enter Tryd.func5, Tryd.ntmps5
  go_wp2_with (go_at_call 9; refine (HS.out _ (by kernel_rfl)).mono ?_; rintro r w1 ⟨rfl, hb1, hw1⟩; have HB1 := hid hb1; have HW1 := hid hw1; clear hb1 hw1)
  go_loopw [11] (fun i wr => ∃ k : Nat, k ≤ 109 ∧ i = .int .i64 k ∧ Hid (nmG (asW.drop k) op = fin) ∧ Hid (Blk wr w.heap.size 9 ((asW.map asT).map (fun t => .string (S t)))) ∧ Hid (Below w.heap.size w wr)) (fun i _ => 109 - (RowKit.intOf i).toNat)
  case atStart => exact ⟨0, by decide, rfl, HF0, HB1, HW1⟩
  case round =>
    obtain ⟨k, hk, rfl, HF, HB, HW⟩ := hrel
    by_cases hlt : k < 109
    · have hkr : k < asW.length := by rw [asW_len]; exact hlt
      have y0 : wr.cell? ⟨w.heap.size, k, none⟩ = some (.string (S (asT asW[k]))) := HB.out.cell (by rw [List.getElem?_map, List.getElem?_map, List.getElem?_eq_getElem hkr]; rfl)
      have hok := List.all_eq_true.1 asW_ok.2 _ (List.getElem_mem hkr)
      have hfk := HF.out
      rw [List.drop_eq_getElem_cons hkr] at hfk
      generalize asW[k] = row at *
      obtain ⟨n, nm⟩ := row
      simp only [Bool.and_eq_true, decide_eq_true_eq] at hok
      obtain ⟨⟨⟨p1, p2⟩, p3⟩, p4⟩ := hok
      have HC := hid (fun wx => cut_any (decN 20 n) nm 32 (fun x hx e => by subst e; simp [hx] at p1) wx (by unfold asT at p3; simp only at p3; omega) (by cases hd : decN 20 n with
        | nil => have := congrArg deN hd; rw [de_decN ⟨n, p2⟩] at this; simp [deN] at this; subst this; simp [decN] at hd
        | cons a l => simp))
      have HFK := hid (show (if n = op then (nm, true) else nmG (asW.drop (k + 1)) op) = fin from hfk)
      have HPL := hid p4
      rw [show asT (n, nm) = decN 20 n ++ 32 :: nm from rfl] at y0
      generalize S (decN 20 n ++ 32 :: nm) = pc at *
      clear hkr hfk p1 p3 p4 HF
      by_cases hn : n = op
      · subst hn
        have HQ := hid (show fin = (nm, true) from by have := HFK.out; rw [if_pos rfl] at this; exact this.symm)
        have heq : ((S (decN 20 n)).toList == (S (decN 20 n)).toList) = true := BEq.rfl
        clear HFK p2
        go_wp2_with (first | (go_at_call 10; refine (HC.out _).mono ?_; rintro r w2 ⟨rfl, hb2⟩; have HW2 := hid (HW.out.trans (hb2.mono HW.out.size)); clear hb2) | (go_at_call 11; refine (HD.out _).mono ?_; rintro r w3 ⟨rfl, hb3⟩; have HW3 := hid (HW2.out.trans (hb3.mono HW2.out.size)); clear hb3))
        go_ret2
        exact ⟨by rw [HQ.out]; rfl, HW3.out⟩
      · have HFN := hid (show nmG (asW.drop (k + 1)) op = fin from by have := HFK.out; rw [if_neg hn] at this; exact this)
        have heq : ((S (decN 20 n)).toList == (S (decN 20 op)).toList) = false := by
          rw [beq_eq_false_iff_ne]
          intro e
          exact hn (decN_inj p2 hop (S_inj (toList_inj.1 e)))
        clear HFK p2 hn
        go_wp2_with (first | (go_at_call 10; refine (HC.out _).mono ?_; rintro r w2 ⟨rfl, hb2⟩; have HW2 := hid (HW.out.trans (hb2.mono HW.out.size)); have HB2 := hid (HB.out.below hb2); clear hb2) | (go_at_call 11; refine (HD.out _).mono ?_; rintro r w3 ⟨rfl, hb3⟩; have HW3 := hid (HW2.out.trans (hb3.mono HW2.out.size)); have HB3 := hid (HB2.out.below hb3); clear hb3))
        go_roundw
        case rel => exact ⟨k + 1, by omega, by go_num, HFN, HB3, HW3⟩
        case measure => simp [RowKit.intOf]; omega
    · obtain rfl : k = 109 := by omega
      have hfin := HF.out
      rw [show asW.drop 109 = [] from List.drop_of_length_le (by rw [asW_len]; decide)] at hfin
      have HE := hid (show (([], false) : List UInt8 × Bool) = fin from hfin)
      clear hfin
      go_wp2_with fail
      go_ret2
      exact ⟨by rw [← HE.out]; rfl, HW.out⟩
end Go.Proofs.YtnifgmijjggjjaaDoor
