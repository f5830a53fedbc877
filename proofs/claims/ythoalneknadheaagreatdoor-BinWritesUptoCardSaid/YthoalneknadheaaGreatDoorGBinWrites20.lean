/-
  INSTRUCTIONS: the reference's InsCheck. Conditions: the number is a byte; the variable of the library that strings.Contains reads holds some number.
-/
import Derived.Test.YthoalneknadheaaGreatDoorGBinWrites2
import Derived.Test.YthoalneknadheaaGreatDoorGBinWrites4
import Derived.Test.YthoalneknadheaaGreatDoorGBinWrites10
import Derived.Test.YthoalneknadheaaGreatDoorGBinWrites14
import Derived.Test.YthoalneknadheaaGreatDoorGBinWrites16
import Derived.Test.YthoalneknadheaaGreatDoorGBinWrites18
import Derived.Test.YthoalneknadheaaGreatDoorGBinWrites19
import Derived.IntWalk
import Derived.Deep.RegionLaw
namespace Go.Proofs.YthoalneknadheaaGreatDoor
open Go.RowKit Go.Lib
attribute [local go_sem ↓] Go.wp_at_zero Go.wp_at_succ

theorem wide_any (n : Int) (w : World) : Calls Tryz.prog 169 #[.int .i64 n] w fun e w' => e = .returned (.bool (!isIx n)) ∧ w = w' := by
  unfold isIx
  by_cases h1 : n < 0
  · rw [decide_eq_false (show ¬ (0 ≤ n ∧ n ≤ 4294967295) from fun h => by omega)]
    go_enter Tryz.func169, Tryz.ntmps169
    go_wp2_with fail
    go_ret
    exact ⟨rfl, rfl⟩
  · by_cases h2 : 4294967295 < n
    · rw [decide_eq_false (show ¬ (0 ≤ n ∧ n ≤ 4294967295) from fun h => by omega)]
      go_enter Tryz.func169, Tryz.ntmps169
      go_wp2_with fail
      go_ret
      exact ⟨rfl, rfl⟩
    · rw [decide_eq_true (show 0 ≤ n ∧ n ≤ 4294967295 from by omega)]
      go_enter Tryz.func169, Tryz.ntmps169
      go_wp2_with fail
      go_ret
      exact ⟨rfl, rfl⟩
theorem ascii_of (s : ByteArray) (h : s.data.toList.all (fun b => decide (b.toNat < 128)) = true) : ∀ (j : Nat) b, s.data.toList[j]? = some b → b.toNat < 128 := by
  intro j b hb
  exact of_decide_eq_true (List.all_eq_true.1 h b (List.mem_of_getElem? hb))
theorem chk_end (k : Nat) (A B : Int) (xs : List Int) (h0 : k ≠ 0) (h : ¬ 16 < xs.length) (a b t : Bool) (ha : okA k A = a) (hb : okB k B = b) (ht : okT k xs = t) : chkI k A B xs = if (a && b && t) = true then 0 else 1 := by
  rw [chk_rest h0 h, ha, hb, ht]

end Go.Proofs.YthoalneknadheaaGreatDoor
namespace Go.Proofs.YthoalneknadheaaGreatDoor
open Go.RowKit Go.Lib

set_option maxRecDepth 100000 in
theorem num_any (n : Nat) (hn : n ≤ 9223372036854775807) (w : World) :
    Calls Tryz.prog 19 #[.int .i64 (n : Int)] w fun e w' => e = .returned (.string (numB n)) ∧ Below w.heap.size w w' := by
  have HU := hid (fun wx => lebU_any n wx (by omega))
  have hw : IntKind.u64.wrap (n : Int) = n := by rw [Go.IntKind.wrap_u64]; omega
  go_enter Tryz.func19, Tryz.ntmps19
  go_wp2_with fail
  refine (HU.out _).mono ?_
  rintro r w' ⟨rfl, hb⟩
  go_wp2_with fail
  go_ret
  exact ⟨rfl, hb⟩
theorem byte_one {y : Int} (h : 0 ≤ y ∧ y ≤ 255) : S [UInt8.ofNat y.toNat] = oneB y := by
  unfold oneB byteOf
  rw [show y % 256 = y by omega]
set_option maxRecDepth 100000 in
set_option maxHeartbeats 2000000 in
theorem kinds_any (W w : World) (v : Value) (ys : List Int) (hb : Below W.heap.size W w) (hl : Ints W .u8 v ys) (hlen : ys.length ≤ 16) (hy : ∀ z ∈ ys, 0 ≤ z ∧ z ≤ 255) :
    Calls Tryz.prog 15 #[v] w fun e w' => e = .returned (.string (kindsB ys)) ∧ Below w.heap.size w w' := by
  have HN := hid (fun wx => num_any ys.length (by omega) wx)
  have HL := hid hl
  have HB := hid hb
  obtain ⟨ao, cap, rfl, hcap, hcm, _, _⟩ := id hl
  have HY := hid hy
  have HNX := hid (fun (b : ByteArray) k (hk : k < ys.length) => catB_more oneB ys k hk b)
  have HSZ := hid (numB_size ys.length)
  have HCS := hid (fun k => catB_size oneB 1 (ys.take k) (fun x _ => by rw [oneB_size]; exact Nat.le_refl _))
  have HFL := hid (show numB ys.length ++ catB oneB (ys.take ys.length) = kindsB ys from by rw [List.take_length]; rfl)
  obtain ⟨n, hn⟩ : ∃ n, ys.length = n := ⟨_, rfl⟩
  have HLN := hid hn
  rw [hn] at hcap HL HN HFL HSZ hlen
  rw [hn]
  have hn9 : (n : Int) ≤ 16 := by omega
  clear hl hb hn hy hlen
  go_enter Tryz.func15, Tryz.ntmps15
  go_wp2_with fail
  refine (HN.out _).mono ?_
  rintro r w1 ⟨rfl, hb1⟩
  have B1 := hid hb1
  clear hb1
  go_wp2_with fail
  go_loopw [3, 5, 11] (fun o _ i wr => ∃ (k : Nat) (b : ByteArray), k ≤ n ∧ i = .int .i64 k ∧ o = .string b ∧ Hid (b = numB n ++ catB oneB (ys.take k)) ∧ Hid (Below w.heap.size w wr)) (fun _ _ i _ => n - (RowKit.intOf i).toNat)
  case atStart => exact ⟨0, _, Nat.zero_le _, rfl, rfl, hid (ba_nil _).symm, B1⟩
  case round =>
    obtain ⟨k, b, hk, rfl, rfl, HBK, BW⟩ := hrel
    by_cases hlt : k < n
    · have hkl : k < ys.length := by rw [HLN.out]; exact hlt
      have hI := L1.below HL.out (HB.out.trans (BW.out.mono HB.out.size))
      rcases hI.open with ⟨_, _, _, e, _⟩ | ⟨lb, lo, cap', hv, _, hcap3, hcap2, hc⟩
      · rw [e] at hkl; simp at hkl
      simp only [Value.slice.injEq] at hv
      obtain ⟨rfl, -, rfl⟩ := hv
      have y0 := hc k hkl
      have HNK := hid (HNX.out (numB n) k hkl)
      have hy1 := HY.out _ (List.getElem_mem hkl)
      have hbs : b.size ≤ 26 := by
        rw [HBK.out, ba_size]
        have h1 := HSZ.out
        have h2 := HCS.out k
        rw [List.length_take] at h2
        omega
      clear hc hI hcap3
      generalize ys[k] = y at *
      clear hkl
      have hcv := conv_bytes (Ints.made' wr .u8 5 [y] wr.heap.size rfl (by simp))
      simp only [List.length_cons, List.length_nil, List.map_cons, List.map_nil, Nat.zero_add] at hcv
      rw [byte_one hy1] at hcv
      have hcat : ¬ 9223372036854775807 < b.size + (oneB y).size := by rw [oneB_size]; omega
      clear hy1 hbs
      go_wp2_with fail
      go_roundw
      case rel => exact ⟨k + 1, _, by omega, by go_num, rfl, hid (by rw [HBK.out, HNK.out]), hid (BW.out.alloc BW.out.size _)⟩
      case measure => simp [RowKit.intOf]; omega
    · obtain rfl : k = n := by omega
      go_wp2_with fail
      go_ret
      exact ⟨by rw [HBK.out, ← HLN.out, List.take_length]; rfl, BW.out⟩
end Go.Proofs.YthoalneknadheaaGreatDoor
namespace Go.Proofs.YthoalneknadheaaGreatDoor
open Go.RowKit Go.Lib

def PC (w : World) (C : Nat) (b : Int) : Prop := Blk w C 119 [.int .i64 b]
def CPost (C : Nat) (b : Int) (w : World) (e : Ending) (w' : World) : Prop := e = .returned (.tuple #[]) ∧ PC w' C b ∧ Touch (fun k => k = C) w w'
theorem PC.below {w w' : World} {C : Nat} {b : Int} (h : PC w C b) (hb : Below w.heap.size w w') : PC w' C b := Blk.below h hb
theorem CPost.base {W w w' : World} {C : Nat} {b : Int} {e : Ending} (h : CPost C b w e w') (hb : Below W.heap.size W w) (hC : W.heap.size ≤ C) : Below W.heap.size W w' := hb.trans (h.2.2.below hb.size (fun _ hk => hk ▸ hC))
set_option maxRecDepth 100000 in
theorem need_any (w : World) (C : Nat) (b e : Int) (is : Bool) (h : PC w C b) :
    Calls Tryz.prog 71 #[.pointer (some ⟨C, 0, none⟩), .bool is, .int .i64 e] w (CPost C (orE b (ndE is e)) w) := by
  have H := hid h
  have c0 := Blk.cell h (i := 0) rfl
  have cf := Blk.free h
  clear h
  by_cases hb : b = 0
  · subst hb
    cases is with
    | true =>
      go_enter Tryz.func71, Tryz.ntmps71
      go_wp2_with fail
      go_end0
      exact ⟨rfl, H.out, Touch.refl _ _⟩
    | false =>
      go_enter Tryz.func71, Tryz.ntmps71
      go_wp2_with fail
      go_end0
      exact ⟨rfl, H.out.set 0 _, Touch.setCell (F := fun k => k = C) (a := ⟨C, 0, none⟩) rfl _⟩
  · have hz : (b == 0) = false := by simpa using hb
    rw [orE_stop hb]
    go_enter Tryz.func71, Tryz.ntmps71
    go_wp2_with fail
    go_end0
    exact ⟨rfl, H.out, Touch.refl _ _⟩
set_option maxRecDepth 100000 in
theorem says_any (w : World) (C : Nat) (b e : Int) (h : PC w C b) :
    Calls Tryz.prog 120 #[.pointer (some ⟨C, 0, none⟩), .int .i64 e] w (CPost C (orE b e) w) := by
  have H := hid h
  have c0 := Blk.cell h (i := 0) rfl
  have cf := Blk.free h
  clear h
  by_cases hb : b = 0
  · subst hb
    go_enter Tryz.func120, Tryz.ntmps120
    go_wp2_with fail
    go_end0
    exact ⟨rfl, H.out.set 0 _, Touch.setCell (F := fun k => k = C) (a := ⟨C, 0, none⟩) rfl _⟩
  · have hz : (b == 0) = false := by simpa using hb
    rw [orE_stop hb]
    go_enter Tryz.func120, Tryz.ntmps120
    go_wp2_with fail
    go_end0
    exact ⟨rfl, H.out, Touch.refl _ _⟩
set_option maxRecDepth 100000 in
theorem isKind_any (k : Int) (w : World) : Calls Tryz.prog 123 #[.int .u8 k] w fun e w' => e = .returned (.bool (isK k)) ∧ w = w' := by
  by_cases h1 : k = 127
  · subst h1
    go_enter Tryz.func123, Tryz.ntmps123
    go_wp2_with fail
    go_ret
    exact ⟨rfl, rfl⟩
  · have e1 : (k == 127) = false := by simpa using h1
    by_cases h2 : k = 126
    · subst h2
      go_enter Tryz.func123, Tryz.ntmps123
      go_wp2_with fail
      go_ret
      exact ⟨rfl, rfl⟩
    · have e2 : (k == 126) = false := by simpa using h2
      have HR := hid (show isK k = false from decide_eq_false (by omega))
      clear h1 h2
      go_enter Tryz.func123, Tryz.ntmps123
      go_wp2_with fail
      go_ret
      rw [HR.out]
      exact ⟨rfl, rfl⟩
set_option maxRecDepth 100000 in
theorem isIndexB_any (n : Int) (w : World) : Calls Tryz.prog 121 #[.int .i64 n] w fun e w' => e = .returned (.bool (isI n)) ∧ w = w' := by
  by_cases h1 : n < 0
  · have HR := hid (show isI n = false from decide_eq_false (by omega))
    have d1 : decide (0 ≤ n) = false := decide_eq_false (by omega)
    go_enter Tryz.func121, Tryz.ntmps121
    go_wp2_with fail
    go_ret
    rw [HR.out]
    exact ⟨rfl, rfl⟩
  · have h0 : 0 ≤ n := by omega
    have HR := hid (show isI n = decide (n ≤ 4294967295) from by
      unfold isI
      by_cases h2 : n ≤ 4294967295
      · rw [decide_eq_true h2, decide_eq_true ⟨h0, h2⟩]
      · rw [decide_eq_false h2, decide_eq_false (fun g => h2 g.2)])
    go_enter Tryz.func121, Tryz.ntmps121
    go_wp2_with fail
    go_ret
    rw [HR.out]
    exact ⟨rfl, rfl⟩
set_option maxRecDepth 100000 in
theorem isPlace_any (n : Int) (hn : -9223372036854775808 ≤ n ∧ n ≤ 9223372036854775807) (w : World) : Calls Tryz.prog 125 #[.int .i64 n] w fun e w' => e = .returned (.bool (isP n)) ∧ w = w' := by
  obtain ⟨h0, h1⟩ := hn
  obtain ⟨m, hm⟩ : ∃ m, IntKind.i32.wrap n = m := ⟨_, rfl⟩
  have hm2 := hm
  rw [IntKind.wrap_i32] at hm2
  have hm0 : -2147483648 ≤ m ∧ m ≤ 2147483647 := by omega
  have HR := hid (show (n == m) = isP n from by
    unfold isP
    by_cases g : -2147483648 ≤ n ∧ n ≤ 2147483647
    · rw [decide_eq_true g]; simp; omega
    · rw [decide_eq_false g]; simp; omega)
  have hw : IntKind.i64.wrap m = m := IntWalk.i64_in _ (by omega)
  clear hm2 hm0
  go_enter Tryz.func125, Tryz.ntmps125
  go_wp2_with fail
  go_ret
  rw [← HR.out]
  exact ⟨rfl, rfl⟩
set_option maxRecDepth 100000 in
theorem kindB_any (w : World) (C : Nat) (b k : Int) (h : PC w C b) :
    Calls Tryz.prog 74 #[.pointer (some ⟨C, 0, none⟩), .int .u8 k] w (CPost C (orE b (fKind k)) w) := by
  have HK := hid (fun wx => isKind_any k wx)
  have HN := hid (fun wx h => need_any wx C b 1 (isK k) h)
  have H := hid h
  unfold fKind
  generalize isK k = bk at *
  clear h
  go_enter Tryz.func74, Tryz.ntmps74
  go_wp2_with (first | (go_at_call 123; refine (HK.out _).mono ?_; rintro r w1 ⟨rfl, rfl⟩) | (go_at_call 71; refine (HN.out _ H.out).mono ?_; rintro r w2 hp; obtain ⟨rfl, hq⟩ := hp; have HQ := hid hq; clear hq))
  go_end0
  exact ⟨rfl, HQ.out⟩
set_option maxRecDepth 100000 in
theorem indexB_any (w : World) (C : Nat) (b n : Int) (h : PC w C b) :
    Calls Tryz.prog 68 #[.pointer (some ⟨C, 0, none⟩), .int .i64 n] w (CPost C (orE b (fIdx n)) w) := by
  have HK := hid (fun wx => isIndexB_any n wx)
  have HN := hid (fun wx h => need_any wx C b 1 (isI n) h)
  have H := hid h
  unfold fIdx
  generalize isI n = bk at *
  clear h
  go_enter Tryz.func68, Tryz.ntmps68
  go_wp2_with (first | (go_at_call 121; refine (HK.out _).mono ?_; rintro r w1 ⟨rfl, rfl⟩) | (go_at_call 71; refine (HN.out _ H.out).mono ?_; rintro r w2 hp; obtain ⟨rfl, hq⟩ := hp; have HQ := hid hq; clear hq))
  go_end0
  exact ⟨rfl, HQ.out⟩
set_option maxRecDepth 100000 in
theorem placeB_any (w : World) (C : Nat) (b n : Int) (hn : -9223372036854775808 ≤ n ∧ n ≤ 9223372036854775807) (h : PC w C b) :
    Calls Tryz.prog 81 #[.pointer (some ⟨C, 0, none⟩), .int .i64 n] w (CPost C (orE b (fPlc n)) w) := by
  have HK := hid (fun wx => isPlace_any n hn wx)
  have HN := hid (fun wx h => need_any wx C b 1 (isP n) h)
  have H := hid h
  unfold fPlc
  generalize isP n = bk at *
  clear h hn
  go_enter Tryz.func81, Tryz.ntmps81
  go_wp2_with (first | (go_at_call 125; refine (HK.out _).mono ?_; rintro r w1 ⟨rfl, rfl⟩) | (go_at_call 71; refine (HN.out _ H.out).mono ?_; rintro r w2 hp; obtain ⟨rfl, hq⟩ := hp; have HQ := hid hq; clear hq))
  go_end0
  exact ⟨rfl, HQ.out⟩
end Go.Proofs.YthoalneknadheaaGreatDoor
namespace Go.Proofs.YthoalneknadheaaGreatDoor
open Go.RowKit Go.Lib
attribute [local go_sem ↓] Go.wp_at_zero Go.wp_at_succ

def mkM (l : List It) : AB := matR It.op l 0 ([(-1, 2)], false) (List.replicate l.length 0, List.replicate l.length 0)
theorem own_setCell2 {w : World} {base : Nat} {k : IntKind} {e : TypeId} {g n m : Nat} {xs : List Int} (h : OwnI w base k e (.slice (some ⟨g, 0, none⟩) n m) xs) {b : Nat} (hne : g ≠ b) (x : Nat × Value) : OwnI (w.setCell ⟨b, x.1, none⟩ x.2) base k e (.slice (some ⟨g, 0, none⟩) n m) xs := ownsRow_setCell_other (a := ⟨b, x.1, none⟩) h (fun e => hne (by injection e)) x.2
theorem WkB.put {w : World} {B base : Nat} {vo vl : Value} {st : Stk × Bool} (h : WkB w B base vo vl st) {g : Nat} (hg : g < base) (j : Nat) (x : Value) : WkB (w.setCell ⟨g, j, none⟩ x) B base vo vl st :=
  ⟨h.blk.other (by have := h.le; simp only; omega) _, ownsRow_setCell_below h.op hg _, ownsRow_setCell_below h.la hg _, h.le, h.full, h.most⟩
end Go.Proofs.YthoalneknadheaaGreatDoor
