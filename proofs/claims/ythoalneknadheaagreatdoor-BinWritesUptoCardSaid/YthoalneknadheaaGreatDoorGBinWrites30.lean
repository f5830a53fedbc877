/-
  INSTRUCTIONS: Write, both sides, whole. Conditions: the number is a byte; for the reference: the library's variable that strings.Contains reads holds some number.
-/
import Derived.Test.YthoalneknadheaaGreatDoorGBinWrites2
import Derived.Test.YthoalneknadheaaGreatDoorGBinWrites4
import Derived.Test.YthoalneknadheaaGreatDoorGBinWrites5
import Derived.Test.YthoalneknadheaaGreatDoorGBinWrites20
import Derived.Test.YthoalneknadheaaGreatDoorGBinWrites27
import Derived.Test.YthoalneknadheaaGreatDoorGBinWrites29
namespace Go.Proofs.YthoalneknadheaaGreatDoor
open Go.RowKit Go.Lib

def wrT (op : Nat) (A B : Int) (xs : List Int) : ByteArray := if chkI (tB op) A B xs = 0 then S (wrI (tB op) op A B xs) else ⟨#[]⟩
theorem pinsW_any (op : Nat) (hop : op < 256) (A B : Int) (hA : -9223372036854775808 ≤ A ∧ A ≤ 9223372036854775807) (xs : List Int) (v : Value) (w : World) (hx : Ints w .i64 v xs) :
    Calls Tryz.prog 127 #[insV op A B v] w fun e w' => e = .returned (.tuple #[.string (wrT op A B xs), .int .i64 (chkI (tB op) A B xs)]) ∧ Below w.heap.size w w' := by
  unfold wrT
  by_cases hc : chkI (tB op) A B xs = 0
  · rw [if_pos hc, hc]
    have hle := tB_le ⟨op, hop⟩
    simp only at hle
    obtain ⟨h0, _⟩ := chk_ok hc
    rcases (by omega : tB op = 1 ∨ tB op = 2 ∨ tB op = 3 ∨ tB op = 4 ∨ tB op = 5 ∨ tB op = 6 ∨ tB op = 7 ∨ tB op = 8 ∨ tB op = 9) with hk | hk | hk | hk | hk | hk | hk | hk | hk
    all_goals rw [hk] at hc ⊢
    · exact pwr_1 op hop hk A B hA xs v w hx hc
    · exact pwr_2 op hop hk A B hA xs v w hx hc
    · exact pwr_3 op hop hk A B hA xs v w hx hc
    · exact pwr_4 op hop hk A B hA xs v w hx hc
    · exact pwr_5 op hop hk A B hA xs v w hx hc
    · exact pwr_6 op hop hk A B hA xs v w hx hc
    · exact pwr_7 op hop hk A B hA xs v w hx hc
    · exact pwr_8 op hop hk A B hA xs v w hx hc
    · exact pwr_9 op hop hk A B hA xs v w hx hc
  · rw [if_neg hc]
    exact pwr_bad op hop A B hA xs v w hx hc
theorem rinsW_any (op : Nat) (hop : op < 256) (A B : Int) (hA : -9223372036854775808 ≤ A ∧ A ≤ 9223372036854775807) (xs : List Int) (v : Value) (w : World) (hM : MaxL w) (hx : Ints w .i64 v xs) :
    Calls Tryz.prog 150 #[insV op A B v] w fun e w' => e = .returned (.tuple #[.string (wrT op A B xs), .int .i64 (chkI (tB op) A B xs)]) ∧ Below w.heap.size w w' := by
  unfold wrT
  by_cases hc : chkI (tB op) A B xs = 0
  · rw [if_pos hc, hc]
    have hle := tB_le ⟨op, hop⟩
    simp only at hle
    obtain ⟨h0, _⟩ := chk_ok hc
    rcases (by omega : tB op = 1 ∨ tB op = 2 ∨ tB op = 3 ∨ tB op = 4 ∨ tB op = 5 ∨ tB op = 6 ∨ tB op = 7 ∨ tB op = 8 ∨ tB op = 9) with hk | hk | hk | hk | hk | hk | hk | hk | hk
    all_goals rw [hk] at hc ⊢
    · exact rwr_1 op hop hk A B hA xs v w hM hx hc
    · exact rwr_2 op hop hk A B hA xs v w hM hx hc
    · exact rwr_3 op hop hk A B hA xs v w hM hx hc
    · exact rwr_4 op hop hk A B hA xs v w hM hx hc
    · exact rwr_5 op hop hk A B hA xs v w hM hx hc
    · exact rwr_6 op hop hk A B hA xs v w hM hx hc
    · exact rwr_7 op hop hk A B hA xs v w hM hx hc
    · exact rwr_8 op hop hk A B hA xs v w hM hx hc
    · exact rwr_9 op hop hk A B hA xs v w hM hx hc
  · rw [if_neg hc]
    exact rwr_bad op hop A B xs v w hM hx hc

end Go.Proofs.YthoalneknadheaaGreatDoor
namespace Go.Proofs.YthoalneknadheaaGreatDoor
open Go.RowKit Go.Lib

def SPost (O : Nat) (t : ByteArray) (w : World) (e : Ending) (w' : World) : Prop := e = .returned (.tuple #[]) ∧ Blk w' O 9 [.string t] ∧ Touch (fun k => k = O) w w'
set_option maxRecDepth 100000 in
set_option maxHeartbeats 4000000 in
theorem section_any (w : World) (O : Nat) (cur c : ByteArray) (n : Int) (hn : 0 ≤ n ∧ n ≤ 255) (hO : Blk w O 9 [.string cur]) (hcur : cur.size ≤ 1000000000) (hc : c.size ≤ 1000000000) :
    Calls Tryz.prog 11 #[.int .u8 n, .string c, .pointer (some ⟨O, 0, none⟩)] w (SPost O (cur ++ secB n c) w) := by
  have HO := hid hO
  by_cases hz : c.size = 0
  · have hz2 : c.toList.isEmpty = true := by
      rw [ByteArray.toList_eq, List.isEmpty_iff, ← List.length_eq_zero_iff, Array.length_toList]
      exact hz
    have HSB := hid (show cur ++ secB n c = cur from by unfold secB; rw [if_pos hz, ba_nil])
    clear hO hz hc
    go_enter Tryz.func11, Tryz.ntmps11
    go_wp2_with fail
    go_end0
    exact ⟨rfl, by rw [HSB.out]; exact HO.out, Touch.refl _ _⟩
  · have hz2 : c.toList.isEmpty = false := by
      rw [ByteArray.toList_eq, List.isEmpty_eq_false_iff]
      intro h
      apply hz
      show c.data.size = 0
      rw [← Array.length_toList, h]
      rfl
    have HSB := hid (show cur ++ secB n c = cur ++ (oneB n ++ numB c.size ++ c) from by unfold secB; rw [if_neg hz])
    have HU := hid (fun wx => (lebU_any c.size wx (by omega)).mono (fun e w' (h : e = .returned (.string (S (encU 9 c.size))) ∧ Below wx.heap.size wx w') => (show e = .returned (.string (numB c.size)) ∧ Below wx.heap.size wx w' from h)))
    have hwz : IntKind.u64.wrap (c.size : Int) = c.size := by rw [Go.IntKind.wrap_u64]; omega
    have hnn := numB_size c.size
    have hcx := hid (show ∀ wa wb : World, Below (wa.alloc (.cells #[.int .u8 n] 5)).heap.size (wa.alloc (.cells #[.int .u8 n] 5)) wb → (convert 40 9 (.slice (some ⟨wa.heap.size, 0, none⟩) 1 1)).run Tryz.prog wb = .ok (.string (oneB n)) wb from by
      intro wa wb h
      have hi := L1.below (Ints.made' wa .u8 5 [n] wa.heap.size rfl (by simp)) h
      have hc := conv_bytes hi
      simp only [List.length_cons, List.length_nil, List.map_cons, List.map_nil, Nat.zero_add] at hc
      rw [byte_one hn] at hc
      exact hc)
    have g1 : ¬ 9223372036854775807 < (oneB n).size + (numB c.size).size := by rw [oneB_size]; omega
    have g2 : ¬ 9223372036854775807 < (oneB n).size + (numB c.size).size + c.size := by rw [oneB_size]; omega
    have g3 : ¬ 9223372036854775807 < cur.size + ((oneB n).size + (numB c.size).size + c.size) := by rw [oneB_size]; omega
    have B0 := hid (hO.below (Below.refl _ _).drew)
    have X0 := hid (Below.refl w.heap.size w).drew
    clear hz hn
    have hO' := hO
    clear hO
    have HO2 := hid hO'
    clear hO'
    go_enter Tryz.func11, Tryz.ntmps11
    go_wp2_with fail
    refine wp_region_tail (S := (fun w' => w'.cell? ⟨O, 0, none⟩ = some (.string cur) ∧ Hid (Blk w' O 9 [.string cur]) ∧ Hid (Below w.heap.size w w'))) 12 (by kernel_rfl) (by kernel_rfl) ?_ (fun hHeld => ?_)
    · exact ⟨B0.out.cell (i := 0) rfl, B0, X0⟩
    repeat ((first | refine tk 0 ?_ rfl ?_ ?_ | refine tk 1 ?_ rfl ?_ ?_ | refine tk 4 ?_ rfl ?_ ?_ | refine tk 5 ?_ rfl ?_ ?_ | refine tk 6 ?_ rfl ?_ ?_ | refine tk 8 ?_ rfl ?_ ?_ | refine tk 9 ?_ rfl ?_ ?_ | refine tk 10 ?_ rfl ?_ ?_ | refine tk 11 ?_ rfl ?_ ?_); rotate_left; (intro wy hSw; (try dsimp only at hSw); (go_simp <;> with_reducible rfl)); (try simp only [List.getElem_toArray, List.getElem_cons_zero, List.getElem_cons_succ, Act.put, List.setIfInBounds_toArray, List.set_cons_zero, List.set_cons_succ]))
    refine wpT_two (j := 2) (k := 7) rfl rfl (by kernel_rfl) (fun K hK => ?_) (fun K hK => ?_)
    · go_simp
      have BD := hid ((HO2.out.below ((Below.refl _ _).alloc (Nat.le_refl _) (.cells #[.int .u8 n] 5))).below (Below.refl _ _).drew)
      have XD := hid (((Below.refl w.heap.size w).alloc (Nat.le_refl _) (.cells #[.int .u8 n] 5)).drew)
      have hcd := hcx.out w _ (Below.refl _ _).drew
      refine hK.out _ _ ?_ (fun hHeld => ?_)
      · exact ⟨BD.out.cell (i := 0) rfl, BD, XD⟩
      clear hK K
      (try simp only [Act.put, List.setIfInBounds_toArray, List.set_cons_zero, List.set_cons_succ])
      refine wpT_two (j := 3) (k := 7) rfl rfl (by kernel_rfl) (fun K hK => ?_) (fun K hK => ?_)
      · go_simp
        refine hK.out _ _ ?_ (fun hHeld => ?_)
        · exact ⟨BD.out.cell (i := 0) rfl, BD, XD⟩
        clear hK K
        (try simp only [Act.put, List.setIfInBounds_toArray, List.set_cons_zero, List.set_cons_succ])
        refine wpT_one (k := 7) rfl (by kernel_rfl) (fun K hK => ?_)
        go_simp
        refine (HU.out _).mono ?_
        rintro r w5 ⟨rfl, hb5⟩
        have BE := hid (BD.out.below hb5)
        have XE := hid (XD.out.trans (hb5.mono XD.out.size))
        clear hb5
        go_wp2_with fail
        refine hK.out _ _ ?_ (fun hHeld => ?_)
        · exact ⟨BE.out.cell (i := 0) rfl, BE, XE⟩
        clear hK K
        (try simp only [Act.put, List.setIfInBounds_toArray, List.set_cons_zero, List.set_cons_succ])
        repeat ((first | refine tk 0 ?_ rfl ?_ ?_ | refine tk 1 ?_ rfl ?_ ?_ | refine tk 4 ?_ rfl ?_ ?_ | refine tk 5 ?_ rfl ?_ ?_ | refine tk 6 ?_ rfl ?_ ?_ | refine tk 8 ?_ rfl ?_ ?_ | refine tk 9 ?_ rfl ?_ ?_ | refine tk 10 ?_ rfl ?_ ?_ | refine tk 11 ?_ rfl ?_ ?_); rotate_left; (intro wy hSw; (try dsimp only at hSw); (go_simp <;> with_reducible rfl)); (try simp only [List.getElem_toArray, List.getElem_cons_zero, List.getElem_cons_succ, Act.put, List.setIfInBounds_toArray, List.set_cons_zero, List.set_cons_succ]))
        refine wpT_done (by kernel_rfl) ?_
        have c5 := BE.out.cell (i := 0) rfl
        have f5 := BE.out.free 0
        go_wp2_with fail
        go_end0
        exact ⟨rfl, by rw [HSB.out]; exact BE.out.set 0 _, (Touch.of_below XE.out).trans (Touch.setCell (F := fun k => k = O) (a := ⟨O, 0, none⟩) rfl _)⟩
      · go_simp
        refine (HU.out _).mono ?_
        rintro r w5 ⟨rfl, hb5⟩
        have BE := hid (BD.out.below hb5)
        have XE := hid (XD.out.trans (hb5.mono XD.out.size))
        have hcd := hcx.out w w5 ((Below.refl _ _).drew.trans hb5)
        clear hb5
        go_wp2_with fail
        refine hK.out _ _ ?_ (fun hHeld => ?_)
        · exact ⟨BE.out.cell (i := 0) rfl, BE, XE⟩
        clear hK K
        (try simp only [Act.put, List.setIfInBounds_toArray, List.set_cons_zero, List.set_cons_succ])
        refine wpT_one (k := 3) rfl (by kernel_rfl) (fun K hK => ?_)
        go_simp
        refine hK.out _ _ ?_ (fun hHeld => ?_)
        · exact ⟨BE.out.cell (i := 0) rfl, BE, XE⟩
        clear hK K
        (try simp only [Act.put, List.setIfInBounds_toArray, List.set_cons_zero, List.set_cons_succ])
        repeat ((first | refine tk 0 ?_ rfl ?_ ?_ | refine tk 1 ?_ rfl ?_ ?_ | refine tk 4 ?_ rfl ?_ ?_ | refine tk 5 ?_ rfl ?_ ?_ | refine tk 6 ?_ rfl ?_ ?_ | refine tk 8 ?_ rfl ?_ ?_ | refine tk 9 ?_ rfl ?_ ?_ | refine tk 10 ?_ rfl ?_ ?_ | refine tk 11 ?_ rfl ?_ ?_); rotate_left; (intro wy hSw; (try dsimp only at hSw); (go_simp <;> with_reducible rfl)); (try simp only [List.getElem_toArray, List.getElem_cons_zero, List.getElem_cons_succ, Act.put, List.setIfInBounds_toArray, List.set_cons_zero, List.set_cons_succ]))
        refine wpT_done (by kernel_rfl) ?_
        have c5 := BE.out.cell (i := 0) rfl
        have f5 := BE.out.free 0
        go_wp2_with fail
        go_end0
        exact ⟨rfl, by rw [HSB.out]; exact BE.out.set 0 _, (Touch.of_below XE.out).trans (Touch.setCell (F := fun k => k = O) (a := ⟨O, 0, none⟩) rfl _)⟩
    · go_simp
      refine (HU.out _).mono ?_
      rintro r w5 ⟨rfl, hb5⟩
      have BE := hid (B0.out.below hb5)
      have XE := hid (X0.out.trans (hb5.mono X0.out.size))
      clear hb5
      go_wp2_with fail
      refine hK.out _ _ ?_ (fun hHeld => ?_)
      · exact ⟨BE.out.cell (i := 0) rfl, BE, XE⟩
      clear hK K
      (try simp only [Act.put, List.setIfInBounds_toArray, List.set_cons_zero, List.set_cons_succ])
      refine wpT_one (k := 2) rfl (by kernel_rfl) (fun K hK => ?_)
      go_simp
      have BF := hid (BE.out.below ((Below.refl _ _).alloc (Nat.le_refl _) (.cells #[.int .u8 n] 5)))
      have XF := hid (XE.out.alloc XE.out.size (.cells #[.int .u8 n] 5))
      have hcd := hcx.out w5 _ (Below.refl _ _)
      refine hK.out _ _ ?_ (fun hHeld => ?_)
      · exact ⟨BF.out.cell (i := 0) rfl, BF, XF⟩
      clear hK K
      (try simp only [Act.put, List.setIfInBounds_toArray, List.set_cons_zero, List.set_cons_succ])
      refine wpT_one (k := 3) rfl (by kernel_rfl) (fun K hK => ?_)
      go_simp
      refine hK.out _ _ ?_ (fun hHeld => ?_)
      · exact ⟨BF.out.cell (i := 0) rfl, BF, XF⟩
      clear hK K
      (try simp only [Act.put, List.setIfInBounds_toArray, List.set_cons_zero, List.set_cons_succ])
      repeat ((first | refine tk 0 ?_ rfl ?_ ?_ | refine tk 1 ?_ rfl ?_ ?_ | refine tk 4 ?_ rfl ?_ ?_ | refine tk 5 ?_ rfl ?_ ?_ | refine tk 6 ?_ rfl ?_ ?_ | refine tk 8 ?_ rfl ?_ ?_ | refine tk 9 ?_ rfl ?_ ?_ | refine tk 10 ?_ rfl ?_ ?_ | refine tk 11 ?_ rfl ?_ ?_); rotate_left; (intro wy hSw; (try dsimp only at hSw); (go_simp <;> with_reducible rfl)); (try simp only [List.getElem_toArray, List.getElem_cons_zero, List.getElem_cons_succ, Act.put, List.setIfInBounds_toArray, List.set_cons_zero, List.set_cons_succ]))
      refine wpT_done (by kernel_rfl) ?_
      have c5 := BF.out.cell (i := 0) rfl
      have f5 := BF.out.free 0
      go_wp2_with fail
      go_end0
      exact ⟨rfl, by rw [HSB.out]; exact BF.out.set 0 _, (Touch.of_below XF.out).trans (Touch.setCell (F := fun k => k = O) (a := ⟨O, 0, none⟩) rfl _)⟩
end Go.Proofs.YthoalneknadheaaGreatDoor
namespace Go.Proofs.YthoalneknadheaaGreatDoor
open Go.RowKit Go.Lib

set_option maxRecDepth 100000 in
theorem ru_any (n : Nat) (hn : n ≤ 9223372036854775807) (w : World) :
    Calls Tryz.prog 35 #[.int .i64 (n : Int)] w fun e w' => e = .returned (.string (numB n)) ∧ Below w.heap.size w w' := by
  have HU := hid (fun wx => refLebU 9 n wx (by omega) (by have : (18446744073709551616 : Nat) < 128 ^ (9 + 1) := by decide
                                                          omega) (by decide))
  have hw : IntKind.u64.wrap (n : Int) = n := by rw [Go.IntKind.wrap_u64]; omega
  go_enter Tryz.func35, Tryz.ntmps35
  go_wp2_with fail
  refine (HU.out _).mono ?_
  rintro r w' ⟨rfl, hb⟩
  go_wp2_with fail
  go_ret
  exact ⟨rfl, hb⟩
set_option maxRecDepth 100000 in
set_option maxHeartbeats 2000000 in
theorem rkindB_any (W w : World) (v : Value) (ys : List Int) (hb : Below W.heap.size W w) (hl : Ints W .u8 v ys) (hlen : ys.length ≤ 16) (hy : ∀ z ∈ ys, 0 ≤ z ∧ z ≤ 255) :
    Calls Tryz.prog 96 #[v] w fun e w' => e = .returned (.string (kindsB ys)) ∧ Below w.heap.size w w' := by
  have HN := hid (fun wx => ru_any ys.length (by omega) wx)
  have HL := hid hl
  have HB := hid hb
  obtain ⟨ao, cap, rfl, hcap, hcm, _, _⟩ := id hl
  have HY := hid hy
  have HNX := hid (fun (b : ByteArray) k (hk : k < ys.length) => catB_more oneB ys k hk b)
  have HSZ := hid (numB_size ys.length)
  have HCS := hid (fun k => catB_size oneB 1 (ys.take k) (fun x _ => by rw [oneB_size]; exact Nat.le_refl _))
  obtain ⟨n, hn⟩ : ∃ n, ys.length = n := ⟨_, rfl⟩
  have HLN := hid hn
  rw [hn] at hcap HL HN HSZ hlen
  rw [hn]
  have hn9 : (n : Int) ≤ 16 := by omega
  clear hl hb hn hy hlen
  go_enter Tryz.func96, Tryz.ntmps96
  go_wp2_with fail
  refine (HN.out _).mono ?_
  rintro r w1 ⟨rfl, hb1⟩
  have B1 := hid hb1
  clear hb1
  go_wp2_with fail
  go_loopw [3, 5, 11] (fun o _ i wr => ∃ (k : Nat) (b : ByteArray), k ≤ n ∧ i = .int .i64 k ∧ o = .string b ∧ Hid (b = numB n ++ catB oneB (ys.take k)) ∧ Hid (Below w.heap.size w wr)) (fun _ _ i _ => n - (RowKit.intOf i).toNat)
  case atStart => exact ⟨0, _, Nat.zero_le _, rfl, rfl, hid (ba_nil _).symm, B1⟩
  case round =>
    obtain ⟨k, b, hk, rfl, rfl, HBK, BW⟩ := hrel
    by_cases hlt : k < n
    · have hkl : k < ys.length := by rw [HLN.out]; exact hlt
      have hI := L1.below HL.out (HB.out.trans (BW.out.mono HB.out.size))
      rcases hI.open with ⟨_, _, _, e, _⟩ | ⟨lb, lo, cap', hv, _, hcap3, hcap2, hc⟩
      · rw [e] at hkl; simp at hkl
      simp only [Value.slice.injEq] at hv
      obtain ⟨rfl, -, rfl⟩ := hv
      have y0 := hc k hkl
      have HNK := hid (HNX.out (numB n) k hkl)
      have hy1 := HY.out _ (List.getElem_mem hkl)
      have hbs : b.size ≤ 26 := by
        rw [HBK.out, ba_size]
        have h1 := HSZ.out
        have h2 := HCS.out k
        rw [List.length_take] at h2
        omega
      clear hc hI hcap3
      generalize ys[k] = y at *
      clear hkl
      obtain ⟨hy0, hy9⟩ := hy1
      have hcat : ¬ 9223372036854775807 < b.size + (S [byteOf y]).size := by rw [S_size]; simp; omega
      clear hbs
      go_wp2_with fail
      refine (chr_any y _).mono ?_
      rintro r w2 ⟨rfl, hb2⟩
      have B2 := hid (BW.out.trans (hb2.mono BW.out.size))
      clear hb2
      go_wp2_with fail
      go_roundw
      case rel => exact ⟨k + 1, _, by omega, by go_num, rfl, hid (by rw [HBK.out, ← HNK.out]; rfl), B2⟩
      case measure => simp [RowKit.intOf]; omega
    · obtain rfl : k = n := by omega
      go_wp2_with fail
      go_ret
      exact ⟨by rw [HBK.out, ← HLN.out, List.take_length]; rfl, BW.out⟩
set_option maxRecDepth 100000 in
theorem rnameB_any (s : ByteArray) (hs : s.size ≤ 127) (w : World) :
    Calls Tryz.prog 97 #[.string s] w fun e w' => e = .returned (.string (oneB s.size ++ s)) ∧ Below w.heap.size w w' := by
  have hcat : ¬ 9223372036854775807 < (S [byteOf s.size]).size + s.size := by rw [S_size]; simp; omega
  have hs2 : (s.size : Int) ≤ 127 := by omega
  go_enter Tryz.func97, Tryz.ntmps97
  go_wp2_with fail
  refine (chr_any s.size _).mono ?_
  rintro r w2 ⟨rfl, hb2⟩
  go_wp2_with fail
  go_ret
  exact ⟨rfl, hb2⟩
end Go.Proofs.YthoalneknadheaaGreatDoor
