/-
  INSTRUCTIONS: the reference's InsWrite, at the kind with many numbers; all kinds together. Conditions: the number is a byte; the variable of the library that strings.Contains reads holds some number.
-/
import Derived.Test.YthoalneknadheaaGreatDoorGBinWrites9
import Derived.Test.YthoalneknadheaaGreatDoorGBinWrites28
namespace Go.Proofs.YthoalneknadheaaGreatDoor
open Go.RowKit Go.Lib
attribute [local go_sem ↓] Go.wp_at_zero Go.wp_at_succ

theorem elem_i64w : Elem Tryz.prog 160 2 (.int .i64 0) 1 8 := ⟨Tryz.underlying160, by kernel_rfl, rfl, by decide⟩
set_option maxRecDepth 100000 in
set_option maxHeartbeats 1000000 in
theorem copy_i64 (v : Value) (xs : List Int) (w : World) (hv : Ints w .i64 v xs) (hl : xs.length ≤ 1000) :
    Calls Tryz.prog 163 #[v] w fun e w' => ∃ v', e = .returned v' ∧ OwnI w' w.heap.size .i64 2 v' xs ∧ Below w.heap.size w w' := by
  have HV := hid hv
  clear hv
  go_enter Tryz.func163, Tryz.ntmps163
  go_wp2_with (at_builtin; go_must (refine app_ints elem_i64w (base := w.heap.size) rfl _ _ rfl rfl rfl (OwnI.nil _ _ _ _) HV.out (by simp; omega) (by simp; omega) (Nat.le_refl _) ?_); intro v' w' ho hb2 _)
  go_ret
  rw [List.nil_append] at ho
  exact ⟨_, rfl, ho, hb2⟩
theorem blk_at1 {w : World} {b : Nat} {ty : TypeId} {c : Value} (h : Blk w b ty [c]) : At w b 0 [c] := by
  intro j hj
  have e : j = 0 := by simp at hj; omega
  subst e
  exact h.cell (i := 0) rfl
theorem w4_end (op n : Nat) (xs : List Int) (A B : Int) (hn : xs.length = n) : w4 op n (xs ++ [A]) (n + 1) = wrI 4 op A B xs := by
  unfold w4 wrI wrB
  rw [List.take_of_length_le (by simp; omega), List.flatMap_append]
  simp [hn]

set_option maxRecDepth 100000 in
set_option maxHeartbeats 8000000 in
theorem rwr_4 (op : Nat) (hop : op < 256) (hk : tB op = 4) (A B : Int) (hA : -9223372036854775808 ≤ A ∧ A ≤ 9223372036854775807) (xs : List Int) (v : Value) (w : World) (hM : MaxL w) (hx : Ints w .i64 v xs) (hok : chkI 4 A B xs = 0) :
    Calls Tryz.prog 150 #[insV op A B v] w fun e w' => e = .returned (.tuple #[.string (S (wrI 4 op A B xs)), .int .i64 0]) ∧ Below w.heap.size w w' := by
  obtain ⟨_, h16, gA, gB, gT⟩ := chk_ok hok
  have hA0 : Below w.heap.size w (w.alloc (.cells #[.int .u8 op, .int .i64 A, .int .i64 B, v] 162)) := (Below.refl _ _).alloc (Nat.le_refl _) _
  have hblk := Blk.new w #[.int .u8 op, .int .i64 A, .int .i64 B, v] 162 _ rfl
  have b0 := hblk.cell (i := 0) rfl
  have b1 := hblk.cell (i := 1) rfl
  have b2 := hblk.cell (i := 2) rfl
  have b3 := hblk.cell (i := 3) rfl
  have hMA := hM.below hA0
  have HCK := hid (rchk_any op hop A B xs v (w.alloc (.cells #[.int .u8 op, .int .i64 A, .int .i64 B, v] 162)) hMA (L1.below hx hA0))
  rw [hk, hok] at HCK
  have HBS := hid (fun w' (hb : Below (w.alloc (.cells #[.int .u8 op, .int .i64 A, .int .i64 B, v] 162)).heap.size (w.alloc (.cells #[.int .u8 op, .int .i64 A, .int .i64 B, v] 162)) w') => rbeside_any op hop w' (hMA.below hb))
  rw [hk, show S (sdL 4) = ⟨#[116]⟩ from rfl] at HBS
  have HCO := hid (fun w' => chr_any (op : Int) w')
  have HCZ := hid (fun w' => chr_any 0 w')
  have HCA := hid (fun w' => chr_any A w')
  have HA := hid hA0
  have HX := hid (qHX hx op A B v 162)
  have HC := hid (qHC hblk)
  have hl1 : (S [byteOf (op : Int)]).size = 1 := S_size _
  obtain ⟨ao, cap, rfl, _⟩ := id hx
  clear hx hA0 hblk hk hok hM hMA
  have hall : xs.all isIx = true := gT
  have hbA := isIx_bd gA
  have HALL := hid (fun m (h : m ∈ xs ++ [A]) => show isIx m = true from by
    rcases List.mem_append.1 h with h | h
    · exact List.all_eq_true.1 hall m h
    · simp at h; subst h; exact gA)
  have HUX := hid (fun m (h : isIx m = true) w' => rlebU_ix m h w')
  have hnl : xs.length < 18446744073709551616 := by omega
  have HUN := hid (fun w' => refLebU 9 xs.length w' hnl (by have : (18446744073709551616 : Nat) ≤ 128 ^ (9 + 1) := by decide
                                                            omega) (by decide))
  have HCP := hid (fun v' w' h => copy_i64 v' xs w' h (by omega))
  generalize hn : xs.length = n at *
  have HN := hid hn
  have huN : (n : Int) % 18446744073709551616 = n := by omega
  have hlN := encU_len 9 n
  have hl2 : (S (encU 9 n)).size = (encU 9 n).length := S_size _
  have hcat : ¬ 9223372036854775807 < (S [byteOf (op : Int)]).size + (S (encU 9 n)).size := by omega
  have HS1 := hid (show S [byteOf (op : Int)] ++ S (encU 9 n) = S (w4 op n (xs ++ [A]) 0) from by rw [S_append]; unfold w4; simp)
  have HFIN := hid (w4_end op n xs A B hn)
  obtain ⟨RES, hR⟩ : ∃ R, R = S (wrI 4 op A B xs) := ⟨_, rfl⟩
  have HRES := hid hR
  clear hR
  have HL4 := hid (fun j => show (S (w4 op n (xs ++ [A]) j)).size ≤ 11 + 10 * j from by rw [S_size]; exact w4_len op n (xs ++ [A]) j)
  clear gA gB gT hl1 hl2 hbA hall hlN hn hnl
  generalize S [byteOf (op : Int)] = SO at *
  generalize S (encU 9 n) = SN at *
  go_enter Tryz.func150, Tryz.ntmps150
  go_wp2_with (first | (go_at_call 161; refine HCK.out.mono ?_; rintro r w1 ⟨rfl, hb1⟩; obtain ⟨y0, y1, y2, y3⟩ := HC.out _ hb1; have HB1 := hid hb1; clear hb1) | (go_at_call 34; with_reducible refine (HCO.out _).mono ?_; rintro r w2 ⟨rfl, hb2⟩; have HB2 := hid (HB1.out.trans (hb2.mono HB1.out.size)); obtain ⟨z0, z1, z2, z3⟩ := HC.out _ HB2.out; clear hb2) | (go_at_call 162; refine (HBS.out _ HB2.out).mono ?_; rintro r w3 ⟨rfl, hb3⟩; have HB3 := hid (HB2.out.trans (hb3.mono HB2.out.size)); clear hb3))
  have HI0 := hid (World.iter_heap w3 (⟨#[116]⟩ : ByteArray) 0)
  have HBL := hid (HB3.out.alloc HB3.out.size (.stringIter (⟨#[116]⟩ : ByteArray) 0))
  have HSZ := hid HB3.out.size
  clear b0 b1 b2 b3 y0 y1 y2 y3 z0 z1 z2 z3
  go_loopw [5] (fun o wr => ∃ (k : Nat) (acc : ByteArray), k ≤ 1 ∧ o = .string acc ∧ Hid ((k = 0 ∧ acc = SO) ∨ (k = 1 ∧ acc = RES)) ∧ Hid (wr.heap[w3.heap.size]? = some (.stringIter (⟨#[116]⟩ : ByteArray) k)) ∧ Hid (Below (w.alloc (.cells #[.int .u8 op, .int .i64 A, .int .i64 B, .slice ao n cap] 162)).heap.size (w.alloc (.cells #[.int .u8 op, .int .i64 A, .int .i64 B, .slice ao n cap] 162)) wr)) (fun _ wr => 1 - wr.iterPos w3.heap.size)
  case atStart => exact ⟨0, SO, Nat.zero_le _, rfl, hid (.inl ⟨rfl, rfl⟩), HI0, HBL⟩
  case round =>
    obtain ⟨k, acc, hk, rfl, hacc, HI, HB⟩ := hrel
    rcases (by omega : k = 0 ∨ k = 1) with rfl | rfl
    · obtain rfl : acc = SO := by
        rcases hacc.out with ⟨e, h⟩ | ⟨e, h⟩
        · exact h
        · exfalso; omega
      clear hacc
      have hnext : ∀ ty, (Instr.next (.pointer (some ⟨w3.heap.size, 0, none⟩)) true ty).run Tryz.prog wr = .ok (.tuple #[.bool true, .int .i64 0, .int .i32 116]) (wr.iterAt w3.heap.size (⟨#[116]⟩ : ByteArray) 1) := fun ty => run_next_ascii_at wr w3.heap.size (⟨#[116]⟩ : ByteArray) 0 ty HI.out (by decide) (by decide)
      have hmu := hid (show wr.iterPos w3.heap.size = 0 by simp [World.iterPos, HI.out])
      have hI1 := hid (iterAt_heap wr w3.heap.size (⟨#[116]⟩ : ByteArray) 0 1 HI.out)
      have hb1 := hid (below_iterAt HB.out HSZ.out (⟨#[116]⟩ : ByteArray) 1)
      generalize wr.iterAt w3.heap.size (⟨#[116]⟩ : ByteArray) 1 = W1 at *
      obtain ⟨c0, c1, c2, c3⟩ := HC.out _ hb1.out
      have hlt := hid (lt_of_block hI1.out)
      go_wp2_with (go_at_call 101; refine (HUN.out _).mono ?_; rintro r w5 ⟨rfl, hb5⟩; have HB5 := hid (hb1.out.trans (hb5.mono hb1.out.size)); have HI5 := hid ((hb5.block w3.heap.size hlt.out).trans hI1.out); obtain ⟨d0, d1, d2, d3⟩ := HC.out _ HB5.out; clear hb5)
      clear c0 c1 c2 c3 d0 d2
      have HD := hid (HB5.out.drew)
      have qd1 : ∀ o, (w5.alloc o).drew.cell? ⟨w.heap.size, 1, none⟩ = some (.int .i64 A) := fun o => cell_alloc o d1
      have qd3 : ∀ o, (w5.alloc o).drew.cell? ⟨w.heap.size, 3, none⟩ = some (.slice ao n cap) := fun o => cell_alloc o d3
      have hn1 : n + 1 ≤ 17 := by omega
      go_region_law (first | (go_simp; go_at_call 163; refine (HCP.out _ _ (by first | exact HX.out _ HD.out | exact HX.out _ (HD.out.alloc HD.out.size _))).mono ?_; rintro r w6 ⟨v6, rfl, ho6, hb6⟩; have HO6 := hid ho6; have hbs6 := hid hb6.size; have HB6 := hid (show Below w5.drew.heap.size w5.drew w6 from by first | exact hb6 | exact ((Below.refl _ _).alloc (Nat.le_refl _) _).trans (hb6.mono (((Below.refl w5.drew.heap.size w5.drew).alloc (Nat.le_refl _) _).size))); (try have hbk := hid ((Blk.new w5.drew #[.int .i64 A] 2 _ rfl).below hb6)); obtain ⟨e0, e1, e2, e3⟩ := HC.out _ (HD.out.trans (HB6.out.mono HD.out.size)); clear hb6 ho6) | (refine step_one1 elem_i64w (cs := [.int .i64 A]) rfl _ _ rfl rfl rfl rfl HO6.out rfl one_int (by rw [HN.out]; omega) (by rw [HN.out]; omega) hbs6.out ?_; intro v7 w7 ho7 hb7 hg7; rw [HN.out] at ho7; obtain ⟨ao7, cap7, rfl, _⟩ := own_sl ho7; have HO7 := hid ho7; have HB7 := hid (HB6.out.trans (hb7.mono (Nat.le_refl _))); clear ho7 hb7 hg7) | (go_loud (refine step_one elem_i64w (cs := [.int .i64 A]) (by rfl) _ _ (by rfl) (by rfl) (by rfl) (blk_at1 hbk.out) HO6.out rfl one_int (by rw [HN.out]; omega) (by rw [HN.out]; omega) hbs6.out ?_; intro v7 w7 ho7 hb7 hg7; rw [HN.out] at ho7; obtain ⟨ao7, cap7, rfl, _⟩ := own_sl ho7; have HO7 := hid ho7; have HB7 := hid (HB6.out.trans (hb7.mono (((Below.refl w5.drew.heap.size w5.drew).alloc (Nat.le_refl _) _).size))); clear ho7 hb7 hg7)) | (trace_state; fail))
      all_goals
        have HR7 := hid (fun wr (hb : Below w7.heap.size w7 wr) => show Ints wr .i64 (.slice ao7 (n + 1) cap7) (xs ++ [A]) from by
          have h9 := Sl.below (own_sl HO7.out) hb
          show Sl wr _ (xs ++ [A]).length ((xs ++ [A]).map _)
          rw [List.map_append, List.length_append, HN.out]
          exact h9)
        have HI7 := hid ((HB7.out.block w3.heap.size (show w3.heap.size < w5.heap.size from lt_of_block HI5.out)).trans HI5.out)
        have HBA := hid (HD.out.trans (HB7.out.mono HD.out.size))
        have HLI := hid (show w3.heap.size < w7.heap.size from lt_of_block HI7.out)
        clear d1 d3 qd1 qd3 e0 e1 e2 e3
        go_simp
        go_wp2_with fail
        go_loopw [80, 5] (fun i o wx => ∃ (j : Nat) (aa : ByteArray), j ≤ n + 1 ∧ i = .int .i64 j ∧ o = .string aa ∧ Hid (aa = S (w4 op n (xs ++ [A]) j)) ∧ Hid (Below w7.heap.size w7 wx)) (fun i _ _ => n + 1 - (RowKit.intOf i).toNat)
        case atStart => exact ⟨0, _, Nat.zero_le _, rfl, rfl, HS1, hid (Below.refl _ _)⟩
        case round =>
          obtain ⟨j, aa, hj, rfl, rfl, haa, HBX⟩ := hrel
          have hsz := HL4.out j
          rw [← haa.out] at hsz
          by_cases hlt0 : j < n + 1
          · have hlt1 : j < (xs ++ [A]).length := by rw [List.length_append, HN.out]; exact hlt0
            have hltI : (j : Int) < (n : Int) + 1 := by omega
            rcases L1.open (HR7.out _ HBX.out) with ⟨_, _, _, e, _⟩ | ⟨lb, lo, cap', hv, _, _, _, hc⟩
            · rw [e] at hlt1; simp at hlt1
            simp only [Value.slice.injEq] at hv
            obtain ⟨rfl, hnn, rfl⟩ := hv
            clear hnn
            have ha := hc j hlt1
            have hnx := w4_next (op := op) (n := n) hlt1
            have hmem := List.getElem_mem hlt1
            generalize (xs ++ [A])[j] = m at *
            have hm := isIx_bd (HALL.out m hmem)
            have hum : (m : Int) % 18446744073709551616 = m := by omega
            have HUM := hid (HUX.out m (HALL.out m hmem))
            have hlM := encU_len 9 m.toNat
            have hl2 : (S (encU 9 m.toNat)).size = (encU 9 m.toNat).length := S_size _
            have hcat : ¬ 9223372036854775807 < aa.size + (S (encU 9 m.toNat)).size := by omega
            have HNX := hid (show aa ++ S (encU 9 m.toNat) = S (w4 op n (xs ++ [A]) (j + 1)) from by rw [hnx, haa.out, S_append])
            clear hc hnx hmem hm hlM hl2 haa
            generalize S (encU 9 m.toNat) = SM at *
            go_wp2_with (go_at_call 101; refine (HUM.out _).mono ?_; rintro r w8 ⟨rfl, hb8⟩; have HB8 := hid (HBX.out.trans (hb8.mono HBX.out.size)); clear hb8)
            go_roundw
            case rel => exact ⟨j + 1, _, by omega, by go_num, rfl, HNX, HB8⟩
            case measure => simp [RowKit.intOf]; omega
          · obtain rfl : j = n + 1 := by omega
            have HAA := hid (show aa = RES from by rw [haa.out, HFIN.out, HRES.out])
            have HIX := hid ((HBX.out.block w3.heap.size HLI.out).trans HI7.out)
            have HBZ := hid (HBA.out.trans (HBX.out.mono HBA.out.size))
            clear haa hsz
            go_wp2_with fail
            go_roundw
            case rel => exact ⟨1, aa, by decide, rfl, hid (.inr ⟨rfl, HAA.out⟩), HIX, HBZ⟩
            case measure =>
              have h2 : wr.iterPos w3.heap.size = 1 := by simp [World.iterPos, HIX.out]
              rw [hmu.out, h2]; decide
    · obtain rfl : acc = RES := by
        rcases hacc.out with ⟨e, h⟩ | ⟨e, h⟩
        · exfalso; omega
        · exact h
      clear hacc
      have hnext : ∀ ty, (Instr.next (.pointer (some ⟨w3.heap.size, 0, none⟩)) true ty).run Tryz.prog wr = _ := fun ty => run_next_end_at wr w3.heap.size (⟨#[116]⟩ : ByteArray) 1 ty HI.out (by decide)
      go_wp2_with fail
      go_ret2
      exact ⟨by rw [← HRES.out]; rfl, HA.out.trans (HB.out.mono HA.out.size)⟩

set_option maxRecDepth 100000 in
set_option maxHeartbeats 4000000 in
theorem rwr_bad (op : Nat) (hop : op < 256) (A B : Int) (xs : List Int) (v : Value) (w : World) (hM : MaxL w) (hx : Ints w .i64 v xs) (hbad : chkI (tB op) A B xs ≠ 0) :
    Calls Tryz.prog 150 #[insV op A B v] w fun e w' => e = .returned (.tuple #[.string ⟨#[]⟩, .int .i64 (chkI (tB op) A B xs)]) ∧ Below w.heap.size w w' := by
  have hA0 : Below w.heap.size w (w.alloc (.cells #[.int .u8 op, .int .i64 A, .int .i64 B, v] 162)) := (Below.refl _ _).alloc (Nat.le_refl _) _
  have hblk := Blk.new w #[.int .u8 op, .int .i64 A, .int .i64 B, v] 162 _ rfl
  have b0 := hblk.cell (i := 0) rfl
  have b1 := hblk.cell (i := 1) rfl
  have b2 := hblk.cell (i := 2) rfl
  have b3 := hblk.cell (i := 3) rfl
  have HCK := hid (rchk_any op hop A B xs v (w.alloc (.cells #[.int .u8 op, .int .i64 A, .int .i64 B, v] 162)) (hM.below hA0) (L1.below hx hA0))
  have HA := hid hA0
  have hne : (chkI (tB op) A B xs != 0) = true := by simpa using hbad
  generalize chkI (tB op) A B xs = E at *
  clear hx hA0 hblk hbad hM
  go_enter Tryz.func150, Tryz.ntmps150
  go_wp2_with (go_at_call 161; refine HCK.out.mono ?_; rintro r w1 ⟨rfl, hb1⟩; have HB1 := hid hb1; clear hb1)
  go_ret2
  exact ⟨rfl, HA.out.trans (HB1.out.mono HA.out.size)⟩
end Go.Proofs.YthoalneknadheaaGreatDoor
