/-
  FRAMES: Write of both sides. Condition: none beside the body's length in the form's reach.
-/
import Derived.Test.YtpapblahnbeccaaFrn
import Derived.Test.YtpapblahnbeccaaStep
namespace Go.Proofs.Ytpapblahnbeccaa
open Go.RowKit Go.Lib
attribute [local go_sem ↓] Go.wp_at_zero Go.wp_at_succ

def outB (f : Frm) : List UInt8 := [byteOf f.fr, byteOf f.to] ++ beB f.seq.toNat 8 ++ beB f.ack.toNat 8 ++ [byteOf f.body.size] ++ f.body.data.toList
def wrV (f : Frm) : Value := if chkFr f = 0 then .tuple #[.string (S (outB f ++ leB (crcF (outB f)).toNat 4)), .int .i64 0] else .tuple #[.string ⟨#[]⟩, .int .i64 (chkFr f)]
theorem chk_ok {f : Frm} (h : chkFr f = 0) : frmOk f ∧ f.body.size ≤ 64 := by
  unfold chkFr at h
  by_cases g : frmOk f
  · rw [if_pos g] at h
    by_cases g2 : 64 < f.body.size
    · rw [if_pos g2] at h; omega
    · exact ⟨g, by omega⟩
  · rw [if_neg g] at h; omega
theorem Blk.under {w w' : World} {b B : Nat} {ty : TypeId} {cs : List Value} (h : Blk w b ty cs) (hb : Below B w w') (hlt : b < B) : Blk w' b ty cs := by
  unfold Blk
  rw [hb.block b hlt]; exact h
theorem retSI {a b : List UInt8} {k : IntKind} {n : Int} : Ending.returned (.tuple #[.string (S a ++ S b), .int k n]) = .returned (.tuple #[.string (S (a ++ b)), .int k n]) := by rw [S_append]
theorem lit_own (w : World) (t : TypeId) (xs : List Int) (m : Nat) (hm : m = w.heap.size) (h : xs.length ≤ 1000) : OwnI (w.alloc (.cells (xs.map (Value.int .u8)).toArray t)) m .u8 t (.slice (some ⟨m, 0, none⟩) xs.length xs.length) xs := by
  subst hm
  exact World.ownsRow_lit (e := t) (size := 1) w (xs.map (Value.int .u8)).toArray xs.length (Nat.le_refl _) (by unfold maxLen; omega) (by simp)

set_option maxRecDepth 100000 in
set_option maxHeartbeats 4000000 in
theorem fwrite_any (f : Frm) (w : World) : Calls Try.prog 13 #[frmV f] w fun e w' => e = .returned (wrV f) ∧ Below w.heap.size w w' := by
  have hck := fun wx => fcheck_any f wx
  unfold wrV
  by_cases h : chkFr f = 0
  · rw [if_pos h]
    rw [h] at hck
    obtain ⟨hok, hb64⟩ := chk_ok h
    obtain ⟨fr, tt, seq, ack, body⟩ := f
    obtain ⟨_, _, _, hs, ha, _⟩ := hok
    simp only [between] at hs ha hb64
    obtain ⟨sq, rfl⟩ := Int.eq_ofNat_of_zero_le hs.1
    obtain ⟨ak, rfl⟩ := Int.eq_ofNat_of_zero_le ha.1
    have hs2 : (sq : Int) ≤ 1099511627776 := hs.2
    have ha2 : (ak : Int) ≤ 1099511627776 := ha.2
    simp only [frmV] at *
    have HCK := hid hck
    have HB := Blk.new w #[.int .i64 fr, .int .i64 tt, .int .i64 sq, .int .i64 ak, .string body] 23 _ rfl
    have HBB := hid HB
    clear hck HB hs ha h
    go_enter Try.func13, Try.ntmps13
    go_wp2_with fail
    refine (HCK.out _).mono ?_
    rintro e w1 ⟨rfl, hb1⟩
    have hx1 := HBB.out.below hb1
    have c0 := hx1.cell (i := 0) rfl
    have c1 := hx1.cell (i := 1) rfl
    have HX1 := hid hx1
    have HB1 := hid hb1
    clear hx1 hb1
    have c2 := fun o => cell_alloc o (HX1.out.cell (i := 2) rfl)
    have c3 := fun o => cell_alloc o (HX1.out.cell (i := 3) rfl)
    have c4 := fun o => cell_alloc o (HX1.out.cell (i := 4) rfl)
    have hlit := lit_own w1 5 [fr % 256, tt % 256] _ rfl (by simp)
    have HLIT := hid hlit
    have hbw1 : w.heap.size < w1.heap.size := by have := HX1.out.lt; omega
    clear hlit
    go_wp2_with fail
    refine (high_any _ w1.heap.size _ _ sq (by omega) HLIT.out (by simp) (by simp)).mono ?_
    rintro e w2 ⟨v2, rfl, ho2, hb2⟩
    have hb12 : Below w1.heap.size w1 w2 := ((Below.refl _ _).alloc (Nat.le_refl _) _).trans hb2
    have HX2 := hid (HX1.out.below hb12)
    have HB12 := hid hb12
    have HO2 := hid ho2
    have d3 := HX2.out.cell (i := 3) rfl
    clear c2 c3 c4 hb12 hb2 ho2 c0 c1
    go_wp2_with fail
    refine (high_any _ w1.heap.size _ _ ak (by omega) HO2.out (by unfold numsL; rw [List.length_append, List.length_map, beB_len]; simp) HB12.out.size).mono ?_
    rintro e w3 ⟨v3, rfl, ho3, hb3⟩
    have hb13 : Below w1.heap.size w1 w3 := HB12.out.trans hb3
    have HX3 := hid (HX2.out.under hb3 hbw1)
    have HB13 := hid hb13
    have HO3 := hid ho3
    have e4 := HX3.out.cell (i := 4) rfl
    have hl3 : (([fr % 256, tt % 256] ++ numsL (beB sq 8)) ++ numsL (beB ak 8)).length = 18 := by unfold numsL; simp [beB_len]
    have HL3 := hid hl3
    clear d3 hb13 hb3 ho3 hl3
    go_wp2_with (first | (at_builtin; refine app_int elem_u8 (y := (body.size : Int)) rfl _ _ rfl rfl rfl rfl HO3.out (by rw [HL3.out]; omega) (by rw [HL3.out]; omega) HB13.out.size ?_; intro v4 w4 ho4 hb4 _; have HX4 := hid (HX3.out.under hb4 hbw1); have HB4 := hid hb4; have HO4 := hid ho4; have f4 := HX4.out.cell (i := 4) rfl; clear hb4 ho4 e4) | (at_builtin; go_must (refine app_str elem_u8 Try.underlying9 rfl _ _ rfl rfl rfl HO4.out (by rw [List.length_append, HL3.out]; simp; omega) (Nat.le_trans HB13.out.size HB4.out.size) ?_); intro v5 w5 ho5 hb5; have HB5 := hid hb5; have HO5 := hid ho5; clear hb5 ho5 f4))
    have hL : (((([fr % 256, tt % 256] ++ numsL (beB sq 8)) ++ numsL (beB ak 8)) ++ [(body.size : Int)]) ++ nums body).map (fun n => UInt8.ofNat n.toNat) = outB ⟨fr, tt, sq, ak, body⟩ := by
      unfold outB
      have hn : ∀ l : List UInt8, (numsL l).map (fun n => UInt8.ofNat n.toNat) = l := by
        intro l
        unfold numsL
        rw [List.map_map]
        exact (List.map_congr_left fun b _ => UInt8.ofNat_toNat).trans (List.map_id _)
      have hz : UInt8.ofNat (body.size : Int).toNat = byteOf body.size := by
        unfold byteOf
        rw [Int.emod_eq_of_lt (by omega) (by omega)]
      simp only [List.map_append, hn, nums_bytes, List.map_cons, List.map_nil, hz]
      rfl
    have hcv : ∀ wx, Below w5.heap.size w5 wx → (convert 133 9 v5).run Try.prog wx = .ok (.string (S (outB ⟨fr, tt, sq, ak, body⟩))) wx := by
      intro wx hb
      have h1 := conv_bytes (OwnI.ints (OwnI.below HO5.out hb))
      rw [hL] at h1
      exact h1
    have hLs : (outB ⟨fr, tt, sq, ak, body⟩).length = 19 + body.size := by
      unfold outB
      simp [beB_len]
      omega
    have HCV := hid hcv
    have hd0 := hcv w5.drew (drew_bel' (n := 1) (Below.refl _ _))
    have HD0 := hid hd0
    generalize hL0 : outB ⟨fr, tt, sq, ak, body⟩ = L at *
    have HL0 := hid hL0
    clear hL0
    have hs1 : (S L).size = 19 + body.size := by rw [S_size, hLs]
    have hs2 : (S (leB (crcF L).toNat 4)).size = 4 := by rw [S_size, leB_len]
    have hend := fun wx => ending_any (S L) wx (by rw [hs1]; omega)
    rw [S_data] at hend
    have HEND := hid hend
    have hs3 : ¬ (9223372036854775807 < 19 + body.size + 4) := by omega
    clear hL hcv hLs hend hd0
    go_region_held3 (fun w' => (convert 133 9 v5).run Try.prog w' = .ok (.string (S L)) w') (first | exact HD0.out | exact HC2.out)
      (first | (go_at_call 78; refine (HEND.out _).mono ?_; rintro e w6 ⟨rfl, hb6⟩; have HB6 := hid hb6; have HC2 := hid (HCV.out w6 ((drew_bel' (n := 1) (Below.refl _ _)).trans hb6)); clear hb6))
    all_goals
      go_wp2_with fail
      go_ret2
      refine ⟨?_, ?_⟩
      · rw [HL0.out]; exact retSI
      · have b1 : Below w.heap.size w w1 := ((Below.refl _ _).alloc (Nat.le_refl _) _).trans (HB1.out.mono (by simp))
        have b3 := b1.trans (HB13.out.mono (Nat.le_of_lt hbw1))
        have b5 := (b3.trans (HB4.out.mono (Nat.le_of_lt hbw1))).trans (HB5.out.mono (Nat.le_of_lt hbw1))
        exact (b5.trans (drew_bel' (n := 1) (Below.refl _ _))).trans (HB6.out.mono b5.size)
  · rw [if_neg h]
    have hz : (chkFr f == 0) = false := by simpa using h
    generalize chkFr f = c at *
    have HCK := hid hck
    unfold frmV at HCK ⊢
    clear hck h
    go_enter Try.func13, Try.ntmps13
    go_wp2_with fail
    refine (HCK.out _).mono ?_
    rintro e w1 ⟨rfl, hb1⟩
    have HB1 := hid hb1
    clear hb1
    go_wp2_with fail
    go_ret2
    exact ⟨rfl, ((Below.refl _ _).alloc (Nat.le_refl _) _).trans (HB1.out.mono (by simp))⟩

set_option maxRecDepth 100000 in
set_option maxHeartbeats 8000000 in
theorem rfwrite_any (f : Frm) (w : World) : Calls Try.prog 14 #[frmV f] w fun e w' => e = .returned (wrV f) ∧ Below w.heap.size w w' := by
  have hck := fun wx => rfcheck_any f wx
  unfold wrV
  by_cases h : chkFr f = 0
  · rw [if_pos h]
    rw [h] at hck
    obtain ⟨hok, hb64⟩ := chk_ok h
    obtain ⟨fr, tt, seq, ack, body⟩ := f
    obtain ⟨_, _, _, hs, ha, _⟩ := hok
    simp only [between] at hs ha hb64
    obtain ⟨sq, rfl⟩ := Int.eq_ofNat_of_zero_le hs.1
    obtain ⟨ak, rfl⟩ := Int.eq_ofNat_of_zero_le ha.1
    have hs2 : (sq : Int) ≤ 1099511627776 := hs.2
    have ha2 : (ak : Int) ≤ 1099511627776 := ha.2
    simp only [frmV] at *
    have HCK := hid hck
    have HB := Blk.new w #[.int .i64 fr, .int .i64 tt, .int .i64 sq, .int .i64 ak, .string body] 23 _ rfl
    have HBB := hid HB
    clear hck HB hs ha h
    go_enter Try.func14, Try.ntmps14
    go_wp2_with fail
    refine (HCK.out _).mono ?_
    rintro e w1 ⟨rfl, hb1⟩
    have hx1 := HBB.out.below hb1
    have HX1 := hid hx1
    have HB1 := hid hb1
    clear hx1 hb1
    go_wp2_with fail
    have hD : ∀ w', Below w1.drew.heap.size w1.drew w' → w'.cell? ⟨w.heap.size, 0, none⟩ = some (.int .i64 fr) ∧ w'.cell? ⟨w.heap.size, 1, none⟩ = some (.int .i64 tt) ∧ w'.cell? ⟨w.heap.size, 2, none⟩ = some (.int .i64 sq) ∧ w'.cell? ⟨w.heap.size, 3, none⟩ = some (.int .i64 ak) ∧ w'.cell? ⟨w.heap.size, 4, none⟩ = some (.string body) := by
      intro w' hb
      have hx : Blk w' w.heap.size 23 _ := HX1.out.below ((drew_bel' (n := 1) (Below.refl _ _)).trans hb)
      exact ⟨hx.cell rfl, hx.cell rfl, hx.cell rfl, hx.cell rfl, hx.cell rfl⟩
    have HD := hid hD
    have D0 := hid (Below.refl w1.drew.heap.size w1.drew)
    have hs8 : ∀ n, (S (beB n 8)).size = 8 := fun n => by rw [S_size, beB_len]
    have hs1 : ∀ n, (S [byteOf n]).size = 1 := fun n => rfl
    have hs9 : ¬ (9223372036854775807 < 19 + body.size) := by omega
    have hg1 : ∀ w, Calls Try.prog 80 #[.int .u64 sq, .int .i64 8] w fun e w' => e = .returned (.string (S (beB sq 8))) ∧ Below w.heap.size w w' := fun w => big_any 8 sq w (by omega) (by omega)
    have hg2 : ∀ w, Calls Try.prog 80 #[.int .u64 ak, .int .i64 8] w fun e w' => e = .returned (.string (S (beB ak 8))) ∧ Below w.heap.size w w' := fun w => big_any 8 ak w (by omega) (by omega)
    have hw1 : IntKind.u64.wrap (sq : Int) = sq := u64w sq (by omega)
    have hw2 : IntKind.u64.wrap (ak : Int) = ak := u64w ak (by omega)
    have HG1 := hid hg1
    have HG2 := hid hg2
    clear hD hg1 hg2
    go_region_held3 (fun w' => w'.cell? ⟨w.heap.size, 0, none⟩ = some (.int .i64 fr) ∧ w'.cell? ⟨w.heap.size, 1, none⟩ = some (.int .i64 tt) ∧ w'.cell? ⟨w.heap.size, 2, none⟩ = some (.int .i64 sq) ∧ w'.cell? ⟨w.heap.size, 3, none⟩ = some (.int .i64 ak) ∧ w'.cell? ⟨w.heap.size, 4, none⟩ = some (.string body)) (exact HD.out _ D0.out)
      (first | (go_at_call 79; ((with_reducible refine (chr_any _ _).mono ?_); rintro e w2 ⟨rfl, hb⟩; have D0 := hid (D0.out.trans (hb.mono D0.out.size)); clear hb)) | (go_at_call 80; ((with_reducible refine (HG1.out _).mono ?_); rintro e w4 ⟨rfl, hb⟩; have D0 := hid (D0.out.trans (hb.mono D0.out.size)); clear hb)) | (go_at_call 80; ((with_reducible refine (HG2.out _).mono ?_); rintro e w4 ⟨rfl, hb⟩; have D0 := hid (D0.out.trans (hb.mono D0.out.size)); clear hb)))
    have hL : S [byteOf fr] ++ S [byteOf tt] ++ S (beB sq 8) ++ S (beB ak 8) ++ S [byteOf body.size] ++ body = S (outB ⟨fr, tt, sq, ak, body⟩) := by
      rw [← S_of body]
      simp only [S_append, S_data]
      congr 1
    have hLs : (outB ⟨fr, tt, sq, ak, body⟩).length = 19 + body.size := by
      unfold outB
      simp [beB_len]
      omega
    generalize hL0 : outB ⟨fr, tt, sq, ak, body⟩ = L at *
    have HL0 := hid hL0
    have hsz1 : (S L).size = 19 + body.size := by rw [S_size, hLs]
    have hsz2 : (S (leB (crcF L).toNat 4)).size = 4 := by rw [S_size, leB_len]
    have hsum := fun wx => fsum_any (S L) wx (by rw [hsz1]; omega)
    rw [S_data] at hsum
    have hlit := fun wx => little_any (crcF L) wx
    generalize hr0 : crcF L = r at *
    have HR0 := hid hr0
    have HSUM := hid hsum
    have HLIT := hid hlit
    have hs3 : ¬ (9223372036854775807 < 19 + body.size + 4) := by omega
    rw [hL]
    clear hL0 hL hLs hsum hlit hr0
    go_wp2_with fail
    refine (HSUM.out _).mono ?_
    rintro e w6 ⟨rfl, hb6⟩
    have HB6 := hid hb6
    clear hb6
    unfold u32V at HLIT ⊢
    go_wp2_with fail
    refine (HLIT.out _).mono ?_
    rintro e w7 ⟨rfl, hb7⟩
    have HB7 := hid hb7
    clear hb7
    go_wp2_with fail
    go_ret2
    have b1 : Below w.heap.size w w1 := ((Below.refl _ _).alloc (Nat.le_refl _) _).trans (HB1.out.mono (by simp))
    have b2 := b1.trans ((drew_bel' (n := 1) (Below.refl _ _)).trans (D0.out.mono b1.size))
    have b3 := b2.trans (HB6.out.mono b2.size)
    exact ⟨by rw [HL0.out, HR0.out]; exact retSI, b3.trans (HB7.out.mono b3.size)⟩
  · rw [if_neg h]
    have hz : (chkFr f == 0) = false := by simpa using h
    generalize chkFr f = c at *
    have HCK := hid hck
    unfold frmV at HCK ⊢
    clear hck h
    go_enter Try.func14, Try.ntmps14
    go_wp2_with fail
    refine (HCK.out _).mono ?_
    rintro e w1 ⟨rfl, hb1⟩
    have HB1 := hid hb1
    clear hb1
    go_wp2_with fail
    go_ret2
    exact ⟨rfl, ((Below.refl _ _).alloc (Nat.le_refl _) _).trans (HB1.out.mono (by simp))⟩
end Go.Proofs.Ytpapblahnbeccaa
