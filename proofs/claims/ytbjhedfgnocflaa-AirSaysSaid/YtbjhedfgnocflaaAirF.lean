/-
  THE AIR: the reference's Turn. Conditions: the object's own invariant; texts of at most 100 bytes.
-/
import Derived.Test.YtbjhedfgnocflaaAirE
import Derived.Test.YtbjhedfgnocflaaLawK
import Derived.Lib.Strings
namespace Go.Proofs.Ytbjhedfgnocflaa
open Go.RowKit Go.Lib
attribute [local go_sem ↓] Go.wp_at_zero Go.wp_at_succ

theorem i64_xor_nat (a b : Nat) (ha : a < 256) (hb : b < 256) : bits .xor .i64 (a : Int) (b : Int) = ((a ^^^ b : Nat) : Int) := by
  have hx : a ^^^ b < 2 ^ 8 := Nat.xor_lt_two_pow (by omega) (by omega)
  have e : ∀ n : Nat, n < 256 → (BitVec.ofInt 64 (n : Int)).toNat = n := by
    intro n hn
    rw [BitVec.ofInt_natCast, BitVec.toNat_ofNat]; exact Nat.mod_eq_of_lt (by omega)
  show IntKind.i64.wrap ((BitVec.ofInt 64 (a : Int) ^^^ BitVec.ofInt 64 (b : Int)).toNat : Int) = _
  rw [BitVec.toNat_xor, e a ha, e b hb]
  exact IntWalk.i64_in _ (by omega)
theorem ext_S (t : ByteArray) (a b : Nat) : t.extract a b = S ((t.data.toList.drop a).take (b - a)) := by
  rw [← S_of (t.extract a b), extract_data]
theorem turn_text (t : ByteArray) (a b : Int) (j m : Nat) (hj : a % (t.size : Int) = j) (hjt : j < t.size) (hm : b % 256 = m) (hm2 : m < 256) :
    t.extract 0 j ++ S [byteOf (bits .xor .i64 (IntKind.i64.wrap ((t[j]'hjt).toNat : Int)) (m : Int))] ++ t.extract (j + 1) t.size = turnT t a b := by
  have hl9 : t.data.toList.length = t.size := by simp
  have hjl : j < t.data.toList.length := by omega
  have hc := (t[j]'hjt).toNat_lt
  unfold turnT turnB
  rw [if_neg (by omega), ext_S, ext_S, S_append, S_append, hl9, hj, Int.toNat_natCast, IntWalk.i64_in _ (by omega), i64_xor_nat _ _ hc hm2]
  congr 1
  rw [List.take_of_length_le (l := t.data.toList.drop (j + 1)) (by rw [List.length_drop]; omega), List.drop_zero, Nat.sub_zero, List.set_eq_take_append_cons_drop, if_pos hjl, List.append_assoc]
  congr 1
  rw [List.singleton_append]
  congr 1
  rw [List.getD_eq_getElem?_getD, List.getElem?_eq_getElem hjl]
  show byteOf _ = t.data.toList[j] ^^^ byteOf b
  have h1 : (t[j]'hjt) = t.data.toList[j] := rfl
  rw [h1, ← xor_byte, hm, u8_xor_nat _ _ (UInt8.toNat_lt _) hm2]
  unfold byteOf
  congr 1
  have hx : t.data.toList[j].toNat ^^^ m < 2 ^ 8 := Nat.xor_lt_two_pow (UInt8.toNat_lt _) (by omega)
  omega

theorem air_rturn {ty E : TypeId} {w w2 w4 : World} {base B g2 cap2 i n : Nat} {v a : Value} {xs : List Way} {d : Int} {t : ByteArray} (h : ABox ty E w base B v xs) (hb2 : Below w.heap.size w w2) (hn : n = xs.length) (ho2 : Ok encWay 2 w2 w.heap.size E (.slice (some ⟨g2, 0, none⟩) n cap2) xs) (hg : w.heap.size ≤ g2)
    (hb4 : Below ((w2.setCell ⟨B, 0, none⟩ (.slice (some ⟨g2, 0, none⟩) n cap2)).drew).heap.size ((w2.setCell ⟨B, 0, none⟩ (.slice (some ⟨g2, 0, none⟩) n cap2)).drew) w4) (hi : i < xs.length) (hd : d = xs[i].to) :
    AirPost ty E w base B v a (xs.set i ⟨d, t⟩) (.returned a) (w4.setCell ⟨g2, i * 2 + 1, none⟩ (.string t)) := by
  subst hd hn
  have hlt := h.blk.lt
  have hne : g2 ≠ B := by omega
  have k1 := h.blk.below hb2
  have ho2b : Ok encWay 2 w2 base E (.slice (some ⟨g2, 0, none⟩) xs.length cap2) xs := by
    have ho : w2.ownsRow w.heap.size E 2 (.slice (some ⟨g2, 0, none⟩) xs.length cap2) xs.length (xs.flatMap encWay) := ho2
    exact own_mono ho h.base
  have hA : AirPost ty E w base B v a xs (.returned a) (w2.setCell ⟨B, 0, none⟩ (.slice (some ⟨g2, 0, none⟩) xs.length cap2)) :=
    air_new h (Touch.of_below hb2) k1 ho2b (fun k hk => .inr (by
      have hk2 : g2 = k := by (injection hk)
      omega))
  have h3 : ABox ty E (w2.setCell ⟨B, 0, none⟩ (.slice (some ⟨g2, 0, none⟩) xs.length cap2)) base B (.slice (some ⟨g2, 0, none⟩) xs.length cap2) xs :=
    ⟨k1.set 0 _, ownsRow_setCell_other (a := ⟨B, 0, none⟩) ho2b (fun e => hne (by injection e)) _, fun e => hne (by injection e), h.le, by have := h.base; have := hb2.size; simp; omega⟩
  have hT3 : Touch (footA B v) w (w2.setCell ⟨B, 0, none⟩ (.slice (some ⟨g2, 0, none⟩) xs.length cap2)) := (Touch.of_below hb2).trans (Touch.setCell (.inl rfl) _)
  have hb4' : Below (w2.setCell ⟨B, 0, none⟩ (.slice (some ⟨g2, 0, none⟩) xs.length cap2)).heap.size (w2.setCell ⟨B, 0, none⟩ (.slice (some ⟨g2, 0, none⟩) xs.length cap2)) w4 :=
    (drew_bel' (n := 1) (Below.refl _ _)).trans hb4
  obtain ⟨v', he, hbox, htt, hff⟩ := air_turn (a := a) (t := t) h3 hb4' hi rfl
  refine ⟨v', he, hbox, hT3.trans' htt ?_, ?_⟩
  · rintro k hk (e | e)
    · exact .inl e
    · have e2 : g2 = k := by injection e
      omega
  · intro k hk
    rcases hff k hk with e | e
    · have e2 : g2 = k := by injection e
      exact .inr (by omega)
    · have := hT3.size; exact .inr (by omega)

set_option maxRecDepth 100000 in
set_option maxHeartbeats 8000000 in
theorem rturn_any (w : World) (base B : Nat) (v : Value) (xs : List Way) (k a b : Int) (h : ABox 85 92 w base B v xs) (hl : xs.length ≤ 40) (ht : ∀ x ∈ xs, x.text.size ≤ 100) (ha1 : -9223372036854775808 ≤ a) (ha2 : a ≤ 9223372036854775807) (hb1 : -9223372036854775808 ≤ b) (hb2 : b ≤ 9223372036854775807) :
    Calls Try.prog 54 #[.pointer (some ⟨B, 0, none⟩), .int .i64 k, .int .i64 a, .int .i64 b] w (AirPost 85 92 w base B v (.int .i64 (if inA k xs then 0 else 13)) (turnL k a b xs)) := by
  have hh := fun wx => outs_any k 0 ((xs.length : Int) - 1) wx
  rw [out_in] at hh
  have q0 := h.blk.cell (i := 0) rfl
  unfold turnL
  by_cases hin : inA k xs
  · rw [if_pos hin, if_pos hin]
    rw [decide_eq_true hin, Bool.not_true] at hh
    obtain ⟨i, rfl⟩ := Int.eq_ofNat_of_zero_le hin.1
    have hi : i < xs.length := by have := hin.2; omega
    rw [atW_get hi, Int.toNat_natCast]
    obtain ⟨g, cap, rfl, hg1, hg2, hg3, hg4⟩ := own_head h.own (by omega)
    obtain ⟨_, _, _, hc⟩ := lk_cells h.own.lk encWay_len (by decide) (by omega)
    have x1 := hc i hi 1 (by decide)
    rw [show (encWay xs[i])[1]? = some (.string xs[i].text) from rfl, Nat.zero_add] at x1
    have H := hid h
    have HH := hid hh
    have b1 : (i : Int) < (xs.length : Int) := by omega
    have hsz := ht _ (List.getElem_mem hi)
    clear hc hh hin h ht
    by_cases hz : xs[i].text.size = 0
    · have he : xs[i].text = ⟨#[]⟩ := by
        have : xs[i].text.data.size = 0 := hz
        rw [Array.size_eq_zero_iff] at this
        generalize xs[i].text = t at *
        obtain ⟨d⟩ := t
        simp only at this
        rw [this]
      have hset : xs.set i ⟨xs[i].to, turnT xs[i].text a b⟩ = xs := by
        have hset0 : (⟨xs[i].to, xs[i].text⟩ : Way) = xs[i] := rfl
        unfold turnT; rw [if_pos hz, hset0]; exact List.set_getElem_self hi
      rw [hset]
      rw [he] at x1
      clear hset hz he hsz
      go_enter Try.func54, Try.ntmps54
      go_wp2_with fail
      refine (HH.out _).mono ?_
      rintro e w1 ⟨rfl, rfl⟩
      go_wp2_with fail
      go_ret
      exact air_same H.out (Below.refl _ _) rfl
    · have hz0 : 1 ≤ (xs[i].text.size : Int) := by omega
      have he : xs[i].text.toList.isEmpty = false := by
        rw [ByteArray.toList_eq, List.isEmpty_eq_false_iff]
        intro e
        have h1 : xs[i].text.data.toList.length = 0 := by rw [e]; rfl
        have h2 : xs[i].text.data.toList.length = xs[i].text.size := by simp
        omega
      have hr1 := fun wx => rest_any a (xs[i].text.size : Int) wx ha1 ha2 hz0 (by omega)
      have hr2 := fun wx => rest_any b 256 wx hb1 hb2 (by omega) (by omega)
      have hp0 := Int.emod_nonneg a (by omega : (xs[i].text.size : Int) ≠ 0)
      have hp1 := Int.emod_lt_of_pos a (by omega : 0 < (xs[i].text.size : Int))
      obtain ⟨j, hj⟩ := Int.eq_ofNat_of_zero_le hp0
      rw [hj] at hr1 hp1
      obtain ⟨m, hm⟩ := Int.eq_ofNat_of_zero_le (Int.emod_nonneg b (by decide : (256 : Int) ≠ 0))
      have hm2 : m < 256 := by have := Int.emod_lt_of_pos b (by decide : (0 : Int) < 256); omega
      rw [hm] at hr2
      have HJ := hid hj
      have HM := hid hm
      clear hp0 hj hm
      have hcp := copy_Way _ xs w H.out.own.lk (by omega) (by omega)
      have HCP := hid hcp
      have HR1 := hid hr1
      have HR2 := hid hr2
      generalize ht9 : xs[i].text = t at *
      have XT := hid ht9
      clear hz hcp hr1 hr2 ht9
      go_enter Try.func54, Try.ntmps54
      go_wp2_with fail
      refine (HH.out _).mono ?_
      rintro e w1 ⟨rfl, rfl⟩
      go_wp2_with fail
      refine (HR1.out _).mono ?_
      rintro e w1 ⟨rfl, rfl⟩
      go_wp2_with fail
      refine HCP.out.mono ?_
      rintro e w2 ⟨v2, rfl, ho2, hb2⟩
      obtain ⟨g2, cap2, rfl, hh1, hh2, hh3, hh4⟩ := own_head ho2 (by omega)
      obtain ⟨_, _, _, hc2⟩ := lk_cells (Ok.lk ho2) encWay_len (by decide) (by omega)
      have x2 := hc2 i hi 1 (by decide)
      rw [show (encWay xs[i])[1]? = some (.string xs[i].text) from rfl, Nat.zero_add, XT.out] at x2
      have X2 := hid x2
      clear hc2 x2
      have k1 := H.out.blk.below hb2
      have q2 := k1.cell (i := 0) rfl
      have f2 := k1.free 0
      go_wp2_with fail
      have hne2 : g2 ≠ B := by have := H.out.blk.lt; omega
      have hD : ∀ w', Below ((w2.setCell ⟨B, 0, none⟩ (.slice (some ⟨g2, 0, none⟩) xs.length cap2)).drew).heap.size ((w2.setCell ⟨B, 0, none⟩ (.slice (some ⟨g2, 0, none⟩) xs.length cap2)).drew) w' → w'.cell? ⟨B, 0, none⟩ = some (.slice (some ⟨g2, 0, none⟩) xs.length cap2) ∧ w'.cell? ⟨g2, i * 2 + 1, none⟩ = some (.string t) ∧ w'.frozen? ⟨g2, i * 2 + 1, none⟩ = false := by
        intro w' hb
        have z1 : (w2.setCell ⟨B, 0, none⟩ (.slice (some ⟨g2, 0, none⟩) xs.length cap2)).drew.cell? ⟨B, 0, none⟩ = some (.slice (some ⟨g2, 0, none⟩) xs.length cap2) := World.cell?_setCell_same _ _ _ q2
        have z2 : (w2.setCell ⟨B, 0, none⟩ (.slice (some ⟨g2, 0, none⟩) xs.length cap2)).drew.cell? ⟨g2, i * 2 + 1, none⟩ = some (.string t) := by
          show (w2.setCell ⟨B, 0, none⟩ (.slice (some ⟨g2, 0, none⟩) xs.length cap2)).cell? ⟨g2, i * 2 + 1, none⟩ = some (.string t)
          rw [World.cell?_setCell_other (h := fun e => hne2 (by injection e with e; exact e.symm))]
          exact X2.out
        have z3 : (w2.setCell ⟨B, 0, none⟩ (.slice (some ⟨g2, 0, none⟩) xs.length cap2)).drew.frozen? ⟨g2, i * 2 + 1, none⟩ = false := by
          show (w2.setCell ⟨B, 0, none⟩ (.slice (some ⟨g2, 0, none⟩) xs.length cap2)).frozen? ⟨g2, i * 2 + 1, none⟩ = false
          rw [World.frozen?_setCell]
          exact World.ownsRow.frozenAt ho2 _
        exact ⟨(hb.cell (World.block_lt_of_cell? _ _ z1)).trans z1, (hb.cell (World.block_lt_of_cell? _ _ z2)).trans z2, (hb.frozen (World.block_lt_of_cell? _ _ z2)).trans z3⟩
      have HD := hid hD
      obtain ⟨c0, c1, c2⟩ := hD _ (Below.refl _ _)
      have hji : j < t.size := by omega
      have hwr : IntKind.i64.wrap ((j : Int) + 1) = (j : Int) + 1 := IntWalk.i64_in _ (by omega)
      have hj1 : (j : Int) + 1 ≤ (t.size : Int) := by omega
      have hj2 : (j : Int) ≤ (t.size : Int) := by omega
      have hj3 : (0 : Int) ≤ (j : Int) + 1 := by omega
      have hone : ∀ n, (S [byteOf n]).size = 1 := fun n => rfl
      have hmin : min j t.size = j := Nat.min_eq_left (by omega)
      have hs1 : ¬ (9223372036854775807 < j + 1) := by omega
      have hs2 : ¬ (9223372036854775807 < j + 1 + (t.size - (j + 1))) := by omega
      clear hD
      go_region_law (first | (go_simp; go_at_call 83; refine (HR2.out _).mono ?_; rintro e w' ⟨rfl, rfl⟩) | (go_simp; go_at_call 70; refine (chr_any _ _).mono ?_; rintro e w4 ⟨rfl, hb4⟩; obtain ⟨y0, y1, y2⟩ := HD.out _ hb4; have HB4 := hid hb4; clear hb4))
      all_goals
        go_wp2_with fail
        go_ret
        rw [turn_text t a b j m HJ.out hji HM.out hm2]
        exact air_rturn H.out hb2 rfl ho2 hh1 HB4.out hi rfl
  · rw [if_neg hin, if_neg hin]
    rw [decide_eq_false hin, Bool.not_false] at hh
    obtain ⟨ao, cap, hvv, _⟩ := own_sl h.own
    subst hvv
    have H := hid h
    have HH := hid hh
    clear hh hin h
    go_enter Try.func54, Try.ntmps54
    go_wp2_with fail
    refine (HH.out _).mono ?_
    rintro e w1 ⟨rfl, rfl⟩
    go_wp2_with fail
    go_ret
    exact air_same H.out (Below.refl _ _) rfl
end Go.Proofs.Ytbjhedfgnocflaa
