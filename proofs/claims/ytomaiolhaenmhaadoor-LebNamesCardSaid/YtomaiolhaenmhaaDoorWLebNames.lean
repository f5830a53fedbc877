/-
  THE LAW LebNames: the program's names and the reference's are one, for all strings. Condition: unicode/utf8's two tables hold what the row lists.
-/
import Derived.Test.YtomaiolhaenmhaaDoorUtw
import Derived.Test.YtomaiolhaenmhaaDoorLebV
import Derived.Test.YtomaiolhaenmhaaDoorLebT
import Derived.Test.YtomaiolhaenmhaaDoorShelf
import Derived.Test.YtomaiolhaenmhaaDoorDec
import Derived.Test.YtomaiolhaenmhaaDoorRows
import Derived.Lib.LaidU8T
import Derived.PinnedBridge
namespace Go.Proofs.YtomaiolhaenmhaaDoor
open Go.RowKit

abbrev UTabs (w : World) : Prop := Lib.Utf8Tabs (Tryd.laysValid_ren.g 3) (Tryd.laysValid_ren.g 4) w
theorem u8extra : U8Extra Tryd.prog Tryd.laysValid_ren := ⟨by kernel_rfl, by kernel_rfl, by kernel_rfl, by kernel_rfl, by kernel_rfl, by kernel_rfl, by kernel_rfl⟩
theorem laid_accept : (Rows.laid_unicode_utf8_acceptRanges : DataW Unit) = Lib.acceptData := by kernel_rfl
theorem utabs_of_laid {W : World} (hL : laidMet Tryd.prog Rows.lebNamesRow.laid W) : UTabs W := by
  have h3 := Lib.laidMet.reads hL (n := "unicode/utf8.first") (d := Rows.laid_unicode_utf8_first) (by simp [Rows.lebNamesRow])
  have h4 := Lib.laidMet.reads hL (n := "unicode/utf8.acceptRanges") (d := Rows.laid_unicode_utf8_acceptRanges) (by simp [Rows.lebNamesRow])
  rw [show Rows.laid_unicode_utf8_first = Lib.firstData from Pinned.utf8First_eq] at h3
  rw [laid_accept] at h4
  exact utf8Tabs_of_readsT { Tryd.laysValid with } u8extra h3 h4
theorem valid_any (s : ByteArray) (hs : s.size ≤ 9223372036854775807) (w : World) (hT : UTabs w) :
    Calls Tryd.prog 13 #[.string s] w fun e w' => e = .returned (.bool (Lib.validD s.data.toList)) ∧ Below w.heap.size w w' :=
  Any.utf8_ValidString Tryd.laysValid s w hs hT

theorem UTabs.below {w w' : World} (h : UTabs w) (hb : Below w.heap.size w w') : UTabs w' := Utf8Tabs_below h hb
theorem encU_one (n : Nat) (h : n < 128) : encU 9 n = [byteOf n] := encU_last h
/-- a name, written -/
def nameX (s : ByteArray) : ByteArray := if 16 < s.size then ⟨#[]⟩ else if Lib.validD s.data.toList = true then S [byteOf s.size] ++ s else ⟨#[]⟩
def nameE (s : ByteArray) : Int := if 16 < s.size then 2 else if Lib.validD s.data.toList = true then 0 else 4
theorem name_cases (s : ByteArray) : (16 < s.size ∧ nameX s = ⟨#[]⟩ ∧ nameE s = 2) ∨ (s.size ≤ 16 ∧ Lib.validD s.data.toList = true ∧ nameX s = S [byteOf s.size] ++ s ∧ nameE s = 0) ∨ (s.size ≤ 16 ∧ Lib.validD s.data.toList = false ∧ nameX s = ⟨#[]⟩ ∧ nameE s = 4) := by
  unfold nameX nameE
  by_cases h : 16 < s.size
  · rw [if_pos h, if_pos h]; exact .inl ⟨h, rfl, rfl⟩
  · rw [if_neg h, if_neg h]
    cases hv : Lib.validD s.data.toList
    · rw [if_neg (by decide), if_neg (by decide)]; exact .inr (.inr ⟨by omega, rfl, rfl, rfl⟩)
    · rw [if_pos rfl, if_pos rfl]; exact .inr (.inl ⟨by omega, rfl, rfl, rfl⟩)
set_option maxRecDepth 100000 in
set_option maxHeartbeats 2000000 in
theorem pname_any (s : ByteArray) (hs : s.size ≤ 9223372036854775807) (w : World) (hT : UTabs w) :
    Calls Tryd.prog 5 #[.string s] w fun e w' => e = .returned (.tuple #[.string (nameX s), .int .i64 (nameE s)]) ∧ Below w.heap.size w w' := by
  have HV := hid (valid_any s hs w hT)
  rcases name_cases s with ⟨h1, h2, h3⟩ | ⟨h1, h2, h3, h4⟩ | ⟨h1, h2, h3, h4⟩
  · rw [h2, h3]
    have g1 : (16 : Int) < s.size := by omega
    clear h2 h3
    go_enter Tryd.func5, Tryd.ntmps5
    go_wp2_with fail
    go_ret2
    exact ⟨rfl, Below.refl _ _⟩
  · rw [h3, h4]
    rw [h2] at HV
    have g1 : ¬ (16 : Int) < s.size := by omega
    have g2 : (s.size : Int) < 18446744073709551616 := by omega
    have HU := hid (fun w' => lebU_any s.size w' (by omega))
    rw [encU_one s.size (by omega)] at HU
    have hB : (S [byteOf s.size]).size = 1 := S_size _
    clear h2 h3 h4
    generalize S [byteOf s.size] = B at *
    have hBs : ¬ 9223372036854775807 < B.size + s.size := by omega
    clear hB
    go_enter Tryd.func5, Tryd.ntmps5
    go_wp2_with (first | (go_at_call 13; refine HV.out.mono ?_; rintro r w1 ⟨rfl, hb1⟩; have B1 := hid hb1; clear hb1) | (go_at_call 14; refine (HU.out _).mono ?_; rintro r w2 ⟨rfl, hb2⟩; have B2 := hid (B1.out.trans (hb2.mono B1.out.size)); clear hb2))
    go_ret2
    exact ⟨rfl, B2.out⟩
  · rw [h3, h4]
    rw [h2] at HV
    have g1 : ¬ (16 : Int) < s.size := by omega
    clear h2 h3 h4
    go_enter Tryd.func5, Tryd.ntmps5
    go_wp2_with (go_at_call 13; refine HV.out.mono ?_; rintro r w1 ⟨rfl, hb1⟩; have B1 := hid hb1; clear hb1)
    go_ret2
    exact ⟨rfl, B1.out⟩
set_option maxRecDepth 100000 in
set_option maxHeartbeats 2000000 in
theorem rname_any (s : ByteArray) (hs : s.size ≤ 9223372036854775807) (w : World) :
    Calls Tryd.prog 6 #[.string s] w fun e w' => e = .returned (.tuple #[.string (nameX s), .int .i64 (nameE s)]) ∧ Below w.heap.size w w' := by
  have HV := hid (isText_any s hs w)
  rcases name_cases s with ⟨h1, h2, h3⟩ | ⟨h1, h2, h3, h4⟩ | ⟨h1, h2, h3, h4⟩
  · rw [h2, h3]
    have g1 : (16 : Int) < s.size := by omega
    clear h2 h3
    go_enter Tryd.func6, Tryd.ntmps6
    go_wp2_with fail
    go_ret2
    exact ⟨rfl, Below.refl _ _⟩
  · rw [h3, h4]
    rw [h2] at HV
    have g1 : ¬ (16 : Int) < s.size := by omega
    have HU := hid (fun w' => chr_any s.size w')
    have hB : (S [byteOf s.size]).size = 1 := S_size _
    clear h2 h3 h4
    generalize S [byteOf s.size] = B at *
    have hBs : ¬ 9223372036854775807 < B.size + s.size := by omega
    clear hB
    go_enter Tryd.func6, Tryd.ntmps6
    go_wp2_with (first | (go_at_call 15; refine HV.out.mono ?_; rintro r w1 ⟨rfl, hb1⟩; have B1 := hid hb1; clear hb1) | (go_at_call 16; refine (HU.out _).mono ?_; rintro r w2 ⟨rfl, hb2⟩; have B2 := hid (B1.out.trans (hb2.mono B1.out.size)); clear hb2))
    go_ret2
    exact ⟨rfl, B2.out⟩
  · rw [h3, h4]
    rw [h2] at HV
    have g1 : ¬ (16 : Int) < s.size := by omega
    clear h2 h3 h4
    go_enter Tryd.func6, Tryd.ntmps6
    go_wp2_with (go_at_call 15; refine HV.out.mono ?_; rintro r w1 ⟨rfl, hb1⟩; have B1 := hid hb1; clear hb1)
    go_ret2
    exact ⟨rfl, B1.out⟩

/-- a name, read: the number a and how many bytes k stand ahead of it, or the error e -/
structure RN (t : ByteArray) (a k e : Nat) (X : ByteArray) (K E : Int) : Prop where
  h : (e ≠ 0 ∧ X = ⟨#[]⟩ ∧ K = 0 ∧ E = e) ∨
    (e = 0 ∧ 16 < a ∧ X = ⟨#[]⟩ ∧ K = 0 ∧ E = 2) ∨
    (e = 0 ∧ a ≤ 16 ∧ t.size - k < a ∧ X = ⟨#[]⟩ ∧ K = 0 ∧ E = 3) ∨
    (e = 0 ∧ a ≤ 16 ∧ a ≤ t.size - k ∧ Lib.validD (t.extract k (k + a)).data.toList = false ∧ X = ⟨#[]⟩ ∧ K = 0 ∧ E = 4) ∨
    (e = 0 ∧ a ≤ 16 ∧ a ≤ t.size - k ∧ Lib.validD (t.extract k (k + a)).data.toList = true ∧ X = t.extract k (k + a) ∧ K = ((k + a : Nat) : Int) ∧ E = 0)
theorem rn_some (t : ByteArray) (a k e : Nat) : ∃ X K E, RN t a k e X K E := by
  by_cases h1 : e ≠ 0
  · exact ⟨_, _, _, ⟨.inl ⟨h1, rfl, rfl, rfl⟩⟩⟩
  have h1' : e = 0 := by omega
  by_cases h2 : 16 < a
  · exact ⟨_, _, _, ⟨.inr (.inl ⟨h1', h2, rfl, rfl, rfl⟩)⟩⟩
  by_cases h3 : t.size - k < a
  · exact ⟨_, _, _, ⟨.inr (.inr (.inl ⟨h1', by omega, h3, rfl, rfl, rfl⟩))⟩⟩
  cases h4 : Lib.validD (t.extract k (k + a)).data.toList
  · exact ⟨_, _, _, ⟨.inr (.inr (.inr (.inl ⟨h1', by omega, by omega, h4, rfl, rfl, rfl⟩)))⟩⟩
  · exact ⟨_, _, _, ⟨.inr (.inr (.inr (.inr ⟨h1', by omega, by omega, h4, rfl, rfl, rfl⟩)))⟩⟩
theorem ext_twice (t : ByteArray) (k a : Nat) (h : k + a ≤ t.size) : (t.extract k t.size).extract 0 a = t.extract k (k + a) := by
  apply Go.WideShapes.bytes_inj
  rw [ByteArray.data_extract, Array.toList_extract, ByteArray.data_extract, Array.toList_extract, ByteArray.data_extract, Array.toList_extract]
  simp [List.extract]
  rw [List.take_of_length_le (l := List.drop k t.data.toList) (by rw [List.length_drop, Array.length_toList]; exact Nat.le_refl _)]

set_option maxRecDepth 100000 in
set_option maxHeartbeats 4000000 in
theorem preadname (t : ByteArray) (hs : t.size ≤ maxLen) (a k e : Nat) (hru : ru 32 t.data.toList 0 0 = (a, k, e)) (X : ByteArray) (K E : Int) (hr : RN t a k e X K E) (w : World) (hT : UTabs w) :
    Calls Tryd.prog 7 #[.string t] w fun e' w' => e' = .returned (.tuple #[.string X, .int .i64 K, .int .i64 E]) ∧ Below w.heap.size w w' := by
  have hs2 := hs
  unfold maxLen at hs2
  have HU := hid (readU_ok t 32 w hs (.inl rfl))
  rw [hru] at HU
  unfold tup3 at HU
  have hf := (ru_facts (.inl rfl) t.data.toList 0 0 (by decide) (by decide) (b := 32)).1
  rw [hru] at hf
  have hdl : t.data.toList.length = t.size := Array.length_toList
  simp only [Nat.zero_add, hdl] at hf
  have HT := hid hT
  clear hT
  rcases hr.h with ⟨h1, rfl, rfl, rfl⟩ | ⟨h1, h2, rfl, rfl, rfl⟩ | ⟨h1, h2, h3, rfl, rfl, rfl⟩ | ⟨h1, h2, h3, hv, rfl, rfl, rfl⟩ | ⟨h1, h2, h3, hv, rfl, rfl, rfl⟩
  · have g1 : ((e : Int) != 0) = true := by simp; omega
    clear hf hru hr
    go_enter Tryd.func7, Tryd.ntmps7
    go_wp2_with (go_at_call 17; refine HU.out.mono ?_; rintro r w1 ⟨rfl, rfl⟩)
    go_ret3
    exact ⟨rfl, Below.refl _ _⟩
  · subst h1
    obtain ⟨hk0, hkt, ha⟩ := hf rfl
    clear hf hru hr
    have ha2 : a < 4294967296 := ha
    clear ha
    have gk : (k : Int) ≤ t.size := by omega
    have hsz : (t.extract k t.size).size = t.size - k := by rw [ByteArray.size_extract]; omega
    have g2 : (16 : Int) < a := by omega
    go_enter Tryd.func7, Tryd.ntmps7
    go_wp2_with (go_at_call 17; refine HU.out.mono ?_; rintro r w1 ⟨rfl, rfl⟩)
    go_ret3
    exact ⟨rfl, Below.refl _ _⟩
  · subst h1
    obtain ⟨hk0, hkt, ha⟩ := hf rfl
    clear hf hru hr
    have ha2 : a < 4294967296 := ha
    clear ha
    have gk : (k : Int) ≤ t.size := by omega
    have hsz : (t.extract k t.size).size = t.size - k := by rw [ByteArray.size_extract]; omega
    have g2 : ¬ (16 : Int) < a := by omega
    have g3 : ((t.size - k : Nat) : Int) = (t.size : Int) - k := by omega
    have g4 : (t.size : Int) - k < a := by omega
    go_enter Tryd.func7, Tryd.ntmps7
    go_wp2_with (go_at_call 17; refine HU.out.mono ?_; rintro r w1 ⟨rfl, rfl⟩)
    go_ret3
    exact ⟨rfl, Below.refl _ _⟩
  · subst h1
    obtain ⟨hk0, hkt, ha⟩ := hf rfl
    clear hf hru hr
    have ha2 : a < 4294967296 := ha
    clear ha
    have gk : (k : Int) ≤ t.size := by omega
    have hsz : (t.extract k t.size).size = t.size - k := by rw [ByteArray.size_extract]; omega
    have g2 : ¬ (16 : Int) < a := by omega
    have g3 : ((t.size - k : Nat) : Int) = (t.size : Int) - k := by omega
    have g4 : ¬ (t.size : Int) - k < a := by omega
    have g5 : ((k + a : Nat) : Int) = (k : Int) + a := by omega
    have hx := ext_twice t k a (by omega)
    have hxs : (t.extract k (k + a)).size ≤ 9223372036854775807 := by rw [ByteArray.size_extract]; omega
    have HV : Hid (∀ w', UTabs w' → Calls Tryd.prog 13 #[.string (t.extract k (k + a))] w' fun e w2 => e = .returned (.bool (Lib.validD (t.extract k (k + a)).data.toList)) ∧ Below w'.heap.size w' w2) := hid (fun w' h => valid_any _ hxs w' h)
    rw [hv] at HV
    clear hv hxs
    go_enter Tryd.func7, Tryd.ntmps7
    go_wp2_with (first | (go_at_call 17; refine HU.out.mono ?_; rintro r w1 ⟨rfl, rfl⟩) | (go_at_call 13; refine (HV.out _ HT.out).mono ?_; rintro r w2 ⟨rfl, hb2⟩; have B2 := hid ((Below.refl _ _ : Below w.heap.size w w).trans hb2); clear hb2))
    go_ret3
    exact ⟨rfl, B2.out⟩
  · subst h1
    obtain ⟨hk0, hkt, ha⟩ := hf rfl
    clear hf hru hr
    have ha2 : a < 4294967296 := ha
    clear ha
    have gk : (k : Int) ≤ t.size := by omega
    have hsz : (t.extract k t.size).size = t.size - k := by rw [ByteArray.size_extract]; omega
    have g2 : ¬ (16 : Int) < a := by omega
    have g3 : ((t.size - k : Nat) : Int) = (t.size : Int) - k := by omega
    have g4 : ¬ (t.size : Int) - k < a := by omega
    have g5 : ((k + a : Nat) : Int) = (k : Int) + a := by omega
    have hx := ext_twice t k a (by omega)
    have hxs : (t.extract k (k + a)).size ≤ 9223372036854775807 := by rw [ByteArray.size_extract]; omega
    have HV : Hid (∀ w', UTabs w' → Calls Tryd.prog 13 #[.string (t.extract k (k + a))] w' fun e w2 => e = .returned (.bool (Lib.validD (t.extract k (k + a)).data.toList)) ∧ Below w'.heap.size w' w2) := hid (fun w' h => valid_any _ hxs w' h)
    rw [hv] at HV
    clear hv hxs
    go_enter Tryd.func7, Tryd.ntmps7
    go_wp2_with (first | (go_at_call 17; refine HU.out.mono ?_; rintro r w1 ⟨rfl, rfl⟩) | (go_at_call 13; refine (HV.out _ HT.out).mono ?_; rintro r w2 ⟨rfl, hb2⟩; have B2 := hid ((Below.refl _ _ : Below w.heap.size w w).trans hb2); clear hb2))
    go_ret3
    exact ⟨rfl, B2.out⟩

set_option maxRecDepth 100000 in
set_option maxHeartbeats 4000000 in
theorem rreadname (t : ByteArray) (hs : t.size ≤ maxLen) (a k e : Nat) (hru : ru 32 t.data.toList 0 0 = (a, k, e)) (X : ByteArray) (K E : Int) (hr : RN t a k e X K E) (w : World) :
    Calls Tryd.prog 8 #[.string t] w fun e' w' => e' = .returned (.tuple #[.string X, .int .i64 K, .int .i64 E]) ∧ Below w.heap.size w w' := by
  have hs2 := hs
  unfold maxLen at hs2
  have HU := hid (refU_all t 32 w hs (.inl rfl))
  rw [hru] at HU
  unfold tup3 at HU
  have hf := (ru_facts (.inl rfl) t.data.toList 0 0 (by decide) (by decide) (b := 32)).1
  rw [hru] at hf
  have hdl : t.data.toList.length = t.size := Array.length_toList
  simp only [Nat.zero_add, hdl] at hf
  rcases hr.h with ⟨h1, rfl, rfl, rfl⟩ | ⟨h1, h2, rfl, rfl, rfl⟩ | ⟨h1, h2, h3, rfl, rfl, rfl⟩ | ⟨h1, h2, h3, hv, rfl, rfl, rfl⟩ | ⟨h1, h2, h3, hv, rfl, rfl, rfl⟩
  · have g1 : ((e : Int) != 0) = true := by simp; omega
    clear hf hru hr
    go_enter Tryd.func8, Tryd.ntmps8
    go_wp2_with (go_at_call 18; refine HU.out.mono ?_; rintro r w1 ⟨rfl, nn, rfl⟩)
    go_ret3
    exact ⟨rfl, drewN_below (Below.refl _ _)⟩
  · subst h1
    obtain ⟨hk0, hkt, ha⟩ := hf rfl
    clear hf hru hr
    have ha2 : a < 4294967296 := ha
    clear ha
    have gk : (k : Int) ≤ t.size := by omega
    have hsz : (t.extract k t.size).size = t.size - k := by rw [ByteArray.size_extract]; omega
    have g2 : (16 : Int) < a := by omega
    go_enter Tryd.func8, Tryd.ntmps8
    go_wp2_with (go_at_call 18; refine HU.out.mono ?_; rintro r w1 ⟨rfl, nn, rfl⟩)
    go_ret3
    exact ⟨rfl, drewN_below (Below.refl _ _)⟩
  · subst h1
    obtain ⟨hk0, hkt, ha⟩ := hf rfl
    clear hf hru hr
    have ha2 : a < 4294967296 := ha
    clear ha
    have gk : (k : Int) ≤ t.size := by omega
    have hsz : (t.extract k t.size).size = t.size - k := by rw [ByteArray.size_extract]; omega
    have g2 : ¬ (16 : Int) < a := by omega
    have g3 : ((t.size - k : Nat) : Int) = (t.size : Int) - k := by omega
    have g4 : (t.size : Int) - k < a := by omega
    go_enter Tryd.func8, Tryd.ntmps8
    go_wp2_with (go_at_call 18; refine HU.out.mono ?_; rintro r w1 ⟨rfl, nn, rfl⟩)
    go_ret3
    exact ⟨rfl, drewN_below (Below.refl _ _)⟩
  · subst h1
    obtain ⟨hk0, hkt, ha⟩ := hf rfl
    clear hf hru hr
    have ha2 : a < 4294967296 := ha
    clear ha
    have gk : (k : Int) ≤ t.size := by omega
    have hsz : (t.extract k t.size).size = t.size - k := by rw [ByteArray.size_extract]; omega
    have g2 : ¬ (16 : Int) < a := by omega
    have g3 : ((t.size - k : Nat) : Int) = (t.size : Int) - k := by omega
    have g4 : ¬ (t.size : Int) - k < a := by omega
    have g5 : ((k + a : Nat) : Int) = (k : Int) + a := by omega
    have hxs : (t.extract k (k + a)).size ≤ 9223372036854775807 := by rw [ByteArray.size_extract]; omega
    have HV : Hid (∀ w', True → Calls Tryd.prog 15 #[.string (t.extract k (k + a))] w' fun e w2 => e = .returned (.bool (Lib.validD (t.extract k (k + a)).data.toList)) ∧ Below w'.heap.size w' w2) := hid (fun w' h => isText_any _ hxs w')
    rw [hv] at HV
    clear hv hxs
    go_enter Tryd.func8, Tryd.ntmps8
    go_wp2_with (first | (go_at_call 18; refine HU.out.mono ?_; rintro r w1 ⟨rfl, nn, rfl⟩) | (go_at_call 15; refine (HV.out _ trivial).mono ?_; rintro r w2 ⟨rfl, hb2⟩; have B2 := hid ((drewN_below (n := nn) (Below.refl _ _) : Below w.heap.size w (w.drewN nn)).trans hb2); clear hb2))
    go_ret3
    exact ⟨rfl, B2.out⟩
  · subst h1
    obtain ⟨hk0, hkt, ha⟩ := hf rfl
    clear hf hru hr
    have ha2 : a < 4294967296 := ha
    clear ha
    have gk : (k : Int) ≤ t.size := by omega
    have hsz : (t.extract k t.size).size = t.size - k := by rw [ByteArray.size_extract]; omega
    have g2 : ¬ (16 : Int) < a := by omega
    have g3 : ((t.size - k : Nat) : Int) = (t.size : Int) - k := by omega
    have g4 : ¬ (t.size : Int) - k < a := by omega
    have g5 : ((k + a : Nat) : Int) = (k : Int) + a := by omega
    have hxs : (t.extract k (k + a)).size ≤ 9223372036854775807 := by rw [ByteArray.size_extract]; omega
    have HV : Hid (∀ w', True → Calls Tryd.prog 15 #[.string (t.extract k (k + a))] w' fun e w2 => e = .returned (.bool (Lib.validD (t.extract k (k + a)).data.toList)) ∧ Below w'.heap.size w' w2) := hid (fun w' h => isText_any _ hxs w')
    rw [hv] at HV
    clear hv hxs
    go_enter Tryd.func8, Tryd.ntmps8
    go_wp2_with (first | (go_at_call 18; refine HU.out.mono ?_; rintro r w1 ⟨rfl, nn, rfl⟩) | (go_at_call 15; refine (HV.out _ trivial).mono ?_; rintro r w2 ⟨rfl, hb2⟩; have B2 := hid ((drewN_below (n := nn) (Below.refl _ _) : Below w.heap.size w (w.drewN nn)).trans hb2); clear hb2))
    go_ret3
    exact ⟨rfl, B2.out⟩

set_option maxRecDepth 100000 in
set_option maxHeartbeats 1000000 in
theorem law_LebNames (v0 v1 : Value) (x0 x1 : ByteArray) (W : World) (i0 : IsStr W v0 x0) (i1 : IsStr W v1 x1) (hL : laidMet Tryd.prog Rows.lebNamesRow.laid W) :
    Calls Tryd.prog 3 #[v0, v1] W fun e w' => e = .returned (.bool true) ∧ Below W.heap.size W w' := by
  obtain ⟨rfl, h0⟩ := i0
  obtain ⟨rfl, h1⟩ := i1
  have h0' : x0.size ≤ 9223372036854775807 := by omega
  have h1' : x1.size ≤ maxLen := by unfold maxLen; omega
  have hT := hid (utabs_of_laid hL)
  clear hL
  obtain ⟨r, hr⟩ : ∃ r, ru 32 x1.data.toList 0 0 = r := ⟨_, rfl⟩
  obtain ⟨a, k, e⟩ := r
  obtain ⟨X, K, E, hrn⟩ := rn_some x1 a k e
  have C1 := hid (fun w h => pname_any x0 h0' w h)
  have C2 := hid (fun w => rname_any x0 h0' w)
  have C3 := hid (fun w h => preadname x1 h1' a k e hr X K E hrn w h)
  have C4 := hid (fun w => rreadname x1 h1' a k e hr X K E hrn w)
  generalize nameX x0 = A at *
  generalize nameE x0 = B at *
  clear h0 h1 h0' h1' hr hrn
  go_enter Tryd.func3, Tryd.ntmps3
  go_wp2_with fail
  refine (C1.out _ hT.out).mono ?_
  rintro e1 w1 ⟨rfl, b1⟩
  have B1 := hid b1
  clear b1
  go_wp2_with fail
  refine (C2.out _).mono ?_
  rintro e2 w2 ⟨rfl, b2⟩
  have B2 := hid (B1.out.trans (b2.mono B1.out.size))
  clear b2
  go_wp2_with fail
  refine (C3.out _ (hT.out.below B2.out)).mono ?_
  rintro e3 w3 ⟨rfl, b3⟩
  have B3 := hid (B2.out.trans (b3.mono B2.out.size))
  clear b3
  go_wp2_with fail
  refine (C4.out _).mono ?_
  rintro e4 w4 ⟨rfl, b4⟩
  have B4 := hid (B3.out.trans (b4.mono B3.out.size))
  clear b4
  go_wp2_with fail
  go_ret
  exact ⟨rfl, B4.out⟩
end Go.Proofs.YtomaiolhaenmhaaDoor
