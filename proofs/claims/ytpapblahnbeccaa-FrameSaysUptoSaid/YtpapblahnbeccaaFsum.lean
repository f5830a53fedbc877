/-
  THE REFERENCE's FrameSum. Condition: the text's length is at most 2^20 (the statement's bound).
-/
import Derived.Test.YtpapblahnbeccaaSum
import Derived.Test.YtpapblahnbeccaaRow
import Derived.WalkLawsBesides
namespace Go.Proofs.Ytpapblahnbeccaa
open Go.RowKit

theorem info_bool : (Try.prog.info? 4).map (fun i => (i.zero, i.size, i.bytes)) = some (some (.bool false), 1, 1) := by kernel_rfl
theorem elem_bool : Elem Try.prog 59 4 (.bool false) 1 1 := ⟨Try.underlying59, info_bool, rfl, by decide⟩
/-- booleans that the call owns -/
abbrev OwnB (w : World) (base : Nat) (v : Value) (xs : List Bool) : Prop := O1 Value.bool w base 4 v xs
def bitsN (l : List UInt8) (n : Nat) : List Bool := (List.range n).map (mbit l)
theorem bitsN_succ (l : List UInt8) (n : Nat) : bitsN l (n + 1) = bitsN l n ++ [mbit l n] := by simp [bitsN, List.range_succ]
theorem bitsN_length (l : List UInt8) (n : Nat) : (bitsN l n).length = n := by simp [bitsN]

theorem bit_of (s : ByteArray) (k t : Nat) (hk : k < s.size) (ht : t < 8) : (bits .and .u8 ((s[k].toNat : Int) / 2 ^ t) 1 == 1) = mbit s.data.toList (8 * k + t) := by
  have e1 : (8 * k + t) / 8 = k := by omega
  have e2 : (8 * k + t) % 8 = t := by omega
  have hl : k < s.data.toList.length := by simpa using hk
  have e3 : s.data.toList.getD k 0 = s[k] := by
    rw [List.getD_eq_getElem?_getD, List.getElem?_eq_getElem hl]; rfl
  unfold mbit
  rw [e1, e2, e3]
  generalize s[k] = c
  have hc := c.toNat_lt
  have e4 : ((c.toNat : Int) / 2 ^ t) = ((c.toNat / 2 ^ t : Nat) : Int) := by push_cast; rfl
  have hlt : c.toNat / 2 ^ t < 256 := Nat.lt_of_le_of_lt (Nat.div_le_self _ _) hc
  have h := bits_mask .u8 8 (by decide) wraps_u8 1 (by decide) ((c.toNat / 2 ^ t : Nat) : Int) (Int.natCast_nonneg _) (by exact_mod_cast hlt)
  have e5 : ((2 : Int) ^ 1 - 1) = 1 := by decide
  rw [e5] at h
  rw [e4, h]
  have e6 : c.toBitVec.getLsbD t = decide (c.toNat / 2 ^ t % 2 = 1) := by
    rw [BitVec.getLsbD, Nat.testBit_eq_decide_div_mod_eq]; rfl
  rw [e6]
  by_cases h1 : c.toNat / 2 ^ t % 2 = 1
  · rw [decide_eq_true h1]
    have : ((c.toNat / 2 ^ t : Nat) : Int) % 2 ^ 1 = 1 := by exact_mod_cast h1
    rw [this]; rfl
  · rw [decide_eq_false h1]
    have h2 : c.toNat / 2 ^ t % 2 = 0 := by omega
    have : ((c.toNat / 2 ^ t : Nat) : Int) % 2 ^ 1 = 0 := by exact_mod_cast h2
    rw [this]; rfl
theorem flip_of (b : List Bool) (p : Nat) (hp : p < b.length) : b.set p (!b[p]) = flip1 b p := by
  unfold flip1
  simp [List.getD, hp]
theorem divs_on (b : List Bool) (k n : Nat) (h : k < n) : divs b k (n - k) = divs (divStep b k) (k + 1) (n - (k + 1)) := by
  have : n - k = (n - (k + 1)) + 1 := by omega
  rw [this, divs]

theorem or_bit (b : BitVec 32) (t : Nat) : bits .or .u32 (b.toNat : Int) (2 ^ t % 4294967296) = ((b ||| 1#32 <<< t).toNat : Int) := by
  rw [bv_or, bv_of, bv_mod]
  have e : BitVec.ofInt 32 (2 ^ t) = 1#32 <<< t := by
    have e1 : ((2 : Int) ^ t) = ((2 ^ t : Nat) : Int) := by push_cast; rfl
    rw [e1, BitVec.ofInt_natCast]
    apply BitVec.eq_of_toNat_eq
    rw [BitVec.toNat_ofNat, BitVec.toNat_shiftLeft, Nat.shiftLeft_eq]
    simp
  rw [e]
theorem Sl_at_new (w : World) (cs : Array Value) (t : TypeId) (b : Nat) (hb : b = w.heap.size) : At (w.alloc (.cells cs t)) b 0 cs.toList := by
  subst hb
  intro j hj
  rw [World.cell?_alloc_new]
  simp

set_option maxRecDepth 100000 in
set_option maxHeartbeats 1000000 in
theorem fsum_any (s : ByteArray) (w : World) (hs : s.size ≤ 1048576) :
    Calls Try.prog 82 #[.string s] w fun e w' => e = .returned (u32V (crcF s.data.toList)) ∧ Below w.heap.size w w' := by
  have hdl := divB_length s.data.toList
  have hsl := sum_law s.data.toList
  have hn : s.data.toList.length = s.size := by simp
  rw [hn] at hdl hsl
  have hdb : divB s.data.toList = divs (turnN (bitsN s.data.toList (8 * s.size) ++ List.replicate 32 false) 32) 0 (8 * s.size) := by unfold divB allBits bitsN; rw [hn]
  generalize crcF s.data.toList = R at *
  generalize divB s.data.toList = D at *
  have HDL := hid hdl
  have HSL := hid hsl
  have HDB := hid hdb
  clear hdl hsl hdb hn
  go_enter Try.func82, Try.ntmps82
  go_wp2
  go_loopw [3, 15] (fun b i wr => ∃ k : Nat, k ≤ s.size ∧ i = .int .i64 k ∧ OwnB wr w.heap.size b (bitsN s.data.toList (8 * k)) ∧ Below w.heap.size w wr) (fun _ i _ => s.size - (intOf i).toNat)
  case atStart => exact ⟨0, Nat.zero_le _, rfl, O1.nil _ _ _ _, Below.refl _ _⟩
  case round =>
    obtain ⟨k, hk, rfl, hown, hbel⟩ := hrel
    by_cases hlt : k < s.size
    · go_wp2
      obtain ⟨wo, rfl⟩ : ∃ wo : World, wo = wr := ⟨_, rfl⟩
      go_loopw [3, 18] (fun b j wr => ∃ t : Nat, t ≤ 8 ∧ j = .int .i64 t ∧ OwnB wr w.heap.size b (bitsN s.data.toList (8 * k + t)) ∧ Below w.heap.size w wr) (fun _ j _ => 8 - (intOf j).toNat)
      case atStart => exact ⟨0, by omega, rfl, hown, hbel⟩
      case round =>
        clear hown hbel
        obtain ⟨t, ht, rfl, hown, hbel⟩ := hrel
        by_cases ht8 : t < 8
        · have hlen := bitsN_length s.data.toList (8 * k + t)
          have hsz := hbel.size
          have HB := hid (bit_of s k t hlt ht8)
          have HL := hid hlen
          clear hlen
          go_wp2_with (at_builtin; go_must (refine app_o1 (enc := Value.bool) (fun _ => rfl) elem_bool (base := w.heap.size) rfl _ _ rfl rfl rfl rfl hown (by rw [HL.out]; omega) (by rw [HL.out]; omega) hsz ?_); intro v' w' ho hbel2 _)
          go_roundw
          case rel => exact ⟨t + 1, by omega, by go_num, by rw [HB.out] at ho; rw [← Nat.add_assoc, bitsN_succ]; exact ho, hbel.trans hbel2⟩
          case measure => simp [intOf]; omega
        · obtain rfl : t = 8 := by omega
          go_wp2
          go_roundw
          case rel => exact ⟨k + 1, by omega, by go_num, hown, hbel⟩
          case measure => simp [intOf]; omega
    · obtain rfl : k = s.size := by omega
      have hsz := hbel.size
      have HL := hid (bitsN_length s.data.toList (8 * s.size))
      go_wp2_with (at_builtin; go_must (refine app_zeros (enc := Value.bool) (zz := false) (m := 32) (kn := .i64) (kq := .i64) elem_bool Try.underlying3 rfl rfl (base := w.heap.size) rfl _ _ rfl rfl rfl rfl (by omega) hown (by rw [HL.out]; omega) (by rw [HL.out]; omega) hsz ?_); intro v' w1 ho hbel2 _)
      have hb1 := hbel.trans hbel2
      have hX : Hid ((bitsN s.data.toList (8 * s.size) ++ List.replicate 32 false).length = 8 * s.size + 32) := by show _ = _; rw [List.length_append, HL.out, List.length_replicate]
      have HDB2 := HDB.out
      generalize bitsN s.data.toList (8 * s.size) ++ List.replicate 32 false = X at *
      have HDB := hid HDB2
      clear HDB2 hown hbel hbel2 HL
      obtain ⟨g, cap, rfl, hg1, hg2, hg3, hg4⟩ := ho.head' (by rw [hX.out]; omega)
      have hxl : X.length = 8 * s.size + 32 := hX.out
      rw [hxl] at ho hg3 ⊢
      clear hxl
      go_loopw [35] (fun j wr => ∃ t : Nat, t ≤ 32 ∧ j = .int .i64 t ∧ OwnB wr w.heap.size (.slice (some ⟨g, 0, none⟩) (8 * s.size + 32) cap) (turnN X t) ∧ Below w.heap.size w wr) (fun j _ => 32 - (intOf j).toNat)
      case atStart => exact ⟨0, by omega, rfl, ho, hb1⟩
      case round =>
        obtain ⟨t, ht, rfl, hown, hbel⟩ := hrel
        by_cases ht32 : t < 32
        · have hl : t < (turnN X t).length := by rw [turnN_length, hX.out]; omega
          obtain ⟨hc, hf⟩ := hown.cellAt t hl
          have hst := hown.stored t (!(turnN X t)[t])
          rw [flip_of _ _ hl] at hst
          generalize (turnN X t)[t] = x at *
          clear hl
          have hst' := hid hst
          clear hst
          go_wp2
          go_roundw
          case rel => exact ⟨t + 1, by omega, by go_num, hst'.out.1, hbel.trans ((Below.refl _ _).setCell (by simpa using hg1) _)⟩
          case measure => simp [intOf]; omega
        · obtain rfl : t = 32 := by omega
          clear ho hb1
          have hgz := hown.bounds.2.1
          have HDB2 := HDB.out
          have hTL : (turnN X 32).length = 8 * s.size + 32 := by rw [turnN_length]; exact hX.out
          generalize turnN X 32 = Y at *
          have HDB := hid HDB2
          have HTL := hid hTL
          clear HDB2 hX hTL
          go_wp2
          obtain ⟨wp, rfl⟩ : ∃ wp : World, wp = wr := ⟨_, rfl⟩
          go_loopw [50] (fun i wr => ∃ (k : Nat) (Z : List Bool), k ≤ 8 * s.size ∧ i = .int .i64 k ∧ OwnB wr w.heap.size (.slice (some ⟨g, 0, none⟩) (8 * s.size + 32) cap) Z ∧ Below w.heap.size w wr ∧ Hid (Z.length = 8 * s.size + 32 ∧ D = divs Z k (8 * s.size - k))) (fun i _ => 8 * s.size - (intOf i).toNat)
          case atStart => exact ⟨0, Y, by omega, rfl, hown, hbel, HTL.out, HDB.out⟩
          case round =>
            clear hown hbel HTL HDB
            obtain ⟨k, Z, hk, rfl, hown, hbel, hZ⟩ := hrel
            by_cases hlt : k < 8 * s.size
            · have hl : k < Z.length := by rw [hZ.out.1]; omega
              obtain ⟨hc, hf⟩ := hown.cellAt k hl
              have hon := divs_on Z k _ hlt
              have hgd : Z.getD k false = Z[k] := by simp [List.getD, hl]
              generalize hx : Z[k] = x at *
              cases x with
              | false =>
                have hZ2 : Hid (D = divs Z (k + 1) (8 * s.size - (k + 1))) := by
                  show _ = _
                  rw [hZ.out.2, hon, divStep, if_neg (by rw [hgd]; simp)]
                clear hon hgd hx
                go_wp2
                go_roundw
                case rel => exact ⟨k + 1, Z, by omega, by go_num, hown, hbel, hZ.out.1, hZ2.out⟩
                case measure => simp [intOf]; omega
              | true =>
                have hZ2 : Hid (D = divs (flips Z k ks) (k + 1) (8 * s.size - (k + 1))) := by
                  show _ = _
                  rw [hZ.out.2, hon, divStep, if_pos hgd]
                clear hon hgd hx
                have hgz2 := hown.bounds.2.1
                go_wp2
                obtain ⟨wq, rfl⟩ : ∃ wq : World, wq = wr := ⟨_, rfl⟩
                go_loopw [60] (fun i wr => ∃ (t : Nat) (Y : List Bool), t ≤ 15 ∧ i = .int .i64 t ∧ OwnB wr w.heap.size (.slice (some ⟨g, 0, none⟩) (8 * s.size + 32) cap) Y ∧ Below w.heap.size w wr ∧ At wr wq.heap.size 0 (ks.map fun n : Nat => Value.int .i64 (n : Int)) ∧ Hid (Y.length = 8 * s.size + 32 ∧ flips Y k (ks.drop t) = flips Z k ks)) (fun i _ => 15 - (intOf i).toNat)
                case atStart => exact ⟨0, Z, by omega, rfl, O1.below hown ((Below.refl _ _).alloc (Nat.le_refl _) _), hbel.trans ((Below.refl _ _).alloc hbel.size _), Sl_at_new _ _ _ _ rfl, hZ.out.1, rfl⟩
                case round =>
                  clear hown hbel hc hf
                  obtain ⟨t, Y, ht, rfl, hown, hbel, hat, hY⟩ := hrel
                  by_cases ht15 : t < 15
                  · have hkl : t < ks.length := ht15
                    have ck := hat t (by simpa using hkl)
                    rw [List.getElem_map, Nat.zero_add] at ck
                    have hk32 : ∀ x ∈ ks, x ≤ 32 := by decide
                    have h32 := hk32 _ (List.getElem_mem hkl)
                    have hfl := hY.out.2
                    rw [drop_cons ks t hkl, flips] at hfl
                    generalize ks[t] = q at *
                    have hp : k + 32 - q < Y.length := by rw [hY.out.1]; omega
                    obtain ⟨hc, hf⟩ := hown.cellAt (k + 32 - q) hp
                    have hst := hown.stored (k + 32 - q) (!(Y[k + 32 - q]))
                    rw [flip_of _ _ hp] at hst
                    have hfll := flip1_length Y (k + 32 - q)
                    generalize Y[k + 32 - q] = x at *
                    generalize flip1 Y (k + 32 - q) = Y2 at *
                    have HST := hid hst
                    have HFL := hid hfl
                    have HFLL := hid hfll
                    clear hst hfl hfll hk32
                    go_wp2
                    go_roundw
                    case rel => exact ⟨t + 1, Y2, by omega, by go_num, HST.out.1, hbel.trans ((Below.refl _ _).setCell (by simpa using hg1) _), hat.setCell (by simp; omega) _, by show _ ∧ _; rw [HFLL.out, HFL.out]; exact ⟨hY.out.1, rfl⟩⟩
                    case measure => simp [intOf]; omega
                  · obtain rfl : t = 15 := by omega
                    go_wp2
                    go_roundw
                    case rel => exact ⟨k + 1, Y, by omega, by go_num, hown, hbel, hY.out.1, by have e := hY.out.2; rw [show ks.drop 15 = [] from rfl, flips] at e; rw [e]; exact hZ2.out⟩
                    case measure => simp [intOf]; omega
            · obtain rfl : k = 8 * s.size := by omega
              have hDZ : D = Z := by have e := hZ.out.2; rw [Nat.sub_self, divs] at e; exact e
              subst hDZ
              clear hZ
              go_wp2
              go_loopw [10, 86] (fun n i wr' => ∃ (t : Nat) (r : Int), t ≤ 32 ∧ i = .int .i64 t ∧ n = .int .u32 r ∧ 0 ≤ r ∧ r < 4294967296 ∧ wr' = wr ∧ Hid (∃ b : BitVec 32, r = b.toNat ∧ ofBits b t (D.drop (8 * s.size + t)) = R)) (fun _ i _ => 32 - (intOf i).toNat)
              case atStart => exact ⟨0, 0, by omega, rfl, rfl, by omega, by omega, rfl, 0#32, rfl, HSL.out⟩
              case round =>
                obtain ⟨t, r, ht, rfl, rfl, hr0, hr1, rfl, hb⟩ := hrel
                by_cases ht32 : t < 32
                · have hl : 8 * s.size + t < D.length := by rw [HDL.out]; omega
                  obtain ⟨hc, _⟩ := hown.cellAt (8 * s.size + t) hl
                  have hdr := drop_cons D _ hl
                  generalize D[8 * s.size + t] = x at *
                  have HDR := hid hdr
                  clear hdr
                  cases x with
                  | false =>
                    go_wp2
                    go_roundw
                    case rel =>
                      obtain ⟨b, rfl, h2⟩ := hb.out
                      rw [HDR.out, ofBits, if_neg (by simp)] at h2
                      have hlt2 := (b ||| 1#32 <<< t).isLt
                      exact ⟨t + 1, _, by omega, by go_num, by rw [or_bit], by omega, by omega, trivial, _, rfl, h2⟩
                    case measure => simp [intOf]; omega
                  | true =>
                    go_wp2
                    go_roundw
                    case rel =>
                      obtain ⟨b, rfl, h2⟩ := hb.out
                      rw [HDR.out, ofBits, if_pos rfl] at h2
                      exact ⟨t + 1, _, by omega, by go_num, rfl, hr0, hr1, trivial, b, rfl, h2⟩
                    case measure => simp [intOf]; omega
                · obtain rfl : t = 32 := by omega
                  go_wp2
                  go_ret
                  obtain ⟨b, rfl, h2⟩ := hb.out
                  rw [List.drop_of_length_le (by rw [HDL.out]; omega), ofBits] at h2
                  exact ⟨ret1 (by rw [h2]), hbel⟩
end Go.Proofs.Ytpapblahnbeccaa
