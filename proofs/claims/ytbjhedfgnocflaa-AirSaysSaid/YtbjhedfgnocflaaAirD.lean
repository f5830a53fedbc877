/-
  THE AIR: Turn of both objects. Conditions: the object's own invariant; texts of at most 100 bytes.
-/
import Derived.Test.YtbjhedfgnocflaaAirC
import Derived.Laws.IdiomStrings
import Derived.Laws.BitsAllLaws
import Derived.Test.YtbjhedfgnocflaaStrs
namespace Go.Proofs.Ytbjhedfgnocflaa
open Go.RowKit Go.Lib

/-- a byte's bits turned -/
def turnB (l : List UInt8) (at_ bits_ : Int) : List UInt8 := l.set (at_ % l.length).toNat (l.getD (at_ % l.length).toNat 0 ^^^ byteOf bits_)
def turnT (s : ByteArray) (at_ bits_ : Int) : ByteArray := if s.size = 0 then s else S (turnB s.data.toList at_ bits_)
def turnL (k at_ bits_ : Int) (xs : List Way) : List Way := if inA k xs then xs.set k.toNat ⟨(atW k xs).to, turnT (atW k xs).text at_ bits_⟩ else xs

theorem at_set {w : World} {b : Nat} {cs : List Value} (h : At w b 0 cs) {j : Nat} (hj : j < cs.length) (u : Value) : At (w.setCell ⟨b, j, none⟩ u) b 0 (cs.set j u) := by
  intro i hi
  rw [List.length_set] at hi
  have hc := h i hi
  have hcj := h j hj
  rw [Nat.zero_add] at *
  by_cases e : j = i
  · subst e
    rw [World.cell?_setCell_same (h := hcj)]
    simp
  · have hne : (⟨b, j, none⟩ : Addr) ≠ ⟨b, i, none⟩ := fun h => e (by injection h)
    rw [World.cell?_setCell_other (h := hne), hc, List.getElem_set_ne e]
theorem bytes_make (w : World) (t : ByteArray) (ht : t.size ≤ 1000) : ∃ c W1, (t.size ≤ c ∧ c ≤ 9223372036854775807) ∧ (convert 9 132 (.string t)).run Try.prog w = .ok (.slice (some ⟨w.heap.size, 0, none⟩) t.size c) W1 ∧ At W1 w.heap.size 0 ((nums t).map (Value.int .u8)) ∧ (∀ j, j < t.size → W1.frozen? ⟨w.heap.size, j, none⟩ = false) ∧ Below w.heap.size w W1 ∧ W1.heap.size = w.heap.size + 1 := by
  have hr := run_bytes_of_string (P := Try.prog) w 9 132 5 t Try.underlying9 Try.underlying132 Try.underlying5
  have hc : t.size ≤ grownCap w t.size 0 5 := grownCap_ge _ _ _ _
  have hc2 : grownCap w t.size 0 5 ≤ maxLen := grownCap_le_maxLen _ _ _ _ (by unfold maxLen; omega)
  refine ⟨_, _, ⟨hc, by unfold maxLen at hc2; omega⟩, hr, ?_, ?_, ?_, ?_⟩
  · intro j hj
    have hj' : j < t.data.size := by
      have : j < (nums t).length := by simpa using hj
      rw [nums_length] at this; exact this
    have e1 := bytesRow_at t (grownCap w t.size 0 5) j hj'
    have e2 := heap_alloc_new w.drew (.cells (bytesRow t (grownCap w t.size 0 5)) 5 ((bytesRow t (grownCap w t.size 0 5)).size, (bytesRow t (grownCap w t.size 0 5)).size + 1))
    have e2' : (w.drew.alloc (.cells (bytesRow t (grownCap w t.size 0 5)) 5 ((bytesRow t (grownCap w t.size 0 5)).size, (bytesRow t (grownCap w t.size 0 5)).size + 1))).heap[w.heap.size]? = _ := e2
    simp only [World.cell?, e2', Nat.zero_add]
    simp [e1, nums]
  · intro j hj
    have e2 := heap_alloc_new w.drew (.cells (bytesRow t (grownCap w t.size 0 5)) 5 ((bytesRow t (grownCap w t.size 0 5)).size, (bytesRow t (grownCap w t.size 0 5)).size + 1))
    have e2' : (w.drew.alloc (.cells (bytesRow t (grownCap w t.size 0 5)) 5 ((bytesRow t (grownCap w t.size 0 5)).size, (bytesRow t (grownCap w t.size 0 5)).size + 1))).heap[w.heap.size]? = _ := e2
    have e3 : t.size ≤ (bytesRow t (grownCap w t.size 0 5)).size := by
      have : t.data.size = t.size := rfl
      simp [bytesRow]
    simp only [World.frozen?, e2']
    simp
    omega
  · exact (drew_bel' (n := 1) (Below.refl _ _)).trans ((Below.refl w.drew.heap.size w.drew).alloc (Nat.le_refl _) _)
  · simp

theorem xor_byte (c : UInt8) (b : Int) : UInt8.ofNat (bits BinOp.xor IntKind.u8 (c.toNat : Int) (b % 256)).toNat = c ^^^ byteOf b := by
  have hc := c.toNat_lt
  obtain ⟨m, hm⟩ := Int.eq_ofNat_of_zero_le (Int.emod_nonneg b (by decide : (256 : Int) ≠ 0))
  have hm2 : m < 256 := by have := Int.emod_lt_of_pos b (by decide : (0 : Int) < 256); omega
  unfold byteOf
  rw [hm, u8_xor_nat c.toNat m hc hm2, Int.toNat_natCast, Int.toNat_natCast]
  apply UInt8.toNat_inj.1
  simp

theorem flat_set (xs : List Way) : ∀ (i : Nat) (hi : i < xs.length) (t : ByteArray), (xs.flatMap encWay).set (i * 2 + 1) (.string t) = (xs.set i ⟨xs[i].to, t⟩).flatMap encWay := by
  induction xs with
  | nil => intro i hi; simp at hi
  | cons x r ih =>
    intro i hi t
    cases i with
    | zero => simp [encWay]
    | succ i =>
      have := ih i (by simpa using hi) t
      rw [List.flatMap_cons, List.set_append_right _ _ (by simp [encWay]; omega)]
      simp only [List.set_cons_succ, List.flatMap_cons, List.getElem_cons_succ]
      rw [← this]
      congr 2
      simp [encWay]; omega

theorem air_turn {ty E : TypeId} {w W2 : World} {base B g cap i : Nat} {xs : List Way} {a : Value} {d : Int} {t : ByteArray} (h : ABox ty E w base B (.slice (some ⟨g, 0, none⟩) xs.length cap) xs) (hb : Below w.heap.size w W2) (hi : i < xs.length) (hd : d = xs[i].to) :
    AirPost ty E w base B (.slice (some ⟨g, 0, none⟩) xs.length cap) a (xs.set i ⟨d, t⟩) (.returned a) (W2.setCell ⟨g, i * 2 + 1, none⟩ (.string t)) := by
  subst hd
  have h2 := h.below hb
  have ho : W2.ownsRow base E 2 (.slice (some ⟨g, 0, none⟩) xs.length cap) xs.length (xs.flatMap encWay) := h2.own
  obtain ⟨h3, h4⟩ := ho.stored (i * 2 + 1) (.string t)
  rw [flat_set xs i hi t] at h3
  have hne : g ≠ B := fun e => h.ne (by rw [e]; rfl)
  refine ⟨_, rfl, ⟨h2.blk.other (a := ⟨g, i * 2 + 1, none⟩) hne _, ?_, h.ne, h.le, ?_⟩, (Touch.of_below hb).trans (Touch.setCell (.inr rfl) _), FreshA.same rfl⟩
  · show World.ownsRow _ _ _ _ _ (xs.set i _).length _
    rw [List.length_set]; exact h3
  · have := h2.base; simp; omega

set_option maxRecDepth 100000 in
set_option maxHeartbeats 2000000 in
theorem aturn_any (w : World) (base B : Nat) (v : Value) (xs : List Way) (k a b : Int) (h : ABox 81 152 w base B v xs) (hl : xs.length ≤ 40) (ht : ∀ x ∈ xs, x.text.size ≤ 100) (ha1 : -9223372036854775808 ≤ a) (ha2 : a ≤ 9223372036854775807) :
    Calls Try.prog 53 #[.pointer (some ⟨B, 0, none⟩), .int .i64 k, .int .i64 a, .int .i64 b] w (AirPost 81 152 w base B v (.int .i64 (if inA k xs then 0 else 13)) (turnL k a b xs)) := by
  have hh := ahas_any w base B v xs k h
  unfold turnL
  by_cases hin : inA k xs
  · rw [if_pos hin, if_pos hin]
    rw [decide_eq_true hin] at hh
    obtain ⟨i, rfl⟩ := Int.eq_ofNat_of_zero_le hin.1
    have hi : i < xs.length := by have := hin.2; omega
    rw [atW_get hi, Int.toNat_natCast]
    obtain ⟨g, cap, rfl, hg1, hg2, hg3, hg4⟩ := own_head h.own (by omega)
    obtain ⟨_, _, _, hc⟩ := lk_cells h.own.lk encWay_len (by decide) (by omega)
    have x0 := hc i hi 0 (by decide); have x1 := hc i hi 1 (by decide)
    rw [show (encWay xs[i])[0]? = some (.int .i64 xs[i].to) from rfl, Nat.add_zero, Nat.zero_add] at x0; rw [show (encWay xs[i])[1]? = some (.string xs[i].text) from rfl, Nat.zero_add] at x1
    have q0 := h.blk.cell (i := 0) rfl
    have H := hid h
    have HH := hid hh
    have b1 : (i : Int) < (xs.length : Int) := by omega
    have hsz := ht _ (List.getElem_mem hi)
    clear hc hh hin h ht
    by_cases hz : xs[i].text.size = 0
    · have hz' : ((xs[i].text.size : Int) == 0) = true := by simp [hz]
      have hset0 : (⟨xs[i].to, xs[i].text⟩ : Way) = xs[i] := rfl
      have hset : xs.set i ⟨xs[i].to, turnT xs[i].text a b⟩ = xs := by
        unfold turnT; rw [if_pos hz, hset0]; exact List.set_getElem_self hi
      rw [hset]
      clear hset hz
      go_enter Try.func53, Try.ntmps53
      go_wp2_with fail
      refine HH.out.mono ?_
      rintro e w1 ⟨rfl, rfl⟩
      go_wp2_with fail
      go_ret
      exact air_same H.out (Below.refl _ _) rfl
    · have hz0 : 0 < (xs[i].text.size : Int) := by omega
      have hz' : ((xs[i].text.size : Int) == 0) = false := beq_eq_false_iff_ne.2 (by omega)
      generalize xs[i].text = t at *
      generalize hd9 : xs[i].to = d at *
      have HD := hid hd9
      clear hz hd9
      go_enter Try.func53, Try.ntmps53
      go_wp2_with fail
      refine HH.out.mono ?_
      rintro e w1 ⟨rfl, rfl⟩
      obtain ⟨c, W1, ⟨hc1, hc2⟩, hconv, hat, hfr, hbw, hsz1⟩ := bytes_make w t (by omega)
      have hlow := Int.lt_tmod_of_pos a hz0
      have hhigh := Int.tmod_lt_of_pos a hz0
      have hmod : a.tmod (t.size : Int) % (t.size : Int) = a % (t.size : Int) := by
        have h := Int.tmod_add_mul_tdiv a (t.size : Int)
        conv => rhs; rw [← h]
        rw [Int.add_mul_emod_self_left]
      have hp0 := Int.emod_nonneg a (by omega : (t.size : Int) ≠ 0)
      have hp1 := Int.emod_lt_of_pos a hz0
      obtain ⟨j, hj⟩ := Int.eq_ofNat_of_zero_le hp0
      have hjt : j < t.size := by omega
      have hnl : j < (nums t).length := by rw [nums_length]; exact hjt
      have hcell := hat j (by simpa using hnl)
      rw [Nat.zero_add, List.getElem_map] at hcell
      have hlen : (nums t).length = t.size := nums_length t
      have hback : ∀ u : Int, (convert 132 9 (.slice (some ⟨w.heap.size, 0, none⟩) t.size c)).run Try.prog (W1.setCell ⟨w.heap.size, j, none⟩ (.int .u8 u)) = .ok (.string (S (((nums t).set j u).map fun n => UInt8.ofNat n.toNat))) (W1.setCell ⟨w.heap.size, j, none⟩ (.int .u8 u)) := by
        intro u
        refine conv_bytes (v := .slice (some ⟨w.heap.size, 0, none⟩) t.size c) (xs := (nums t).set j u) ?_
        refine ⟨_, c, by rw [List.length_set, hlen], by rw [List.length_set, hlen]; exact hc1, ?_, by simp, .inr ⟨w.heap.size, 0, rfl, ?_⟩⟩
        · exact hc2
        · rw [List.map_set]
          exact at_set hat (by simpa using hnl) _
      have hbn : (nums t)[j] = (t.data.toList[j]'(by simpa using hjt)).toNat := by simp [nums]
      generalize hz9 : (nums t)[j] = z at *
      have HBN := hid hbn
      have HBK := hid hback
      clear hbn hz9 hback hnl hlen
      have hmod2 := hmod.trans hj
      have HJ := hid hj
      have hji : (j : Int) < (t.size : Int) := by omega
      have HS1 := hid hsz1
      have hfj := hfr j hjt
      have hq1 := hbw.cell (p := ⟨g, i * 2 + 1, none⟩) (World.block_lt_of_cell? _ _ x1)
      rw [x1] at hq1
      have hfg : W1.frozen? ⟨g, i * 2 + 1, none⟩ = false := by
        rw [hbw.frozen (p := ⟨g, i * 2 + 1, none⟩) hg2]
        exact World.ownsRow.frozenAt H.out.own _
      have hj0 : (0 : Int) ≤ (j : Int) := by omega
      clear hmod hat hfr hsz1 hj hp0 hp1
      have hbk := HBK.out (bits BinOp.xor IntKind.u8 z (b % 256))
      have hne9 : w.heap.size ≠ g := by omega
      have hlt9 : w.heap.size < W1.heap.size := by have := HS1.out; omega
      go_wp2_with fail
      go_ret
      have htx : S (((nums t).map (fun n => UInt8.ofNat n.toNat)).set j (UInt8.ofNat (bits BinOp.xor IntKind.u8 z (b % 256)).toNat)) = turnT t a b := by
        unfold turnT turnB
        rw [if_neg (by omega), nums_bytes, HBN.out, xor_byte]
        have hl9 : t.data.toList.length = t.size := by simp
        have hidx : (a % (t.data.toList.length : Int)).toNat = j := by rw [hl9, HJ.out]; rfl
        have hj9 : j < t.data.toList.length := by rw [hl9]; exact hjt
        rw [hidx]
        congr 2
        rw [List.getD_eq_getElem?_getD, List.getElem?_eq_getElem hj9]
        rfl
      rw [htx]
      exact air_turn H.out (hbw.setCell (by simp) _) hi HD.out.symm
  · rw [if_neg hin, if_neg hin]
    rw [decide_eq_false hin] at hh
    have H := hid h
    have HH := hid hh
    clear hh hin h
    go_enter Try.func53, Try.ntmps53
    go_wp2_with fail
    refine HH.out.mono ?_
    rintro e w1 ⟨rfl, rfl⟩
    go_wp2_with fail
    go_ret
    exact air_same H.out (Below.refl _ _) rfl
end Go.Proofs.Ytbjhedfgnocflaa
