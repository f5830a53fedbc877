/-
  THE REFERENCE's reckon: the division with a sign. Condition: the width is at most 62, or 64.
-/
import Derived.Test.YtomaiolhaenmhaaWbd
namespace Go.Proofs.Ytomaiolhaenmhaa
open Go.RowKit Go.Lib

/-- no place for the quotient -/
def ovf {n : Nat} (a b : BitVec n) : Bool := (a.getLsbD (n - 1) == b.getLsbD (n - 1)) && (sizeV a / sizeV b).getLsbD (n - 1)

set_option maxRecDepth 100000 in
set_option maxHeartbeats 4000000 in
theorem rk_3 {n : Nat} (a b : BitVec n) (h0 : 0 < n) (hnn : n ≤ 62 ∨ n = 64) (hb : b ≠ 0#n) (w : World) (v u : Value) (hv : Bools w v (bl a)) (hu : Bools w u (bl b)) :
    Calls Try.prog 89 #[.int .i64 3, v, u] w fun e w' => e = .returned (.tuple #[.int .i64 (if ovf a b = true then 0 else (a.sdiv b).toInt), .int .i64 (if ovf a b = true then 22 else 0)]) ∧ Below w.heap.size w w' := by
  have hn : n ≤ 64 := by omega
  have HN := hid (none_any b h0 (by omega) w u hu)
  rw [decide_eq_false hb] at HN
  have HP := hid (plain_any b h0 hn w u hu)
  have HA := hid (size_any a h0 (by omega) w v hv)
  have HB := hid (fun w' h => size_any b h0 (by omega) w' u (L1.below hu h))
  have HS := hid (fun w' x y hx hy => split_any (sizeV a) (sizeV b) h0 (by omega) (sizeV_ne hb) w' x y hx hy)
  have HM := hid (fun w' x h => minus_any (sizeV a / sizeV b) h0 (by omega) w' x h)
  have HR := sdiv_size a b
  have HVAL := hid (fun w' x h => value_any (a.sdiv b) h0 hnn w' x h)
  obtain ⟨q, hq⟩ : ∃ q, q = b.toNat % n := ⟨_, rfl⟩
  have hqn : q < n := by rw [hq]; exact Nat.mod_lt _ h0
  have hm9 : ((b.toNat : Int)).tmod (n : Int) = (q : Int) := by rw [hq, Int.ofNat_tmod]
  have hm5 : ((b.toNat : Int)) % (n : Int) = (q : Int) := by rw [hq]; rfl
  have hn0 : ((n : Int) == 0) = false := by simp; omega
  clear hq
  obtain ⟨g, off, cap, rfl, hcap, hm, hg, HC⟩ := bools_open2 a h0 hv
  obtain ⟨g2, off2, cap2, rfl, hcap2, hm2, hg2, HC2⟩ := bools_open2 b h0 hu
  clear hv hu hb
  have hi0 : IntKind.i64.wrap ((n : Int) - 1) = ((n - 1 : Nat) : Int) := by rw [IntKind.wrap_i64]; omega
  have hin : ((n - 1 : Nat) : Int) < (n : Int) := by omega
  have hnn1 : n - 1 < n := by omega
  have HCT := hid (HC.out (n - 1) (by omega))
  have HCT2 := hid (HC2.out (n - 1) (by omega))
  clear HC HC2
  unfold ovf
  cases hs : a.getLsbD (n - 1) <;> cases ht : b.getLsbD (n - 1) <;> cases hz : (sizeV a / sizeV b).getLsbD (n - 1)
  all_goals
    rw [hs, ht] at HR
    rw [hs] at HCT
    rw [ht] at HCT2
    have HZ := hid hz
    simp only [if_true, if_false, Bool.false_eq_true, Bool.true_eq_false] at HR
    simp only [beq_self_eq_true, Bool.and_true, Bool.and_false, if_true, if_false, Bool.false_eq_true, show (true == false) = false from rfl, show (false == true) = false from rfl]
    rw [HR] at HVAL
    have HRE := hid HR
    clear hs ht hz HR
    go_enter Try.func89, Try.ntmps89
    go_wp2_with (first | (go_at_call 146; refine HN.out.mono ?_; rintro r w9 ⟨rfl, rfl⟩) | (go_at_call 147; refine HP.out.mono ?_; rintro r w9 ⟨rfl, rfl⟩) | (go_at_call 151; with_reducible refine HA.out.mono ?_; rintro r w1 ⟨v1, rfl, ho1, hb1⟩; have O1' := hid ho1; have B1 := hid hb1; clear ho1 hb1) | (go_at_call 151; with_reducible refine (HB.out _ B1.out).mono ?_; rintro r w2 ⟨v2, rfl, ho2, hb2⟩; have O2' := hid ho2; have B2 := hid (B1.out.trans (hb2.mono B1.out.size)); have O12 := hid (L1.below O1'.out hb2); clear ho2 hb2) | (go_at_call 152; refine (HS.out _ _ _ O12.out O2'.out).mono ?_; rintro r w3 ⟨v3, v4, rfl, ho3, ho4, hb3⟩; obtain ⟨g3, cap3, rfl, hg3, hl3, hc3, hf3⟩ := own_open _ h0 ho3; have O3 := hid (O1.l1 ho3); have B3 := hid (B2.out.trans (hb3.mono B2.out.size)); have at1 : w3.cell? ⟨g, off + (n - 1), none⟩ = _ := HCT.out _ B3.out; have at2 : w3.cell? ⟨g2, off2 + (n - 1), none⟩ = _ := HCT2.out _ B3.out; have at3 := hc3 _ hnn1; rw [HZ.out] at at3; have at4 : w3.drew.cell? ⟨g3, n - 1, none⟩ = _ := at3; clear hc3 hf3 ho3 ho4 hb3))
    go_quiet (fail)
    go_wp2_with (first | (go_at_call 153; refine (HM.out _ _ (L1.below O3.out (drew_bel' (n := nq) (Below.refl _ _)))).mono ?_; rintro r w5 ⟨v5, rfl, ho5, hb5⟩; have O5 := hid (O1.l1 ho5); have B5 := hid ((drew_bel' (n := nq) B3.out).trans (hb5.mono (drew_bel' (n := nq) B3.out).size)); clear ho5 hb5) | (go_at_call 155; refine (HVAL.out _ _ (by first | exact O5.out | exact L1.below O3.out (drew_bel' (n := nq) (Below.refl _ _)))).mono ?_; rintro r w6 ⟨rfl, rfl⟩))
    go_ret2
    exact ⟨by first | rfl | (rw [HRE.out]; rfl), by first | exact B5.out | exact drew_bel' (n := nq) B3.out⟩
end Go.Proofs.Ytomaiolhaenmhaa
