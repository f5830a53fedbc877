/-
  SHOTS: the walk of the reference's ShotWrite. Conditions: the parts' lengths at most 2^20.
-/
import Derived.Test.YtpapblahnbeccaaSwh
import Derived.Test.YtpapblahnbeccaaSwq
import Derived.Deep.CutBlock
import Derived.Deep.RegionLaw
namespace Go.Proofs.Ytpapblahnbeccaa
open Go.RowKit Go.Lib
attribute [local go_sem ↓] Go.wp_at_zero Go.wp_at_succ

theorem encN_len (n : Int) : (encN n).length ≤ 10 := encU_len 9 (u64of n)

theorem callF_len (c : Cal) : (callF c).length ≤ 3 := by
  unfold callF
  have h1 := flt_len (idxBad c.fn) 1
  have h2 := flt_len (idxBad c.pc) 1
  have h3 := flt_len (decide (20 < (c.loc.length : Int)) || decide (200 < (c.stk.length : Int))) 2
  rw [List.length_append, List.length_append]
  omega

set_option maxRecDepth 100000 in
set_option maxHeartbeats 8000000 in
theorem rswrite_any (w : World) (x : Shot) (vt vg vc : Value) (ht : Ints w .i64 vt x.tab) (hg : Ints w .i64 vg x.glob) (hc : CallsS w vc x.calls) (hk : ShotOk x) :
    Calls Try.prog 130 #[.agg #[.string x.mem, vt, vg], .agg #[vc, .int .i64 x.host]] w fun e w' => e = .returned (shotV x) ∧ Below w.heap.size w w' := by
  have HK := hid hk
  have HT := hid ht
  have HG := hid hg
  have HC := hid hc
  have hcs := big_cases x
  have hf0 : flt (shotBig x) 2 ++ x.tab.flatMap (fun n => flt (atBad n) 1) ++ flt (idxBad x.host) 1 ++ flt (decide (40 < (x.calls.length : Int))) 2 = shotF0 x := rfl
  generalize hxx : shotBig x = big at *
  have HF0 := hid hf0
  obtain ⟨mem, tab, glob, calls, host⟩ := x
  have X1 := hid (Blk.new w #[.string mem, vt, vg] 114 _ rfl)
  have X2 : Hid (Blk ((w.alloc (.cells #[.string mem, vt, vg] 114)).alloc (.cells #[vc, .int .i64 host] 117)) (w.heap.size + 1) 117 [vc, .int .i64 host]) := hid (Blk.new _ _ _ _ (by simp))
  have hS0 : FBox (((w.alloc (.cells #[.string mem, vt, vg] 114)).alloc (.cells #[vc, .int .i64 host] 117)).alloc (.cells #[.slice none 0 0] 270)) (w.heap.size + 1 + 1) (w.heap.size + 1 + 1) [] :=
    ⟨Nat.le_refl _, ⟨_, Blk.new _ _ _ _ (by simp), World.ownsRow_nil _ _ _ _⟩, by simp⟩
  have HS0 := hid hS0
  obtain ⟨aot, capt, hvt, _⟩ := id HT.out
  obtain ⟨aog, capg, hvg, _⟩ := id HG.out
  obtain ⟨css, _, ⟨aoc, capc, hvc, _⟩, _⟩ := id HC.out
  subst hvt hvg hvc
  simp only at *
  have hD : ∀ w', Below (w.heap.size + 1 + 1) (((w.alloc (.cells #[.string mem, .slice aot tab.length capt, .slice aog glob.length capg] 114)).alloc (.cells #[.slice aoc calls.length capc, .int .i64 host] 117)).alloc (.cells #[.slice none 0 0] 270)) w' → w'.cell? ⟨w.heap.size, 0, none⟩ = some (.string mem) ∧ w'.cell? ⟨w.heap.size, 1, none⟩ = some (.slice aot tab.length capt) ∧ w'.cell? ⟨w.heap.size, 2, none⟩ = some (.slice aog glob.length capg) ∧ w'.cell? ⟨w.heap.size + 1, 0, none⟩ = some (.slice aoc calls.length capc) ∧ w'.cell? ⟨w.heap.size + 1, 1, none⟩ = some (.int .i64 host) ∧ Hid (Ints w' .i64 (.slice aot tab.length capt) tab) ∧ Hid (Ints w' .i64 (.slice aog glob.length capg) glob) ∧ Hid (CallsS w' (.slice aoc calls.length capc) calls) := by
    intro w' hb
    have y1 : Blk w' w.heap.size _ _ := Blk.under2 ((X1.out.alloc _).alloc _) hb (by omega)
    have y2 : Blk w' (w.heap.size + 1) _ _ := Blk.under2 (X2.out.alloc _) hb (by simp)
    have hw : Below w.heap.size w w' := ((((Below.refl _ _).alloc (Nat.le_refl _) _).alloc (by simp) _).alloc (by simp; omega) _).trans (hb.mono (by omega))
    exact ⟨y1.cell rfl, y1.cell rfl, y1.cell rfl, y2.cell rfl, y2.cell rfl, hid (L1.below HT.out hw), hid (L1.below HG.out hw), hid (HC.out.below hw)⟩
  have HD := hid hD
  have hm9 := HK.out.mem
  have ht9 := HK.out.tab
  have hg9 := HK.out.glob
  have hc9 := HK.out.calls
  simp only at hm9 ht9 hg9 hc9
  have hu1 := fun w' => u_any (mem.size : Int) w'
  have hu2 := fun w' => u_any (tab.length : Int) w'
  have hu3 := fun w' => u_any host w'
  have hu4 := fun w' => u_any (calls.length : Int) w'
  have hl1 := encN_len (mem.size : Int)
  have hl2 := encN_len (tab.length : Int)
  have hl3 := encN_len host
  have hl4 := encN_len (calls.length : Int)
  have hO0 : encN (mem.size : Int) ++ mem.data.toList ++ encN (tab.length : Int) ++ tab.flatMap (encS 9) ++ valO glob ++ encN host ++ encN (calls.length : Int) = shotO0 ⟨mem, tab, glob, calls, host⟩ := rfl
  generalize encN (mem.size : Int) = m1 at *
  generalize encN (tab.length : Int) = m2 at *
  generalize encN host = m3 at *
  generalize encN (calls.length : Int) = m4 at *
  have HO0 := hid hO0
  have HU1 := hid hu1
  have HU2 := hid hu2
  have HU3 := hid hu3
  have HU4 := hid hu4
  have hz1 : (S m1).size = m1.length := S_size m1
  have hz2 : (S m2).size = m2.length := S_size m2
  have hz3 : (S m3).size = m3.length := S_size m3
  have hz4 : (S m4).size = m4.length := S_size m4
  clear hk ht hg hc hS0 hxx hD hf0 hO0 hu1 hu2 hu3 hu4
  go_enter Try.func130, Try.ntmps130
  go_upto_region 2 with fail
  go_cut [] (fun wx => FBox wx (w.heap.size + 1 + 1) (w.heap.size + 1 + 1) (flt big 2) ∧ Below (w.heap.size + 1 + 1) (((w.alloc (.cells #[.string mem, .slice aot tab.length capt, .slice aog glob.length capg] 114)).alloc (.cells #[.slice aoc calls.length capc, .int .i64 host] 117)).alloc (.cells #[.slice none 0 0] 270)) wx)
  case first =>
    rcases hcs with ⟨k1, rfl⟩ | ⟨k1, k2, rfl⟩ | ⟨k1, k2, k3, rfl⟩ | ⟨k1, k2, k3, k4, k5, k6, rfl⟩
    all_goals
      go_wp2_with fail
      refine (fadd_any _ _ _ [] _ 2 HS0.out (by simp)).mono ?_
      rintro e w1 ⟨rfl, hf1, hb1, _⟩
      go_wp2_with fail
      go_meet
      exact ⟨hf1, hb1⟩
  case rest =>
  obtain ⟨hf1, hb1⟩ := hcut
  clear hcs
  obtain ⟨wa, hwa⟩ : ∃ wa, wa = wc := ⟨wc, rfl⟩
  subst hwa
  have HFB := hid hf1
  have HB := hid hb1
  have hbl1 : (flt big 2).length ≤ 1 := flt_len _ _
  have hD1 : ∀ w', Below wa.drew.heap.size wa.drew w' → w'.cell? ⟨w.heap.size, 0, none⟩ = some (.string mem) ∧ w'.cell? ⟨w.heap.size, 1, none⟩ = some (.slice aot tab.length capt) := by
    intro w' hb
    obtain ⟨c0, c1, _⟩ := HD.out w' (HB.out.trans (((drew_bel' (n := 1) (Below.refl _ _)).trans hb).mono HFB.out.base))
    exact ⟨c0, c1⟩
  have HD1 := hid hD1
  have D0 := hid (Below.refl wa.drew.heap.size wa.drew)
  have hs3 : ¬ (9223372036854775807 < m1.length + mem.size) := by omega
  have hstr : S m1 ++ mem ++ S m2 = S (m1 ++ mem.data.toList ++ m2) := by
    rw [← S_of mem, S_append, S_append, S_data]
  have hs4 : ¬ (9223372036854775807 < m1.length + mem.size + m2.length) := by omega
  clear hf1 hb1 hD1
  go_wp2_with fail
  go_cut [7] (fun s7 wx => ∃ Bo, s7 = .pointer (some ⟨Bo, 0, none⟩) ∧ SBlk wx Bo (m1 ++ mem.data.toList ++ m2) ∧ wa.heap.size ≤ Bo ∧ Below wa.heap.size wa wx)
  case first =>
    go_region_held3 (fun w' => w'.cell? ⟨w.heap.size, 0, none⟩ = some (.string mem) ∧ w'.cell? ⟨w.heap.size, 1, none⟩ = some (.slice aot tab.length capt)) (first | exact HD1.out _ D0.out | exact HD1.out _ (D0.out.alloc D0.out.size _) | exact HD1.out _ (D0.out.setCell ZL _)) (first | (go_at_call 180; (with_reducible refine (HU1.out _).mono ?_); rintro e w2 ⟨rfl, hb⟩; first | (have Z0 := hid (Blk.below Z0.out hb); have z0 := Z0.out.cell (i := 0) rfl; have z1 := Z0.out.free 0; have D0 := hid (D0.out.trans (hb.mono D0.out.size)); clear hb) | (have hb' : Below (wa.drew.alloc (.cells #[.string ⟨#[]⟩] 9)).heap.size (wa.drew.alloc (.cells #[.string ⟨#[]⟩] 9)) w2 := hb; have Z0 : Hid (Blk w2 wa.heap.size 9 [.string ⟨#[]⟩]) := hid (Blk.below (Blk.new wa.drew #[.string ⟨#[]⟩] _ wa.heap.size rfl) hb'); have z0 := Z0.out.cell (i := 0) rfl; have z1 := Z0.out.free 0; have ZL := D0.out.size; have D0 := hid ((D0.out.alloc D0.out.size _).trans (hb'.mono (D0.out.alloc D0.out.size _).size)); clear hb hb') | (have Z0 : Hid (Blk w2 _ 9 [.string ⟨#[]⟩]) := hid (Blk.below (Blk.new _ #[.string ⟨#[]⟩] _ _ rfl) hb); have z0 := Z0.out.cell (i := 0) rfl; have z1 := Z0.out.free 0; have ZL := D0.out.size; have D0 := hid ((D0.out.alloc D0.out.size _).trans (hb.mono (D0.out.alloc D0.out.size _).size)); clear hb) | (have D0 := hid (D0.out.trans (hb.mono D0.out.size)); clear hb)) | (go_at_call 180; (with_reducible refine (HU2.out _).mono ?_); rintro e w2 ⟨rfl, hb⟩; first | (have Z0 := hid (Blk.below Z0.out hb); have z0 := Z0.out.cell (i := 0) rfl; have z1 := Z0.out.free 0; have D0 := hid (D0.out.trans (hb.mono D0.out.size)); clear hb) | (have hb' : Below (wa.drew.alloc (.cells #[.string ⟨#[]⟩] 9)).heap.size (wa.drew.alloc (.cells #[.string ⟨#[]⟩] 9)) w2 := hb; have Z0 : Hid (Blk w2 wa.heap.size 9 [.string ⟨#[]⟩]) := hid (Blk.below (Blk.new wa.drew #[.string ⟨#[]⟩] _ wa.heap.size rfl) hb'); have z0 := Z0.out.cell (i := 0) rfl; have z1 := Z0.out.free 0; have ZL := D0.out.size; have D0 := hid ((D0.out.alloc D0.out.size _).trans (hb'.mono (D0.out.alloc D0.out.size _).size)); clear hb hb') | (have Z0 : Hid (Blk w2 _ 9 [.string ⟨#[]⟩]) := hid (Blk.below (Blk.new _ #[.string ⟨#[]⟩] _ _ rfl) hb); have z0 := Z0.out.cell (i := 0) rfl; have z1 := Z0.out.free 0; have ZL := D0.out.size; have D0 := hid ((D0.out.alloc D0.out.size _).trans (hb.mono (D0.out.alloc D0.out.size _).size)); clear hb) | (have D0 := hid (D0.out.trans (hb.mono D0.out.size)); clear hb)))
    all_goals
      go_wp2_with fail
      go_meet
      first
        | exact ⟨_, rfl, by unfold SBlk; rw [List.append_assoc]; exact Z0.out.set 0 _, by first | exact ZL | exact Nat.le_refl _, Below.setCell ((drew_bel' (n := 1) (Below.refl _ _)).trans D0.out) (by first | exact ZL | exact Nat.le_refl _) _⟩
        | exact ⟨_, rfl, by unfold SBlk; rw [List.append_assoc]; exact Blk.new _ _ _ _ rfl, D0.out.size, Below.alloc ((drew_bel' (n := 1) (Below.refl _ _)).trans D0.out) D0.out.size _⟩
  case rest =>
  obtain ⟨Bo, rfl, hsb, hbo, hbx⟩ := hcut
  have hbo1 : w.heap.size + 1 + 1 < Bo := by
    obtain ⟨_, ⟨v, hk, _⟩, _⟩ := HFB.out
    have := hk.lt
    omega
  have hrs : RS wc (w.heap.size + 1 + 1) (w.heap.size + 1 + 1) Bo (flt big 2) (m1 ++ mem.data.toList ++ m2) 1048596 := by
    refine ⟨HFB.out.below hbx, hsb, by omega, by omega, ?_, by omega⟩
    simp only [List.length_append, Array.length_toList]
    show m1.length + mem.size + m2.length ≤ _
    omega
  have HRS := hid hrs
  have HB2 := hid (HB.out.trans (hbx.mono HFB.out.base))
  clear hsb hbx hrs HB HFB D0 HD1 hs3 hs4
  generalize hO1 : m1 ++ mem.data.toList ++ m2 = O1 at *
  have HO1 := hid hO1
  clear hO1 hl1 hl2 hz1 hz2 hstr HU1 HU2 HS0 HT HG
  obtain ⟨c0, c1, c2, d0, d1, I1, I2, I3⟩ := HD.out wc HB2.out
  go_wp2_with fail
  clear c0 c1 c2 d0 d1 I1 I2 I3
  go_loopw [46] (fun i wr => ∃ k : Nat, k ≤ tab.length ∧ i = .int .i64 k ∧ Hid (RS wr (w.heap.size + 1 + 1) (w.heap.size + 1 + 1) Bo (flt big 2 ++ (tab.take k).flatMap fun n => flt (atBad n) 1) (O1 ++ (tab.take k).flatMap (encS 9)) (1048596 + 11 * k)) ∧ Hid (Below (w.heap.size + 1 + 1) (((w.alloc (.cells #[.string mem, .slice aot tab.length capt, .slice aog glob.length capg] 114)).alloc (.cells #[.slice aoc calls.length capc, .int .i64 host] 117)).alloc (.cells #[.slice none 0 0] 270)) wr)) (fun i _ => tab.length - (intOf i).toNat)
  case atStart => exact ⟨0, Nat.zero_le _, rfl, by simpa [Hid] using HRS.out, HB2⟩
  case round =>
    obtain ⟨k, hk, rfl, hT, hbel⟩ := hrel
    obtain ⟨c0, c1, c2, d0, d1, I1, I2, I3⟩ := HD.out wr hbel.out
    by_cases hlt : k < tab.length
    · rcases I1.out.open with ⟨_, _, _, e, _⟩ | ⟨lb, lo, cap', hv, _, hcap, hcap2, hcl⟩
      · rw [e] at hlt; simp at hlt
      simp only [Value.slice.injEq, true_and] at hv
      obtain ⟨rfl, rfl⟩ := hv
      have e0 := hcl k hlt
      have hst : O1 ++ (tab.take k).flatMap (encS 9) ++ encS 9 tab[k] = O1 ++ (tab.take (k + 1)).flatMap (encS 9) := by
        rw [List.take_succ_eq_append_getElem hlt, List.flatMap_append, List.append_assoc _ _ (encS 9 tab[k])]
        simp
      have hsf : (flt big 2 ++ (tab.take k).flatMap fun n => flt (atBad n) 1) ++ flt (atBad tab[k]) 1 = flt big 2 ++ (tab.take (k + 1)).flatMap fun n => flt (atBad n) 1 := by
        rw [List.take_succ_eq_append_getElem hlt, List.flatMap_append, List.append_assoc]
        simp
      have HST := hid (And.intro hst hsf)
      have hl10 := encS_length 9 tab[k]
      have hlb := fun w' => rlebS_any tab[k] w'
      have hLL := hT.out.lenL
      have hNN := hT.out.len
      clear hcl c0 c1 c2 d0 d1 I1 I2 I3 hst hsf
      generalize tab[k] = z at *
      generalize (flt big 2 ++ (tab.take k).flatMap fun n => flt (atBad n) 1) = P at *
      generalize O1 ++ (tab.take k).flatMap (encS 9) = Q at *
      generalize encS 9 z = q at *
      have HLB := hid hlb
      clear hlb
      go_wp2_with fail
      refine (rs_at _ _ _ _ _ _ _ z hT.out (by omega)).mono ?_
      rintro e w6 ⟨rfl, hs6, hb6, _⟩
      rw [HST.out.2] at hs6
      have HS6 := hid hs6
      have HB6 := hid (hbel.out.trans hb6)
      have hD6 := dcell hs6.sb
      have HD6 := hid hD6
      obtain ⟨q0, f0⟩ := hD6 _ (Below.refl _ _)
      have hs1 : (S Q).size = Q.length := S_size Q
      have hs2 : (S q).size = q.length := S_size q
      have hs3 : ¬ (9223372036854775807 < Q.length + q.length) := by omega
      have hl3 : (Q ++ q).length ≤ 1048596 + 11 * (k + 1) := by rw [List.length_append]; omega
      clear hs6 hb6 hD6
      go_wp2_with fail
      go_region_law (first | (go_simp; go_at_call 182; refine (HLB.out _).mono ?_; rintro e w2 ⟨rfl, hb2⟩; obtain ⟨y0, y1⟩ := HD6.out _ hb2; have HB7 := hid hb2; clear hb2))
      all_goals
        obtain ⟨hb1, ht1⟩ := wroteB HS6.out.sb HB7.out
        obtain ⟨hs8, hb8, _⟩ := HS6.out.ofT hb1 ht1 (N' := 1048596 + 11 * (k + 1)) hl3 (by omega)
        rw [HST.out.1] at hs8
        have HS8 := hid hs8
        have HB8 := hid (HB6.out.trans hb8)
        clear hb1 ht1 hs8 hb8
        go_wp2_with fail
        go_roundw
        case rel => exact ⟨k + 1, by omega, by go_num, HS8, HB8⟩
        case measure => simp [intOf]; omega
    · obtain rfl : k = tab.length := by omega
      have hTT := hT.out
      rw [List.take_length] at hTT
      have HTT := hid hTT
      clear hTT hT
      go_wp2_with fail
      refine (rs_list _ _ _ _ _ _ _ _ glob HTT.out (fun w2 hb2 => (HD.out w2 (hbel.out.trans hb2)).2.2.2.2.2.2.1.out) (by omega)).mono ?_
      rintro e w6 ⟨rfl, hs6, hb6, _⟩
      have HS6 := hid hs6
      have HB6 := hid (hbel.out.trans hb6)
      clear c0 c1 c2 d0 d1 I1 I2 I3 hs6 hb6 HTT hbel
      obtain ⟨c0, c1, c2, d0, d1, I1, I2, I3⟩ := HD.out w6 HB6.out
      have hLL := HS6.out.lenL
      go_wp2_with fail
      refine (rs_index _ _ _ _ _ _ _ host HS6.out (by omega)).mono ?_
      rintro e w7 ⟨rfl, hs7, hb7, _⟩
      have hNN := hs7.len
      have HS7 := hid hs7
      have HB7 := hid (HB6.out.trans hb7)
      clear c0 c1 c2 d0 d1 I1 I2 I3 hs7 hb7 HS6 HB6 hLL
      generalize hO2 : O1 ++ tab.flatMap (encS 9) ++ valO glob = O2 at *
      have HO2 := hid hO2
      have hD7 : ∀ w', Below w7.drew.heap.size w7.drew w' → w'.cell? ⟨w.heap.size + 1, 1, none⟩ = some (.int .i64 host) ∧ w'.cell? ⟨w.heap.size + 1, 0, none⟩ = some (.slice aoc calls.length capc) ∧ w'.cell? ⟨Bo, 0, none⟩ = some (.string (S O2)) ∧ w'.frozen? ⟨Bo, 0, none⟩ = false := by
        intro w' hb
        obtain ⟨_, _, _, d0, d1, _⟩ := HD.out w' (HB7.out.trans (((drew_bel' (n := 1) (Below.refl _ _)).trans hb).mono HS7.out.fb.base))
        obtain ⟨x0, x1⟩ := dcell HS7.out.sb w' hb
        exact ⟨d1, d0, x0, x1⟩
      have HD7 := hid hD7
      have D0 := hid (Below.refl w7.drew.heap.size w7.drew)
      obtain ⟨x0, x1, x2, x3⟩ := hD7 _ (Below.refl _ _)
      have hs1 : (S O2).size = O2.length := S_size O2
      have hs3 : ¬ (9223372036854775807 < m3.length + m4.length) := by omega
      have hs4 : ¬ (9223372036854775807 < O2.length + (m3.length + m4.length)) := by omega
      clear hD7 hO2
      go_wp2_with fail
      go_cut [] (fun wx => SBlk wx Bo (O2 ++ (m3 ++ m4)) ∧ TouchB Bo w7 wx)
      case first =>
        go_region_law (first | (go_simp; go_at_call 180; (with_reducible refine (HU3.out _).mono ?_); rintro e w2 ⟨rfl, hb⟩; have D0 := hid (D0.out.trans (hb.mono D0.out.size)); obtain ⟨x0, x1, x2, x3⟩ := HD7.out _ D0.out; clear hb) | (go_simp; go_at_call 180; (with_reducible refine (HU4.out _).mono ?_); rintro e w2 ⟨rfl, hb⟩; have D0 := hid (D0.out.trans (hb.mono D0.out.size)); obtain ⟨x0, x1, x2, x3⟩ := HD7.out _ D0.out; clear hb))
        all_goals
          go_wp2_with fail
          go_meet
          have h9 := wroteB (m := m3 ++ m4) HS7.out.sb D0.out
          rw [← S_append m3 m4] at h9
          exact h9
      case rest =>
      obtain ⟨hb1, ht1⟩ := hcut
      obtain ⟨hs8, hb8, _⟩ := HS7.out.ofT hb1 ht1 (N' := 33554432) (by simp only [List.length_append]; omega) (by omega)
      have HS8 := hid hs8
      have HB8 := hid (HB7.out.trans hb8)
      have hLL := hs8.lenL
      clear hb1 ht1 hs8 hb8 HS7 HB7 D0 HD7 x0 x1 x2 x3 hs1 hs3 hs4 hNN HU3 HU4
      obtain ⟨c0, c1, c2, d0, d1, I1, I2, I3⟩ := HD.out wc HB8.out
      go_wp2_with fail
      refine (rs_add _ _ _ _ _ _ _ _ 2 HS8.out (by omega) (by omega)).mono ?_
      rintro e w9 ⟨rfl, hs9, hb9, _⟩
      have hL0 : flt big 2 ++ (tab.flatMap fun n => flt (atBad n) 1) ++ flt (idxBad host) 1 ++ flt (decide (40 < (calls.length : Int))) 2 = shotF0 ⟨mem, tab, glob, calls, host⟩ := HF0.out
      have hO0 : O2 ++ (m3 ++ m4) = shotO0 ⟨mem, tab, glob, calls, host⟩ := by
        rw [← HO0.out, ← HO2.out, ← HO1.out]
        simp only [List.append_assoc]
      rw [hL0, hO0] at hs9
      have hF : shotF ⟨mem, tab, glob, calls, host⟩ = shotF0 ⟨mem, tab, glob, calls, host⟩ ++ calls.flatMap callF := rfl
      have hO : shotO ⟨mem, tab, glob, calls, host⟩ = shotO0 ⟨mem, tab, glob, calls, host⟩ ++ calls.flatMap callO := rfl
      have hvb := fun h => shotV_bad (x := ⟨mem, tab, glob, calls, host⟩) (M := []) (List.append_nil _).symm h
      have hvg := fun h => shotV_good (x := ⟨mem, tab, glob, calls, host⟩) h
      rw [hF] at hvb hvg
      rw [hO] at hvg
      generalize shotF0 ⟨mem, tab, glob, calls, host⟩ = L0 at *
      generalize shotO0 ⟨mem, tab, glob, calls, host⟩ = P0 at *
      have HS9 := hid hs9
      have HVB := hid hvb
      have HVG := hid hvg
      have HO := hid hO
      have HB9 := hid (HB8.out.trans hb9)
      clear c0 c1 c2 d0 d1 I1 I2 I3 hs9 hb9 HS8 HB8 hvb hvg hF hO hL0 hO0 hLL HF0 HO0 HO1 HO2
      obtain ⟨c0, c1, c2, d0, d1, I1, I2, I3⟩ := HD.out w9 HB9.out
      go_wp2_with fail
      clear c0 c1 c2 d0 d1 I1 I2 I3
      go_loopw [83] (fun i wr => ∃ k : Nat, k ≤ calls.length ∧ i = .int .i64 k ∧ Hid (RS wr (w.heap.size + 1 + 1) (w.heap.size + 1 + 1) Bo (L0 ++ (calls.take k).flatMap callF) (P0 ++ (calls.take k).flatMap callO) (33554433 + 20971570 * k)) ∧ L0.length + ((calls.take k).flatMap callF).length ≤ 33554433 + 4 * k ∧ Hid (Below (w.heap.size + 1 + 1) (((w.alloc (.cells #[.string mem, .slice aot tab.length capt, .slice aog glob.length capg] 114)).alloc (.cells #[.slice aoc calls.length capc, .int .i64 host] 117)).alloc (.cells #[.slice none 0 0] 270)) wr)) (fun i _ => calls.length - (intOf i).toNat)
      case atStart => exact ⟨0, Nat.zero_le _, rfl, by simpa [Hid] using HS9.out, by have := HS9.out.lenL; simpa using this, HB9⟩
      case round =>
        obtain ⟨k, hk, rfl, hT, hTL, hbel⟩ := hrel
        obtain ⟨c0, c1, c2, d0, d1, I1, I2, I3⟩ := HD.out wr hbel.out
        by_cases hlt : k < calls.length
        · have hW : Below w.heap.size w wr := ((((Below.refl _ _).alloc (Nat.le_refl _) _).alloc (by simp) _).alloc (by simp; omega) _).trans (hbel.out.mono (by omega))
          obtain ⟨lb, lo, cap', vl, vs, hv, hcap, hcap2, e0, e1, e2, e3, hi1, hi2⟩ := HC.out.open k hlt
          simp only [Value.slice.injEq, true_and] at hv
          obtain ⟨rfl, rfl⟩ := hv
          replace e0 := (hW.cell (World.block_lt_of_cell? _ _ e0)).trans e0
          replace e1 := (hW.cell (World.block_lt_of_cell? _ _ e1)).trans e1
          replace e2 := (hW.cell (World.block_lt_of_cell? _ _ e2)).trans e2
          replace e3 := (hW.cell (World.block_lt_of_cell? _ _ e3)).trans e3
          have HWW := hid hW
          have HL1 := HK.out.loc _ (List.getElem_mem hlt)
          have HL2 := HK.out.stk _ (List.getElem_mem hlt)
          have hfl : L0 ++ (calls.take k).flatMap callF ++ callF calls[k] = L0 ++ (calls.take (k + 1)).flatMap callF := by
            rw [List.take_succ_eq_append_getElem hlt, List.flatMap_append, ← List.append_assoc]
            simp
          have hol : P0 ++ (calls.take k).flatMap callO ++ callO calls[k] = P0 ++ (calls.take (k + 1)).flatMap callO := by
            rw [List.take_succ_eq_append_getElem hlt, List.flatMap_append, ← List.append_assoc]
            simp
          have hcl3 := callF_len calls[k]
          have hTL2 : L0.length + ((calls.take (k + 1)).flatMap callF).length ≤ 33554433 + 4 * (k + 1) := by
            rw [List.take_succ_eq_append_getElem hlt, List.flatMap_append, List.length_append, List.flatMap_singleton]
            omega
          have hPL : (L0 ++ (calls.take k).flatMap callF).length ≤ 33554433 + 4 * k := by rw [List.length_append]; exact hTL
          generalize calls[k] = c at *
          obtain ⟨fn, pc, loc, stk⟩ := c
          simp only at hi1 hi2 HL1 HL2 e0 e1 hfl hol
          generalize (L0 ++ (calls.take k).flatMap callF) = P at *
          generalize (P0 ++ (calls.take k).flatMap callO) = Q at *
          obtain ⟨a1, n1, rfl, _⟩ := id hi1
          obtain ⟨a2, n2, rfl, _⟩ := id hi2
          have HI1 := hid hi1
          have HI2 := hid hi2
          have HFL := hid hfl
          have HOL := hid hol
          have HY : Hid (Blk (wr.alloc (.cells #[.int .i64 fn, .int .i64 pc, .slice a1 loc.length n1, .slice a2 stk.length n2] 216)) wr.heap.size 216 [.int .i64 fn, .int .i64 pc, .slice a1 loc.length n1, .slice a2 stk.length n2]) := hid (Blk.new wr _ _ _ rfl)
          have hne1 : wr.heap.size ≠ w.heap.size + 1 + 1 := by
            obtain ⟨_, ⟨v, hkk, _⟩, _⟩ := hT.out.fb
            have := hkk.lt
            omega
          have hne2 : wr.heap.size ≠ Bo := by
            have := hT.out.sb.lt
            omega
          have hbase := hT.out.fb.base
          have HS1 := hid (hT.out.below ((Below.refl _ _).alloc (Nat.le_refl _) (.cells #[.int .i64 fn, .int .i64 pc, .slice a1 loc.length n1, .slice a2 stk.length n2] 216)))
          have HBW : Hid (Below (w.heap.size + 1 + 1) wr (wr.alloc (.cells #[.int .i64 fn, .int .i64 pc, .slice a1 loc.length n1, .slice a2 stk.length n2] 216))) := hid ((Below.refl _ _).alloc hbase _)
          have hu5 := fun w' => u_any fn w'
          have hu6 := fun w' => u_any pc w'
          have hl5 := encN_len fn
          have hl6 := encN_len pc
          have hcO : Q ++ (encN fn ++ encN pc) ++ valO loc ++ valO stk = Q ++ callO ⟨fn, pc, loc, stk⟩ := by
            unfold callO; simp only [List.append_assoc]
          have HCO := hid hcO
          have hcF : ∀ p q : Bool, p = decide (20 < (loc.length : Int)) → q = decide (200 < (stk.length : Int)) → P ++ flt (idxBad fn) 1 ++ flt (idxBad pc) 1 ++ flt (p || q) 2 = P ++ callF ⟨fn, pc, loc, stk⟩ := by
            intro p q hp hq
            rw [hp, hq]; unfold callF; simp only [List.append_assoc]
          have HCF := hid hcF
          have hPL2 : (P ++ flt (idxBad fn) 1).length ≤ 33554434 + 4 * k := by have := flt_len (idxBad fn) 1; rw [List.length_append]; omega
          have hPL3 : (P ++ flt (idxBad fn) 1 ++ flt (idxBad pc) 1).length ≤ 33554435 + 4 * k := by have := flt_len (idxBad pc) 1; rw [List.length_append]; omega
          generalize encN fn = m5 at *
          generalize encN pc = m6 at *
          have HU5 := hid hu5
          have HU6 := hid hu6
          have hz5 : (S m5).size = m5.length := S_size m5
          have hz6 : (S m6).size = m6.length := S_size m6
          clear hi1 hi2 hfl hol hu5 hu6 hcO hcF hTL hW c0 c1 c2 d0 d1 I1 I2 I3 hT hcl3
          go_wp2_with fail
          refine (rs_index _ _ _ _ _ _ _ fn HS1.out (by omega)).mono ?_
          rintro e w10 ⟨rfl, hs9, hb9, hk9⟩
          have HS10 := hid hs9
          have HB10 := hid (HBW.out.trans hb9)
          have HY10 := hid (hk9 _ _ _ (by rfl) hne1 hne2 HY.out)
          have y1 := HY10.out.cell (i := 1) rfl
          clear hs9 hb9 hk9 HS1 HBW HY
          go_wp2_with fail
          refine (rs_index _ _ _ _ _ _ _ pc HS10.out (by omega)).mono ?_
          rintro e w11 ⟨rfl, hs9, hb9, hk9⟩
          have HS11 := hid hs9
          have HB11 := hid (HB10.out.trans hb9)
          have HY11 := hid (hk9 _ _ _ (by rfl) hne1 hne2 HY10.out)
          have y2 := HY11.out.cell (i := 2) rfl
          have y3 := HY11.out.cell (i := 3) rfl
          clear hs9 hb9 hk9 HS10 HB10 HY10 y1
          go_upto_region 20 with fail
          go_cut [] (fun wx => RS wx (w.heap.size + 1 + 1) (w.heap.size + 1 + 1) Bo (P ++ callF ⟨fn, pc, loc, stk⟩) Q (33554433 + 20971570 * k + 1 + 1 + 1) ∧ Below (w.heap.size + 1 + 1) wr wx ∧ Blk wx wr.heap.size 216 [.int .i64 fn, .int .i64 pc, .slice a1 loc.length n1, .slice a2 stk.length n2])
          case first =>
            by_cases hp : (20 : Int) < (loc.length : Int)
            · have e9 := HCF.out true _ (decide_eq_true hp).symm rfl
              rw [Bool.true_or] at e9
              go_wp2_with fail
              refine (rs_add _ _ _ _ _ _ _ true 2 HS11.out (by omega) (by omega)).mono ?_
              rintro e w12 ⟨rfl, hs9, hb9, hk9⟩
              go_wp2_with fail
              go_meet
              rw [e9] at hs9
              exact ⟨hs9, HB11.out.trans hb9, hk9 _ _ _ (by rfl) hne1 hne2 HY11.out⟩
            · have hp1 : (loc.length : Int) ≤ 20 := by omega
              have hp2 : decide ((20 : Int) < (loc.length : Int)) = false := decide_eq_false hp
              by_cases hq : (200 : Int) < (stk.length : Int)
              · have e9 := HCF.out false true hp2.symm (decide_eq_true hq).symm
                rw [Bool.false_or] at e9
                have hq2 : decide ((200 : Int) < (stk.length : Int)) = true := decide_eq_true hq
                go_wp2_with fail
                refine (rs_add _ _ _ _ _ _ _ true 2 HS11.out (by omega) (by omega)).mono ?_
                rintro e w12 ⟨rfl, hs9, hb9, hk9⟩
                go_wp2_with fail
                go_meet
                rw [e9] at hs9
                exact ⟨hs9, HB11.out.trans hb9, hk9 _ _ _ (by rfl) hne1 hne2 HY11.out⟩
              · have e9 := HCF.out false false hp2.symm (decide_eq_false hq).symm
                rw [Bool.false_or] at e9
                have hq2 : decide ((200 : Int) < (stk.length : Int)) = false := decide_eq_false hq
                go_wp2_with fail
                refine (rs_add _ _ _ _ _ _ _ false 2 HS11.out (by omega) (by omega)).mono ?_
                rintro e w12 ⟨rfl, hs9, hb9, hk9⟩
                go_wp2_with fail
                go_meet
                rw [e9] at hs9
                exact ⟨hs9, HB11.out.trans hb9, hk9 _ _ _ (by rfl) hne1 hne2 HY11.out⟩
          case rest =>
          obtain ⟨hs9, hb9, hy9⟩ := hcut
          obtain ⟨wb, hwb⟩ : ∃ wb, wb = wc := ⟨wc, rfl⟩
          subst hwb
          rw [HFL.out] at hs9
          have hNN := hs9.len
          have HS12 := hid hs9
          have HB12 := hid hb9
          have HY12 := hid hy9
          clear hs9 hb9 hy9 HS11 HB11 HY11 y2 y3
          have hD7 : ∀ w', Below wb.drew.heap.size wb.drew w' → w'.cell? ⟨wr.heap.size, 0, none⟩ = some (.int .i64 fn) ∧ w'.cell? ⟨wr.heap.size, 1, none⟩ = some (.int .i64 pc) ∧ w'.cell? ⟨Bo, 0, none⟩ = some (.string (S Q)) ∧ w'.frozen? ⟨Bo, 0, none⟩ = false := by
            intro w' hb
            have hy : Blk w' wr.heap.size _ _ := HY12.out.below ((drew_bel' (n := 1) (Below.refl _ _)).trans hb)
            obtain ⟨x0, x1⟩ := dcell HS12.out.sb w' hb
            exact ⟨hy.cell rfl, hy.cell rfl, x0, x1⟩
          have HD7 := hid hD7
          have D0 := hid (Below.refl wb.drew.heap.size wb.drew)
          obtain ⟨x0, x1, x2, x3⟩ := hD7 _ (Below.refl _ _)
          have hs1 : (S Q).size = Q.length := S_size Q
          have hs3 : ¬ (9223372036854775807 < m5.length + m6.length) := by omega
          have hs4 : ¬ (9223372036854775807 < Q.length + (m5.length + m6.length)) := by omega
          clear hD7
          go_wp2_with fail
          go_cut [] (fun wx => SBlk wx Bo (Q ++ (m5 ++ m6)) ∧ TouchB Bo wb wx)
          case first =>
            go_region_law (first | (go_simp; go_at_call 180; (with_reducible refine (HU5.out _).mono ?_); rintro e w2 ⟨rfl, hb⟩; have D0 := hid (D0.out.trans (hb.mono D0.out.size)); obtain ⟨x0, x1, x2, x3⟩ := HD7.out _ D0.out; clear hb) | (go_simp; go_at_call 180; (with_reducible refine (HU6.out _).mono ?_); rintro e w2 ⟨rfl, hb⟩; have D0 := hid (D0.out.trans (hb.mono D0.out.size)); obtain ⟨x0, x1, x2, x3⟩ := HD7.out _ D0.out; clear hb))
            all_goals
              go_wp2_with fail
              go_meet
              have h9 := wroteB (m := m5 ++ m6) HS12.out.sb D0.out
              rw [← S_append m5 m6] at h9
              exact h9
          case rest =>
          obtain ⟨hb1, ht1⟩ := hcut
          obtain ⟨hs8, hb8, hk8⟩ := HS12.out.ofT hb1 ht1 (N' := 33554456 + 20971570 * k) (by simp only [List.length_append]; omega) (by omega)
          have HS13 := hid hs8
          have HB13 := hid (HB12.out.trans hb8)
          have HY13 := hid (hk8 _ _ _ (by rfl) hne1 hne2 HY12.out)
          have y2 := HY13.out.cell (i := 2) rfl
          clear hb1 ht1 hs8 hb8 hk8 HS12 HB12 HY12 x0 x1 x2 x3 HD7 D0
          go_wp2_with fail
          refine (rs_list _ _ _ _ _ _ _ _ loc HS13.out (fun w2 hb2 => L1.below HI1.out (HWW.out.trans ((HB13.out.trans hb2).mono (by have := HWW.out.size; omega)))) (by have := HL1.1; omega)).mono ?_
          rintro e w14 ⟨rfl, hs9, hb9, hk9⟩
          have HS14 := hid hs9
          have HB14 := hid (HB13.out.trans hb9)
          have HY14 := hid (hk9 _ _ _ (by rfl) hne1 hne2 HY13.out)
          have y3 := HY14.out.cell (i := 3) rfl
          clear hs9 hb9 hk9 HS13 HB13 HY13 y2
          go_wp2_with fail
          refine (rs_list _ _ _ _ _ _ _ _ stk HS14.out (fun w2 hb2 => L1.below HI2.out (HWW.out.trans ((HB14.out.trans hb2).mono (by have := HWW.out.size; omega)))) (by have := HL1.1; have := HL2.1; omega)).mono ?_
          rintro e w15 ⟨rfl, hs9, hb9, hk9⟩
          rw [HCO.out, HOL.out] at hs9
          have hs10 : RS w15 (w.heap.size + 1 + 1) (w.heap.size + 1 + 1) Bo (L0 ++ (calls.take (k + 1)).flatMap callF) (P0 ++ (calls.take (k + 1)).flatMap callO) (33554433 + 20971570 * (k + 1)) :=
            ⟨hs9.fb, hs9.sb, hs9.ne, hs9.le, by have := hs9.len; have := HL1.1; have := HL2.1; omega, by have := hs9.lenL; have := HL1.1; have := HL2.1; omega⟩
          have HS15 := hid hs10
          have HB15 := hid (hbel.out.trans (HB14.out.trans hb9))
          clear hs9 hs10 hb9 hk9 HS14 HB14 HY14 y3
          go_wp2_with fail
          go_roundw
          case rel => exact ⟨k + 1, by omega, by go_num, HS15, hTL2, HB15⟩
          case measure => simp [intOf]; omega
        · obtain rfl : k = calls.length := by omega
          have hT2 := hT.out
          rw [List.take_length] at hT2
          have HX : Below w.heap.size w wr := ((((Below.refl _ _).alloc (Nat.le_refl _) _).alloc (by simp) _).alloc (by simp; omega) _).trans (hbel.out.mono (by omega))
          have HXX := hid HX
          obtain ⟨_, ⟨vf, hfk, hfo⟩, _⟩ := hT2.fb
          have q0 := hfk.cell (i := 0) rfl
          have p0 := hT2.sb.cell (i := 0) rfl
          have hff := ffirst_any wr vf _ (OwnI.ints hfo)
          have HFF := hid hff
          clear c0 c1 c2 d0 d1 I1 I2 I3 hT HX hfk hfo hff hT2
          by_cases h0 : firstF (L0 ++ calls.flatMap callF) = 0
          · have HR := hid (HVG.out h0)
            rw [h0] at HFF
            clear h0
            go_wp2_with fail
            refine HFF.out.mono ?_
            rintro e w10 ⟨rfl, rfl⟩
            go_wp2_with fail
            go_ret2
            rw [HR.out]
            exact ⟨rfl, HXX.out⟩
          · have h0' : (firstF (L0 ++ calls.flatMap callF) != 0) = true := by simpa using h0
            have HR := hid (HVB.out h0)
            generalize firstF (L0 ++ calls.flatMap callF) = fp at *
            clear h0
            go_wp2_with fail
            refine HFF.out.mono ?_
            rintro e w10 ⟨rfl, rfl⟩
            go_wp2_with fail
            go_ret2
            rw [HR.out]
            exact ⟨rfl, HXX.out⟩
end Go.Proofs.Ytpapblahnbeccaa
