/-
  SHOTS: the walk of the program's Write. Conditions: the parts' lengths at most 2^20.
-/
import Derived.Test.YtpapblahnbeccaaSwr
import Derived.Deep.CutBlock
namespace Go.Proofs.Ytpapblahnbeccaa
open Go.RowKit Go.Lib
attribute [local go_sem ↓] Go.wp_at_zero Go.wp_at_succ

theorem callF_ok (c : Cal) : ∀ x ∈ callF c, x ≠ 0 := app_ok (app_ok (flt_ok (by decide)) (flt_ok (by decide))) (flt_ok (by decide))
theorem big_cases (x : Shot) : ((2048 : Int) < (x.mem.size : Int) ∧ shotBig x = true) ∨ ((x.mem.size : Int) ≤ 2048 ∧ (16 : Int) < (x.tab.length : Int) ∧ shotBig x = true) ∨ ((x.mem.size : Int) ≤ 2048 ∧ (x.tab.length : Int) ≤ 16 ∧ (8 : Int) < (x.glob.length : Int) ∧ shotBig x = true)
    ∨ ((x.mem.size : Int) ≤ 2048 ∧ (x.tab.length : Int) ≤ 16 ∧ (x.glob.length : Int) ≤ 8 ∧ decide ((2048 : Int) < (x.mem.size : Int)) = false ∧ decide ((16 : Int) < (x.tab.length : Int)) = false ∧ decide ((8 : Int) < (x.glob.length : Int)) = false ∧ shotBig x = false) := by
  unfold shotBig
  by_cases h1 : (2048 : Int) < (x.mem.size : Int)
  · exact .inl ⟨h1, by rw [decide_eq_true h1]; rfl⟩
  by_cases h2 : (16 : Int) < (x.tab.length : Int)
  · exact .inr (.inl ⟨by omega, h2, by rw [decide_eq_true h2]; simp⟩)
  by_cases h3 : (8 : Int) < (x.glob.length : Int)
  · exact .inr (.inr (.inl ⟨by omega, by omega, h3, by rw [decide_eq_true h3]; simp⟩))
  · exact .inr (.inr (.inr ⟨by omega, by omega, by omega, decide_eq_false h1, decide_eq_false h2, decide_eq_false h3, by rw [decide_eq_false h1, decide_eq_false h2, decide_eq_false h3]; rfl⟩))
theorem shotV_big {x : Shot} (h : shotBig x = true) : shotV x = .tuple #[.string ⟨#[]⟩, .int .i64 2] := by
  have e : shotF x = 2 :: ((x.tab.flatMap (fun n => flt (atBad n) 1) ++ flt (idxBad x.host) 1 ++ flt (decide (40 < (x.calls.length : Int))) 2) ++ x.calls.flatMap callF) := by
    unfold shotF shotF0
    rw [h]
    simp [flt]
  unfold shotV
  rw [e, if_neg (by simp)]
  rfl

theorem shotV_bad {x : Shot} {L M : List Int} (e : shotF x = L ++ M) (h : firstF L ≠ 0) : shotV x = .tuple #[.string ⟨#[]⟩, .int .i64 (firstF L)] := by
  have hL : L ≠ [] := fun e => h (by rw [e]; rfl)
  unfold shotV
  rw [e, if_neg (by simp [hL]), firstF_prefix hL]
theorem shotF_ok (x : Shot) : ∀ y ∈ shotF x, y ≠ 0 := by
  unfold shotF shotF0
  exact app_ok (app_ok (app_ok (app_ok (flt_ok (by decide)) (flatMap_ok (fun _ => flt_ok (by decide)) _)) (flt_ok (by decide))) (flt_ok (by decide))) (flatMap_ok callF_ok _)
theorem shotV_good {x : Shot} (h : firstF (shotF x) = 0) : shotV x = .tuple #[.string (S (shotO x)), .int .i64 0] := if_pos ((firstF_zero (shotF_ok x)).1 h)

theorem sta_mem {w2 w3 : World} {base B : Nat} {v : Value} {l : List UInt8} {mem : ByteArray} {ao : Option Addr} {cap N : Nat} (h : WBox w2 base B v l (firstF [])) (ho : OwnI w3 base .u8 5 (.slice ao (bytesI l ++ nums mem).length cap) (bytesI l ++ nums mem)) (hb3 : Below base w2.drew w3) (hg : w2.drew.grownBy w3 v.ownBlock) (hN : l.length + mem.size ≤ N) :
    Sta (w3.setCell ⟨B, 0, none⟩ (.slice ao ((bytesI l).length + (nums mem).length) cap)) base B [] (l ++ mem.data.toList) N ∧ Below base w2 (w3.setCell ⟨B, 0, none⟩ (.slice ao ((bytesI l).length + (nums mem).length) cap)) := by
  have e := S_of mem
  obtain ⟨v', _, h1, h2, _⟩ := wrote (m := mem.data.toList) h (Below.refl _ _) (by rw [e]; exact ho) hb3 hg
  rw [e] at h1 h2
  have hs : mem.data.toList.length = mem.size := Array.length_toList
  exact ⟨⟨by simp, v', _, h1, fun _ => rfl, by rw [List.length_append, hs]; exact hN⟩, h2⟩

theorem call_step (L0 : List Int) (calls : List Cal) (k : Nat) (h : k < calls.length) : ∀ p q : Bool, p = decide (20 < (calls[k].loc.length : Int)) → q = decide (200 < (calls[k].stk.length : Int)) →
    firstF ((L0 ++ (calls.take k).flatMap callF) ++ flt (idxBad calls[k].fn) 1 ++ flt (idxBad calls[k].pc) 1 ++ flt p 2 ++ flt q 2) = firstF (L0 ++ (calls.take (k + 1)).flatMap callF) := by
  intro p q hp hq
  rw [two_flt, hp, hq, List.take_succ_eq_append_getElem h, List.flatMap_append, List.flatMap_singleton]
  unfold callF
  simp only [List.append_assoc]

set_option maxRecDepth 100000 in
set_option maxHeartbeats 8000000 in
theorem swrite_any (w : World) (x : Shot) (vt vg vc : Value) (ht : Ints w .i64 vt x.tab) (hg : Ints w .i64 vg x.glob) (hc : CallsS w vc x.calls) (hk : ShotOk x) :
    Calls Try.prog 121 #[.agg #[.string x.mem, vt, vg], .agg #[vc, .int .i64 x.host]] w fun e w' => e = .returned (shotV x) ∧ Below w.heap.size w w' := by
  have HK := hid hk
  have HT := hid ht
  have HG := hid hg
  have HC := hid hc
  have hcs := big_cases x
  have hbv := fun h => shotV_big (x := x) h
  generalize hxx : shotBig x = big at *
  have HXX := hid hxx
  have HBV := hid hbv
  obtain ⟨mem, tab, glob, calls, host⟩ := x
  have X1 := hid (Blk.new w #[.string mem, vt, vg] 114 _ rfl)
  have X2 : Hid (Blk ((w.alloc (.cells #[.string mem, vt, vg] 114)).alloc (.cells #[vc, .int .i64 host] 117)) (w.heap.size + 1) 117 [vc, .int .i64 host]) := hid (Blk.new _ _ _ _ (by simp))
  have hS0 : Sta (((w.alloc (.cells #[.string mem, vt, vg] 114)).alloc (.cells #[vc, .int .i64 host] 117)).alloc (.cells #[.slice none 0 0, .int .i64 0] 265)) (w.heap.size + 1 + 1) (w.heap.size + 1 + 1) [] [] 0 := by
    refine ⟨by simp, _, [], ⟨Blk.new _ _ _ _ (by simp), World.ownsRow_nil _ _ _ _, Nat.le_refl _, by simp⟩, fun _ => rfl, Nat.le_refl _⟩
  have HS0 := hid hS0
  obtain ⟨aot, capt, hvt, _⟩ := id HT.out
  obtain ⟨aog, capg, hvg, _⟩ := id HG.out
  obtain ⟨css, _, ⟨aoc, capc, hvc, _⟩, _⟩ := id HC.out
  subst hvt hvg hvc
  simp only at *
  have hD : ∀ w', Below (w.heap.size + 1 + 1) (((w.alloc (.cells #[.string mem, .slice aot tab.length capt, .slice aog glob.length capg] 114)).alloc (.cells #[.slice aoc calls.length capc, .int .i64 host] 117)).alloc (.cells #[.slice none 0 0, .int .i64 0] 265)) w' → w'.cell? ⟨w.heap.size, 0, none⟩ = some (.string mem) ∧ w'.cell? ⟨w.heap.size, 1, none⟩ = some (.slice aot tab.length capt) ∧ w'.cell? ⟨w.heap.size, 2, none⟩ = some (.slice aog glob.length capg) ∧ w'.cell? ⟨w.heap.size + 1, 0, none⟩ = some (.slice aoc calls.length capc) ∧ w'.cell? ⟨w.heap.size + 1, 1, none⟩ = some (.int .i64 host) ∧ Hid (Ints w' .i64 (.slice aot tab.length capt) tab) ∧ Hid (Ints w' .i64 (.slice aog glob.length capg) glob) ∧ Hid (CallsS w' (.slice aoc calls.length capc) calls) := by
    intro w' hb
    have y1 : Blk w' w.heap.size _ _ := Blk.under2 ((X1.out.alloc _).alloc _) hb (by omega)
    have y2 : Blk w' (w.heap.size + 1) _ _ := Blk.under2 (X2.out.alloc _) hb (by simp)
    have hw : Below w.heap.size w w' := ((((Below.refl _ _).alloc (Nat.le_refl _) _).alloc (by simp) _).alloc (by simp; omega) _).trans (hb.mono (by omega))
    exact ⟨y1.cell rfl, y1.cell rfl, y1.cell rfl, y2.cell rfl, y2.cell rfl, hid (L1.below HT.out hw), hid (L1.below HG.out hw), hid (HC.out.below hw)⟩
  have HD := hid hD
  clear hk ht hg hc hS0 hxx hbv hD
  rcases hcs with ⟨k1, rfl⟩ | ⟨k1, k2, rfl⟩ | ⟨k1, k2, k3, rfl⟩ | ⟨k1, k2, k3, k4, k5, k6, rfl⟩
  case inr.inr.inr =>
    go_enter Try.func121, Try.ntmps121
    go_wp2_with fail
    refine (sfail _ _ _ [] [] 0 false 2 (by decide) HS0.out).mono ?_
    rintro e w1 ⟨rfl, hs1, hb1, _⟩
    obtain ⟨c0, c1, c2, d0, d1, I1, I2, I3⟩ := HD.out w1 hb1
    have q1 := hs1.cell
    rw [show firstF ([] ++ flt false 2) = 0 from rfl] at q1
    rw [show ([] : List Int) ++ flt false 2 = [] from rfl] at hs1
    have HS := hid hs1
    have HB := hid hb1
    clear hs1 hb1
    go_wp2_with fail
    refine (scount _ _ _ _ _ _ _ _ HS.out (by omega)).mono ?_
    rintro e w2 ⟨rfl, hs2, hb2, _⟩
    have hb2' := HB.out.trans hb2
    clear c0 c1 c2 d0 d1 I1 I2 I3 q1 HS HB
    obtain ⟨c0, c1, c2, d0, d1, I1, I2, I3⟩ := HD.out w2 hb2'
    rw [k4, show ([] : List Int) ++ flt false 2 = [] from rfl, List.nil_append] at hs2
    obtain ⟨_, v2, l2, hw2, hl2, hn2⟩ := id hs2
    have hl2' := hl2 rfl
    subst hl2'
    have HW := hid hw2
    have HB := hid hb2'
    have hlen2 : (encN (mem.size : Int)).length ≤ 10 := hn2
    have HL2 := hid hlen2
    have p0 := hw2.blk.cell (i := 0) rfl
    have pf := hw2.blk.free 0
    have HM := HK.out.mem
    clear hs2 hb2 hb2' hl2 hn2 hw2 hlen2
    have hD2 : (w2.drew.cell? ⟨w.heap.size + 1 + 1, 0, none⟩ = some v2 ∧ w2.drew.frozen? ⟨w.heap.size + 1 + 1, 0, none⟩ = false) ∧ w2.drew.cell? ⟨w.heap.size, 0, none⟩ = some (.string mem) := ⟨⟨p0, pf⟩, c0⟩
    obtain ⟨⟨p0', pf'⟩, c0'⟩ := hD2
    go_wp2_with fail
    go_cut [] (fun wx => Sta wx (w.heap.size + 1 + 1) (w.heap.size + 1 + 1) [] (encN (mem.size : Int) ++ mem.data.toList) 1048586 ∧ Below (w.heap.size + 1 + 1) w2 wx)
    case first =>
     go_region_law ((refine step_str elem_u8 Try.underlying9 (by rfl) _ _ (by rfl) (by rfl) (by rfl) (WBox.below HW.out (drew_bel' (n := 1) (Below.refl _ _))).own (by rw [bytesI_length]; have := HL2.out; omega) (WBox.below HW.out (drew_bel' (n := 1) (Below.refl _ _))).base ?_; intro v' w3 ho hb3 hg; obtain ⟨ao2, cap2, rfl, _⟩ := own_sl ho; have z0 := (blk_grown (WBox.below HW.out (drew_bel' (n := 1) (Below.refl _ _))).blk hg HW.out.ne).cell (i := 0) rfl; have z1 := (blk_grown (WBox.below HW.out (drew_bel' (n := 1) (Below.refl _ _))).blk hg HW.out.ne).free 0; have HG := hid (And.intro ho (And.intro hb3 hg)); clear ho hb3 hg))
     all_goals
       go_wp2_with fail
       go_meet
       exact sta_mem HW.out HG.out.1 HG.out.2.1 HG.out.2.2 (N := 1048586) (by have := HL2.out; omega)
    case rest =>
    obtain ⟨hs4, hb4⟩ := hcut
    have hb4' := HB.out.trans hb4
    obtain ⟨c0, c1, c2, d0, d1, I1, I2, I3⟩ := HD.out wc hb4'
    have HS := hid hs4
    have HB := hid hb4'
    clear hs4 hb4 hb4' HW HL2 p0 pf p0' pf' c0'
    go_wp2_with fail
    refine (scount _ _ _ _ _ _ _ _ HS.out (by omega)).mono ?_
    rintro e w5 ⟨rfl, hs5, hb5, _⟩
    have hb5' := HB.out.trans hb5
    clear c0 c1 c2 d0 d1 I1 I2 I3 HS HB
    obtain ⟨c0, c1, c2, d0, d1, I1, I2, I3⟩ := HD.out w5 hb5'
    rw [k5, show ([] : List Int) ++ flt false 2 = [] from rfl] at hs5
    have HS := hid hs5
    have HB := hid hb5'
    clear hs5 hb5 hb5'
    go_wp2_with fail
    clear c0 c1 c2 d0 d1 I1 I2 I3
    go_loopw [63] (fun i wr => ∃ k : Nat, k ≤ tab.length ∧ i = .int .i64 k ∧ Hid (Sta wr (w.heap.size + 1 + 1) (w.heap.size + 1 + 1) ((tab.take k).flatMap fun n => flt (atBad n) 1) (encN (mem.size : Int) ++ mem.data.toList ++ encN (tab.length : Int) ++ (tab.take k).flatMap (encS 9)) (1048596 + 10 * k)) ∧ Hid (Below (w.heap.size + 1 + 1) (((w.alloc (.cells #[.string mem, .slice aot tab.length capt, .slice aog glob.length capg] 114)).alloc (.cells #[.slice aoc calls.length capc, .int .i64 host] 117)).alloc (.cells #[.slice none 0 0, .int .i64 0] 265)) wr)) (fun i _ => tab.length - (intOf i).toNat)
    case atStart => exact ⟨0, Nat.zero_le _, rfl, by simpa [Hid] using HS.out, HB⟩
    case round =>
      obtain ⟨k, hk, rfl, hT, hbel⟩ := hrel
      obtain ⟨c0, c1, c2, d0, d1, I1, I2, I3⟩ := HD.out wr hbel.out
      by_cases hlt : k < tab.length
      · rcases I1.out.open with ⟨_, _, _, e, _⟩ | ⟨lb, lo, cap', hv, _, hcap, hcap2, hcl⟩
        · rw [e] at hlt; simp at hlt
        simp only [Value.slice.injEq, true_and] at hv
        obtain ⟨rfl, rfl⟩ := hv
        have e0 := hcl k hlt
        have HTB := HK.out.tab
        have hst : encN (mem.size : Int) ++ mem.data.toList ++ encN (tab.length : Int) ++ (tab.take k).flatMap (encS 9) ++ encS 9 tab[k] = encN (mem.size : Int) ++ mem.data.toList ++ encN (tab.length : Int) ++ (tab.take (k + 1)).flatMap (encS 9) := by
          rw [List.take_succ_eq_append_getElem hlt, List.flatMap_append, List.append_assoc _ _ (encS 9 tab[k])]
          simp
        have hsf : ((tab.take k).flatMap fun n => flt (atBad n) 1) ++ flt (atBad tab[k]) 1 = (tab.take (k + 1)).flatMap fun n => flt (atBad n) 1 := by
          rw [List.take_succ_eq_append_getElem hlt, List.flatMap_append]
          simp
        have hrg := HK.out.tabr _ (List.getElem_mem hlt)
        have HST := hid (And.intro hst hsf)
        have haf := at_form tab[k]
        clear hcl c0 c1 c2 d0 d1 I1 I2 I3 hst hsf
        generalize tab[k] = z at *
        generalize ha : atBad z = za at *
        have HA := hid ha
        clear ha
        go_wp2_with fail
        refine (sfail _ _ _ _ _ _ za 1 (by decide) hT.out).mono ?_
        rintro e w6 ⟨rfl, hs6, hb6, _⟩
        have HS6 := hid hs6
        have HB6 := hid hb6
        clear hs6 hb6
        go_wp2_with fail
        refine (ssigned _ _ _ _ _ _ z HS6.out hrg (by omega)).mono ?_
        rintro e w7 ⟨rfl, hs7, hb7, _⟩
        rw [HST.out.1, HST.out.2] at hs7
        have HS7 := hid hs7
        have HB7 := hid (hbel.out.trans (HB6.out.trans hb7))
        clear hs7 hb7
        go_wp2_with fail
        go_roundw
        case rel => exact ⟨k + 1, by omega, by go_num, HS7, HB7⟩
        case measure => simp [intOf]; omega
      · obtain rfl : k = tab.length := by omega
        have hTT := hT.out
        rw [List.take_length] at hTT
        have HTT := hid hTT
        have HTB := HK.out.tab
        have HGB := HK.out.glob
        have HCB := HK.out.calls
        clear hTT hT
        go_wp2_with fail
        refine (svalues _ _ _ _ _ _ _ glob 8 HTT.out (fun w2 hb2 => (HD.out w2 (hbel.out.trans hb2)).2.2.2.2.2.2.1.out) HK.out.globr (by omega)).mono ?_
        rintro e w6 ⟨rfl, hs6, hb6, _⟩
        have hb6' := hbel.out.trans hb6
        rw [show valF glob 8 = [] from by unfold valF; rw [k6]; rfl, List.append_nil] at hs6
        have HS6 := hid hs6
        have HB6 := hid hb6'
        clear c0 c1 c2 d0 d1 I1 I2 I3 hs6 hb6 hb6' HTT hbel
        obtain ⟨c0, c1, c2, d0, d1, I1, I2, I3⟩ := HD.out w6 HB6.out
        go_wp2_with fail
        refine (splain _ _ _ _ _ _ host HS6.out (by omega)).mono ?_
        rintro e w7 ⟨rfl, hs7, hb7, _⟩
        have HB7 := hid (HB6.out.trans hb7)
        have HS7 := hid hs7
        clear c0 c1 c2 d0 d1 I1 I2 I3 hs7 hb7 HS6 HB6
        obtain ⟨c0, c1, c2, d0, d1, I1, I2, I3⟩ := HD.out w7 HB7.out
        go_wp2_with fail
        refine (scount _ _ _ _ _ _ calls.length 40 HS7.out (by omega)).mono ?_
        rintro e w8 ⟨rfl, hs8, hb8, _⟩
        have HB8 := hid (HB7.out.trans hb8)
        have hL0 : (tab.flatMap fun n => flt (atBad n) 1) ++ flt (idxBad host) 1 ++ flt (decide (40 < (calls.length : Int))) 2 = shotF0 ⟨mem, tab, glob, calls, host⟩ := by
          unfold shotF0
          rw [HXX.out]
          rfl
        have hO0 : encN (mem.size : Int) ++ mem.data.toList ++ encN (tab.length : Int) ++ tab.flatMap (encS 9) ++ valO glob ++ encN host ++ encN (calls.length : Int) = shotO0 ⟨mem, tab, glob, calls, host⟩ := rfl
        rw [hL0, hO0] at hs8
        have hF : shotF ⟨mem, tab, glob, calls, host⟩ = shotF0 ⟨mem, tab, glob, calls, host⟩ ++ calls.flatMap callF := rfl
        have hO : shotO ⟨mem, tab, glob, calls, host⟩ = shotO0 ⟨mem, tab, glob, calls, host⟩ ++ calls.flatMap callO := rfl
        have hvb := fun L M e h => shotV_bad (x := ⟨mem, tab, glob, calls, host⟩) (L := L) (M := M) e h
        have hvg := fun h => shotV_good (x := ⟨mem, tab, glob, calls, host⟩) h
        rw [hF] at hvb hvg
        rw [hO] at hvg
        generalize shotF0 ⟨mem, tab, glob, calls, host⟩ = L0 at *
        generalize shotO0 ⟨mem, tab, glob, calls, host⟩ = O0 at *
        have hs9 : Sta w8 (w.heap.size + 1 + 1) (w.heap.size + 1 + 1) L0 O0 33554432 := hs8.congr rfl hs8.ok (fun _ => rfl) (by omega)
        have HS8 := hid hs9
        have HVB := hid hvb
        have HVG := hid hvg
        have HF := hid hF
        have HO := hid hO
        clear c0 c1 c2 d0 d1 I1 I2 I3 hs8 hs9 hb8 HS7 HB7 hvb hvg hF hO hL0 hO0 HS HB
        obtain ⟨c0, c1, c2, d0, d1, I1, I2, I3⟩ := HD.out w8 HB8.out
        go_wp2_with fail
        clear c0 c1 c2 d0 d1 I1 I2 I3
        go_loopw [94] (fun i wr => ∃ k : Nat, k ≤ calls.length ∧ i = .int .i64 k ∧ Hid (Sta wr (w.heap.size + 1 + 1) (w.heap.size + 1 + 1) (L0 ++ (calls.take k).flatMap callF) (O0 ++ (calls.take k).flatMap callO) (33554432 + 20971560 * k)) ∧ Hid (Below (w.heap.size + 1 + 1) (((w.alloc (.cells #[.string mem, .slice aot tab.length capt, .slice aog glob.length capg] 114)).alloc (.cells #[.slice aoc calls.length capc, .int .i64 host] 117)).alloc (.cells #[.slice none 0 0, .int .i64 0] 265)) wr)) (fun i _ => calls.length - (intOf i).toNat)
        case atStart => exact ⟨0, Nat.zero_le _, rfl, by simpa [Hid] using HS8.out, HB8⟩
        case round =>
          obtain ⟨k, hk, rfl, hT, hbel⟩ := hrel
          obtain ⟨c0, c1, c2, d0, d1, I1, I2, I3⟩ := HD.out wr hbel.out
          by_cases hlt : k < calls.length
          · have hW : Below w.heap.size w wr := ((((Below.refl _ _).alloc (Nat.le_refl _) _).alloc (by simp) _).alloc (by simp; omega) _).trans (hbel.out.mono (by omega))
            obtain ⟨lb, lo, cap', vl, vs, hv, hcap, hcap2, e0, e1, e2, e3, hi1, hi2⟩ := HC.out.open k hlt
            simp only [Value.slice.injEq, true_and] at hv
            obtain ⟨rfl, rfl⟩ := hv
            replace e0 := (hW.cell (World.block_lt_of_cell? _ _ e0)).trans e0
            replace e1 := (hW.cell (World.block_lt_of_cell? _ _ e1)).trans e1
            replace e2 := (hW.cell (World.block_lt_of_cell? _ _ e2)).trans e2
            replace e3 := (hW.cell (World.block_lt_of_cell? _ _ e3)).trans e3
            have HWW := hid hW
            clear hW
            have HL1 := HK.out.loc _ (List.getElem_mem hlt)
            have HL2 := HK.out.stk _ (List.getElem_mem hlt)
            have hfl := call_step L0 calls k hlt
            have hol : O0 ++ (calls.take k).flatMap callO ++ callO calls[k] = O0 ++ (calls.take (k + 1)).flatMap callO := by
              rw [List.take_succ_eq_append_getElem hlt, List.flatMap_append, ← List.append_assoc]
              simp
            have hpre : shotF ⟨mem, tab, glob, calls, host⟩ = L0 ++ (calls.take k).flatMap callF ++ (calls.drop k).flatMap callF := by
              rw [HF.out, List.append_assoc, ← List.flatMap_append, List.take_append_drop]
            have HPRE := hid hpre
            rw [HF.out] at hpre
            have HVB2 := hid (HVB.out _ _ hpre)
            generalize calls[k] = c at *
            obtain ⟨fn, pc, loc, stk⟩ := c
            simp only at hi1 hi2 HL1 HL2 e0 e1 hfl hol
            generalize (L0 ++ (calls.take k).flatMap callF) = P at *
            generalize (O0 ++ (calls.take k).flatMap callO) = Q at *
            obtain ⟨a1, n1, rfl, _⟩ := id hi1
            obtain ⟨a2, n2, rfl, _⟩ := id hi2
            have HI1 := hid hi1
            have HI2 := hid hi2
            have HFL := hid hfl
            have HOL := hid hol
            have hY : Blk (wr.alloc (.cells #[.int .i64 fn, .int .i64 pc, .slice a1 loc.length n1, .slice a2 stk.length n2] 216)) wr.heap.size 216 [.int .i64 fn, .int .i64 pc, .slice a1 loc.length n1, .slice a2 stk.length n2] := Blk.new wr _ _ _ rfl
            have HY := hid hY
            have hne : wr.heap.size ≠ w.heap.size + 1 + 1 := by
              obtain ⟨_, v, l, hb, _⟩ := hT.out
              have := hb.blk.lt
              omega
            have hbase := hT.out.base
            have q1 := cell_alloc (.cells #[.int .i64 fn, .int .i64 pc, .slice a1 loc.length n1, .slice a2 stk.length n2] 216) hT.out.cell
            have hS1 := hT.out.below ((Below.refl _ _).alloc (Nat.le_refl _) (.cells #[.int .i64 fn, .int .i64 pc, .slice a1 loc.length n1, .slice a2 stk.length n2] 216))
            have HS1 := hid hS1
            have hbw : Below (w.heap.size + 1 + 1) wr (wr.alloc (.cells #[.int .i64 fn, .int .i64 pc, .slice a1 loc.length n1, .slice a2 stk.length n2] 216)) := (Below.refl _ _).alloc hbase _
            have HBW := hid hbw
            clear hi1 hi2 hfl hol hpre hY hS1 hbw c0 c1 c2 d0 d1 I1 I2 I3 hT
            by_cases h0 : firstF P = 0
            · have HO := hid h0
              rw [h0] at q1
              clear h0
              go_wp2_with fail
              refine (splain _ _ _ _ _ _ fn HS1.out (by omega)).mono ?_
              rintro e w9 ⟨rfl, hs9, hb9, hk9⟩
              have HS9 := hid hs9
              have HB9 := hid (HBW.out.trans hb9)
              have HY9 := hid (hk9 _ _ _ (by rfl) hne HY.out)
              have y1 := HY9.out.cell (i := 1) rfl
              clear hs9 hb9 hk9 HS1 HBW HY q1
              go_wp2_with fail
              refine (splain _ _ _ _ _ _ pc HS9.out (by omega)).mono ?_
              rintro e w10 ⟨rfl, hs9, hb9, hk9⟩
              have HS10 := hid hs9
              have HB10 := hid (HB9.out.trans hb9)
              have HY10 := hid (hk9 _ _ _ (by rfl) hne HY9.out)
              have y2 := HY10.out.cell (i := 2) rfl
              clear hs9 hb9 hk9 HS9 HB9 HY9 y1
              go_wp2_with fail
              refine (svalues _ _ _ _ _ _ _ loc 20 HS10.out (fun w2 hb2 => L1.below HI1.out (HWW.out.trans ((HB10.out.trans hb2).mono (by have := HWW.out.size; omega)))) HL1.2 (by have := HL1.1; omega)).mono ?_
              rintro e w11 ⟨rfl, hs9, hb9, hk9⟩
              have HS11 := hid hs9
              have HB11 := hid (HB10.out.trans hb9)
              have HY11 := hid (hk9 _ _ _ (by rfl) hne HY10.out)
              have y3 := HY11.out.cell (i := 3) rfl
              clear hs9 hb9 hk9 HS10 HB10 HY10 y2
              go_wp2_with fail
              refine (svalues _ _ _ _ _ _ _ stk 200 HS11.out (fun w2 hb2 => L1.below HI2.out (HWW.out.trans ((HB11.out.trans hb2).mono (by have := HWW.out.size; omega)))) HL2.2 (by have := HL1.1; have := HL2.1; omega)).mono ?_
              rintro e w12 ⟨rfl, hs9, hb9, hk9⟩
              have HS12 := hid hs9
              have HB12 := hid (hbel.out.trans (HB11.out.trans hb9))
              clear hs9 hb9 hk9 HS11 HB11 HY11 y3
              go_wp2_with fail
              go_roundw
              case rel =>
                refine ⟨k + 1, by omega, by go_num, hid ?_, HB12⟩
                have h9 := HS12.out
                rw [← HOL.out]
                refine h9.congr (HFL.out _ _ rfl rfl) ?_ (fun _ => ?_) (by have := HL1.1; have := HL2.1; omega)
                · exact app_ok HS8.out.ok (flatMap_ok callF_ok _)
                · unfold callO; simp only [List.append_assoc]
              case measure => simp [intOf]; omega
            · have h0' : (firstF P != 0) = true := by simpa using h0
              have HR := hid (HVB2.out h0)
              have HX := hid (hbel.out.trans HBW.out)
              generalize firstF P = fp at *
              clear h0
              go_wp2_with fail
              go_region_held3 (fun w' => w'.cell? ⟨w.heap.size + 1 + 1, 1, none⟩ = some (.int .i64 fp)) (first | exact q1 | go_keep) (fail)
              go_wp2_with fail
              go_ret2
              rw [HR.out]
              exact ⟨rfl, drew_bel' (n := 1) ((((Below.refl _ _).alloc (Nat.le_refl _) _).alloc (by simp) _ |>.alloc (by simp; omega) _).trans (HX.out.mono (by omega)))⟩
          · obtain rfl : k = calls.length := by omega
            have hT2 := hT.out
            rw [List.take_length] at hT2
            have q1 := hT2.cell
            have HVB2 := hid (HVB.out _ [] (List.append_nil (L0 ++ calls.flatMap callF)).symm)
            have HX : Below w.heap.size w wr := ((((Below.refl _ _).alloc (Nat.le_refl _) _).alloc (by simp) _).alloc (by simp; omega) _).trans (hbel.out.mono (by omega))
            have HXX := hid HX
            clear c0 c1 c2 d0 d1 I1 I2 I3 hT HX
            by_cases h0 : firstF (L0 ++ calls.flatMap callF) = 0
            · have HR := hid (HVG.out h0)
              obtain ⟨_, v, l, hwb, hlo, _⟩ := hT2
              have hl : l = shotO ⟨mem, tab, glob, calls, host⟩ := (hlo h0).trans HO.out.symm
              have hcv : (convert 133 9 v).run Try.prog wr = .ok (.string (S (shotO ⟨mem, tab, glob, calls, host⟩))) wr := by
                have h1 := conv_bytes (OwnI.ints hwb.own)
                rw [bytesI_back, hl] at h1
                exact h1
              have p0 := hwb.blk.cell (i := 0) rfl
              rw [h0] at q1
              have HR2 := hid (HO.out)
              generalize shotO ⟨mem, tab, glob, calls, host⟩ = OO at *
              clear h0 hwb hlo hl
              go_wp2_with fail
              go_ret2
              rw [HR.out, ← HR2.out]
              exact ⟨rfl, HXX.out⟩
            · have h0' : (firstF (L0 ++ calls.flatMap callF) != 0) = true := by simpa using h0
              have HR := hid (HVB2.out h0)
              generalize firstF (L0 ++ calls.flatMap callF) = fp at *
              clear h0 hT2
              go_wp2_with fail
              go_region_held3 (fun w' => w'.cell? ⟨w.heap.size + 1 + 1, 1, none⟩ = some (.int .i64 fp)) (first | exact q1 | go_keep) (fail)
              go_wp2_with fail
              go_ret2
              rw [HR.out]
              exact ⟨rfl, drew_bel' (n := 1) HXX.out⟩
  all_goals
    rw [HBV.out rfl]
    go_enter Try.func121, Try.ntmps121
    go_wp2_with fail
    refine (sfail _ _ _ [] [] 0 true 2 (by decide) HS0.out).mono ?_
    rintro e w1 ⟨rfl, hs1, hb1, _⟩
    have q1 := hs1.cell
    have HB1 := hid hb1
    rw [show firstF ([] ++ flt true 2) = 2 from rfl] at q1
    clear hs1 hb1
    go_wp2_with fail
    go_region_held3 (fun w' => w'.cell? ⟨w.heap.size + 1 + 1, 1, none⟩ = some (.int .i64 2)) (first | exact q1 | go_keep) (fail)
    go_wp2_with fail
    go_ret2
    exact ⟨rfl, drew_bel' (n := 1) ((((Below.refl _ _).alloc (Nat.le_refl _) _).alloc (by simp) _ |>.alloc (by simp; omega) _).trans (HB1.out.mono (by omega)))⟩
end Go.Proofs.Ytpapblahnbeccaa
