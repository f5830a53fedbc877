/-
  THE LAW MemOfs: a memory made of bytes answers as the reference's does, for every sequence of calls. Condition: the variable of the library that strings.Contains reads holds some number (the world's shape gives it).
-/
import Derived.Test.YtdiiefhklcchmaaMsW
import Derived.Deep.RegionHeld3
namespace Go.Proofs.Ytdiiefhklcchmaa
open Go.RowKit Go.Lib
attribute [local go_sem ↓] Go.wp_at_zero Go.wp_at_succ

theorem putL_gen (xs : List UInt8) : ∀ (m : List Int) (k : Nat), k + xs.length ≤ m.length → putL m k xs = m.take k ++ (xs.map fun b => (b.toNat : Int)) ++ m.drop (k + xs.length) := by
  induction xs with
  | nil => intro m k _; simp [putL]
  | cons x r ih =>
    intro m k h
    rw [List.length_cons] at h
    rw [putL, ih (m.set k (x.toNat : Int)) (k + 1) (by rw [List.length_set]; omega)]
    have h1 : (m.set k (x.toNat : Int)).take (k + 1) = m.take k ++ [(x.toNat : Int)] := by
      rw [List.take_succ_eq_append_getElem (by rw [List.length_set]; omega), List.getElem_set_self, List.take_set_of_le (Nat.le_refl _)]
    have h2 : (m.set k (x.toNat : Int)).drop (k + 1 + r.length) = m.drop (k + (x :: r).length) := by
      rw [List.drop_set_of_lt (by omega), List.length_cons]
      congr 1
      omega
    rw [h1, h2]
    simp
theorem putL_zeros (s : ByteArray) (n : Nat) (h : s.data.toList.length = n) : putL (List.replicate n 0) 0 s.data.toList = nums s := by
  rw [putL_gen _ _ _ (by rw [List.length_replicate]; omega), List.take_zero, List.nil_append, List.drop_of_length_le (by rw [List.length_replicate]; omega), List.append_nil]
  rfl
theorem nums_byte (s : ByteArray) : ∀ x ∈ nums s, 0 ≤ x ∧ x ≤ 255 := by
  intro x hx
  obtain ⟨b, _, rfl⟩ := List.mem_map.1 hx
  have := b.toNat_lt
  omega
set_option maxRecDepth 100000 in
set_option maxHeartbeats 8000000 in
theorem law_MemOfs (v0 v1 v2 : Value) (x0 : ByteArray) (x1 : Int) (x2 : D_s_trouperef_MemStep) (W : World) (i0 : IsStr W v0 x0) (i1 : IsInt .i64 W v1 x1) (i2 : R_s_trouperef_MemStep W [v2] x2) (hM : MaxL W) :
    Calls Try.prog 4 #[v0, v1, v2] W fun e w' => e = .returned (.bool true) ∧ Below W.heap.size W w' := by
  obtain ⟨rfl, hs0⟩ := i0
  obtain ⟨rfl, _⟩ := i1
  obtain ⟨hl, hq, hb⟩ := slice_flat encMs _ ms_open i2
  by_cases hbad : x1 < 0 ∨ 8 < x1 ∨ (x0.size : Int) % 256 ≠ 0 ∨ x1 < (x0.size : Int) / 256
  · have HP := hid (mof_bad W x1 x0 (by omega) hbad)
    have HR := hid (rof_bad W x1 x0 (by omega) hbad)
    clear i2 hl hq hb hbad hs0
    go_enter Try.func4, Try.ntmps4
    go_wp2_with fail
    refine HP.out.mono ?_
    rintro e w1 ⟨rfl, rfl⟩
    go_wp2_with fail
    refine HR.out.mono ?_
    rintro e w2 ⟨rfl, rfl⟩
    go_wp2_with fail
    go_ret
    exact ⟨rfl, Below.refl _ _⟩
  · obtain ⟨p, hp⟩ : ∃ p, x0.size = p * 256 := ⟨x0.size / 256, by omega⟩
    have hl0 : x0.data.toList.length = p * 256 := by rw [← hp]; rfl
    have HP := mof_good W p x1 x0.data.toList hl0 (by omega) (by omega)
    rw [S_of, putL_zeros _ _ hl0] at HP
    have HP := hid HP
    have HR := hid (fun wx => rof_good wx p x1 x0 hp (by omega) (by omega))
    have HK0 := hid (show OkM p x1 (nums x0) from ⟨by omega, by omega, nums_byte x0⟩)
    clear hl0 hp hs0
    have HL := hid hl
    have HQ := hid hq
    have HM := hid hM
    have hlen : x2.length ≤ 9000000000000 := by omega
    obtain ⟨ao, cap, hvv, _⟩ := id HL.out
    clear i2 hl hq hb hbad hM
    go_enter Try.func4, Try.ntmps4
    go_wp2_with fail
    refine HP.out.mono ?_
    rintro e w1 ⟨⟨B1, v, rfl, hP1⟩, hb1⟩
    subst hvv
    have HP1 := hid hP1
    have HB1 := hid hb1
    clear hP1 hb1
    go_wp2_with fail
    refine (HR.out _).mono ?_
    rintro e w2 ⟨⟨B2, g, cp, rfl, hR2⟩, hb2⟩
    have HI := hid (inv_new HP1.out hb2 hR2 HK0.out HB1.out.size)
    have HB2 := hid (HB1.out.trans (hb2.mono HB1.out.size))
    clear hR2 hb2 HP1 HB1 HP HR
    go_wp2_with fail
    go_loopw [12, 41] (fun _ i wr => ∃ k : Nat, k ≤ x2.length ∧ i = .int .i64 k ∧ Hid (InvM wr W.heap.size B1 B2) ∧ Hid (Below W.heap.size W wr)) (fun _ i _ => x2.length - (RowKit.intOf i).toNat)
    case atStart => exact ⟨0, Nat.zero_le _, rfl, HI, HB2⟩
    case round =>
      obtain ⟨k, hk, rfl, hT, hbel⟩ := hrel
      by_cases hlt : k < x2.length
      · have hlk := Lk.below HL.out hbel.out
        rcases hlk.open encMs_len (by decide) with ⟨_, _, _, e, _⟩ | ⟨lb, lo, cap', hv, _, hcap, hcap2, hc⟩
        · rw [e] at hlt; simp at hlt
        simp only [Value.slice.injEq, true_and] at hv
        obtain ⟨rfl, rfl⟩ := hv
        have y0 := hc k hlt 0 (by decide); have y1 := hc k hlt 1 (by decide); have y2 := hc k hlt 2 (by decide); have y3 := hc k hlt 3 (by decide); have y4 := hc k hlt 4 (by decide); have y5 := hc k hlt 5 (by decide)
        have HYQ := hid (HQ.out x2[k] (List.getElem_mem hlt))
        clear hc hlk
        generalize x2[k] = y at *
        obtain ⟨kind, op, A, Bn, V, s, u2⟩ := y
        rw [show (encMs (kind, op, A, Bn, V, s, u2))[0]? = some (.int .i64 kind) from rfl, Nat.add_zero] at y0; rw [show (encMs (kind, op, A, Bn, V, s, u2))[1]? = some (.int .u8 op) from rfl] at y1; rw [show (encMs (kind, op, A, Bn, V, s, u2))[2]? = some (.int .i64 A) from rfl] at y2; rw [show (encMs (kind, op, A, Bn, V, s, u2))[3]? = some (.int .i64 Bn) from rfl] at y3; rw [show (encMs (kind, op, A, Bn, V, s, u2))[4]? = some (.int .i64 V) from rfl] at y4; rw [show (encMs (kind, op, A, Bn, V, s, u2))[5]? = some (.string s) from rfl] at y5
        have HST := hid (fun wx hb hI => mstep_any W wx B1 B2 kind op A Bn V s HM.out hb HYQ.out.1.1 HYQ.out.1.2 HYQ.out.2.1 HYQ.out.2.2 hI)
        have hsz := hbel.out.size
        go_wp2_with fail
        refine (HST.out _ (hbel.out.alloc hsz _) (hT.out.below ((Below.refl _ _).alloc (Nat.le_refl _) _))).mono ?_
        rintro e w9 ⟨rfl, hI, hb⟩
        have HI9 := hid hI
        have HB9 := hid hb
        clear hI hb
        go_wp2_with fail
        go_roundw
        case rel => exact ⟨k + 1, by omega, by go_num, HI9, HB9⟩
        case measure => simp [RowKit.intOf]; omega
      · obtain rfl : k = x2.length := by omega
        obtain ⟨v5, g5, cap5, p5, most5, m5, hD, hK⟩ := hT.out.ex
        have HDd := hid hD.drew1
        have HK := hid hK
        have HLM := hid hD.p.holds.len
        have HBL := hid hbel.out
        clear hD hK hT hbel
        have z0 := HDd.out.q.holds.blk.cell (i := 0) rfl
        have z1 := conv_m HDd.out.q.holds
        have HA6 := hid (fun wx h => mall_u wx W.heap.size B1 p5 v5 most5 m5 HK.out h)
        obtain ⟨R9, hR9⟩ : ∃ R9, byS m5 = R9 := ⟨_, rfl⟩
        rw [hR9] at z1 HA6
        have HR9 := hid hR9
        have hp8 : p5 ≤ 8 := HK.out.p8
        obtain ⟨L, hL⟩ : ∃ L, m5.length = L := ⟨_, rfl⟩
        rw [hL] at z0 z1
        have HL5 := hid hL
        have hLp : L = p5 * 256 := by rw [← hL]; exact HLM.out
        have hL8 : (L : Int) ≤ 2048 := by omega
        clear hL hLp hR9
        go_wp2_with fail
        go_region_held3 (fun w' => w'.cell? ⟨B2, 0, none⟩ = some (.slice (some ⟨g5, 0, none⟩) L cap5) ∧ (convert 34 9 (.slice (some ⟨g5, 0, none⟩) L cap5)).run Try.prog w' = .ok (.string R9) w') (first | exact ⟨z0, z1⟩ | exact ⟨y0, y1⟩)
          (first | (go_at_call 9; refine (HA6.out _ HDd.out.p.holds).mono ?_; rintro e w9 ⟨rfl, hp⟩; obtain ⟨v9, hd1, ht1⟩ := m_left HDd.out hp; have BB1 := hid (show Below W.heap.size W w9 from HBL.out.drew.trans (HDd.out.p.under ht1 (Nat.le_refl _))); have y0 := hd1.q.holds.blk.cell (i := 0) rfl; have y1 := conv_m hd1.q.holds; rw [HL5.out] at y0 y1; rw [HR9.out] at y1; clear hp hd1 ht1))
        all_goals
          go_wp2_with fail
          go_ret
          exact ⟨rfl, BB1.out⟩
end Go.Proofs.Ytdiiefhklcchmaa
