/-
  MEMORIES, the program's: Bytes. Conditions: the object's own invariant. 
-/
import Derived.Test.YtdiiefhklcchmaaMeT
import Derived.Test.YtdiiefhklcchmaaStrs
import Derived.Test.YtdiiefhklcchmaaBytes
import Derived.Laws.MakeOwn
namespace Go.Proofs.Ytdiiefhklcchmaa
open Go.RowKit Go.Lib
attribute [local go_sem ↓] Go.wp_at_zero Go.wp_at_succ

theorem elem_u8m : Elem Try.prog 34 5 (.int .u8 0) 1 1 := ⟨Try.underlying34, by kernel_rfl, rfl, by decide⟩
theorem nums_back (xs : List Int) (h : ∀ x ∈ xs, 0 ≤ x ∧ x ≤ 255) : nums (S (xs.map fun n => UInt8.ofNat n.toNat)) = xs := by
  unfold nums
  rw [S_data, List.map_map]
  conv => rhs; rw [← List.map_id xs]
  refine List.map_congr_left (fun x hx => ?_)
  have := h x hx
  show (((UInt8.ofNat x.toNat).toNat : Nat) : Int) = x
  rw [UInt8.toNat_ofNat']
  omega
theorem take_more (m : List Int) (a d L : Nat) : (m.drop a).take d ++ (m.drop (a + d)).take L = (m.drop a).take (d + L) := by
  rw [List.take_add, List.drop_drop]
set_option maxRecDepth 100000 in
/-- p[r:] of a page -/
theorem run_page (w : World) (g off r : Nat) (hr : r < 256) : (Instr.sliceAt 60 (.pointer (some ⟨g, off, none⟩)) (some (.int .i64 (r : Int))) none none).run Try.prog w = .ok (.slice (some ⟨g, off + r, none⟩) (256 - r) (256 - r)) w := by
  have hal : Try.prog.arrayLen 60 = 256 := by kernel_rfl
  have hu : Try.prog.underlying 60 = some (.array (Try.prog.arrayLen 60) (Try.prog.elem 60)) := by kernel_rfl
  have hs : (sizeOf (Try.prog.elem 60)).run Try.prog w = .ok 1 w := by kernel_rfl
  rw [run_sliceAt_array_l (P := Try.prog) w 60 ⟨g, off, none⟩ hu .i64 (r : Int) (by omega) (by rw [hal]; omega), hs, hal]
  have hadd : (⟨g, off, none⟩ : Addr).add r = ⟨g, off + r, none⟩ := by unfold Addr.add; split <;> simp_all
  have hne : ¬ (256 = r) := by omega
  simp [slicedAt, Result.andThen, hne, hadd]
set_option maxRecDepth 100000 in
set_option maxHeartbeats 4000000 in
theorem mbytes_good (w : World) (base B p : Nat) (v : Value) (most : Int) (m : List Int) (a n : Nat) (hp : p ≤ 8) (hin : a + n ≤ p * 256) (hm : ∀ x ∈ m, 0 ≤ x ∧ x ≤ 255) (h : MP w base B v p most m) :
    Calls Try.prog 19 #[.pointer (some ⟨B, 0, none⟩), .int .i64 a, .int .i64 n] w fun e w' => (∃ s : ByteArray, e = .returned (.tuple #[.string s, .int .i64 0]) ∧ nums s = (m.drop a).take n) ∧ Below w.heap.size w w' := by
  have H := hid h
  have HLEN := hid h.len
  obtain ⟨ao, cap, rfl, -⟩ := own_sl h.own
  have c0 := h.blk.cell (i := 0) rfl
  have hp2 : (p : Int) ≤ 8 := by omega
  have hin2 : (a : Int) + (n : Int) ≤ (p : Int) * 256 := by omega
  have HP := hid hin
  obtain ⟨i0, hi0, hz0, hz1, hzb⟩ := info_parts (show (Try.prog.info? 5).map (fun i => (i.zero, i.size, i.bytes)) = some (some (.int .u8 0), 1, 1) from by kernel_rfl)
  obtain ⟨w2, hmk, hmo, hmg⟩ := run_make_own w w.heap.size 34 5 i0 (.int .u8 0) 1 Try.underlying34 hi0 hz0 hz1 .i64 .i64 n (by rw [hzb]; omega) (by unfold maxLen; omega) (Nat.le_refl _)
  have HMO := hid hmo
  have HB2 := hid (show Below w.heap.size w w2 from (Below.refl _ _).grown hmg (Nat.le_refl _) (fun k hk => by cases hk))
  clear h hin hi0 hz0 hz1 hzb hmo hmg
  go_enter Try.func19, Try.ntmps19
  go_wp2_with fail
  go_loopw [1, 2, 9, 10] (fun av nv ov _ wr => ∃ d : Nat, d ≤ n ∧ av = .int .i64 ((a : Int) + d) ∧ nv = .int .i64 ((n : Int) - d) ∧ Hid (wr.ownsRow w.heap.size 5 1 ov d (((m.drop a).take d).map (Value.int .u8))) ∧ Hid (Below w.heap.size w wr)) (fun _ nv _ _ _ => (intOf nv).toNat)
  case atStart => exact ⟨0, Nat.zero_le _, by simp, by simp, hid (by simpa using HMO.out), HB2⟩
  case round =>
    obtain ⟨d, hd, rfl, rfl, OO, BB⟩ := hrel
    obtain ⟨ao2, co2, rfl, -⟩ := own_sl OO.out
    by_cases hlt : d < n
    · obtain ⟨g, cap2, hv, hc1, hc2, hc, _, _⟩ := (H.out.below BB.out).at (by have := HP.out; omega)
      simp only [Value.slice.injEq] at hv
      obtain ⟨rfl, -, rfl⟩ := hv
      have c1 := (H.out.below BB.out).blk.cell (i := 0) rfl
      obtain ⟨k0, hk0⟩ : ∃ k0, a + d = k0 := ⟨_, rfl⟩
      have hki : (a : Int) + (d : Int) = (k0 : Int) := by omega
      have hq : (k0 : Int).tdiv 256 = ((k0 / 256 : Nat) : Int) := by rw [Int.tdiv_eq_ediv_of_nonneg (by omega)]; omega
      have hr : (k0 : Int).tmod 256 = ((k0 % 256 : Nat) : Int) := by rw [Int.tmod_eq_emod_of_nonneg (by omega)]; omega
      have hqr : k0 / 256 * 256 + k0 % 256 = k0 := by omega
      have hq9 : (k0 / 256 : Nat) < p := by have := HP.out; omega
      have hr9 : k0 % 256 < 256 := by omega
      have hpg := run_page wr g (k0 / 256 * 256) (k0 % 256) hr9
      rw [hqr] at hpg
      obtain ⟨e, he⟩ : ∃ e, 256 - k0 % 256 = e := ⟨_, rfl⟩
      rw [he, show ((k0 % 256 : Nat) : Int) = (k0 : Int) % 256 from by omega] at hpg
      have he1 : 0 < e ∧ e ≤ 256 := by omega
      have hke : k0 + e ≤ p * 256 := by omega
      have HSL := hid (fun (L c : Nat) (h1 : L ≤ c) (h2 : c ≤ 256) (h3 : k0 + L ≤ p * 256) => (show Sl wr (.slice (some ⟨g, k0, none⟩) L c) L (((m.drop k0).take L).map (Value.int .u8)) from
        ⟨_, _, rfl, h1, by omega, (fun e => by cases e), .inr ⟨g, k0, rfl, fun j hj => by
          have hj2 : j < L := by simp at hj; omega
          have hjl : k0 + j < m.length := by rw [HLEN.out]; omega
          rw [hc (k0 + j) hjl]
          simp⟩⟩))
      have HPP := HP.out
      clear hc
      by_cases hl : (n : Int) - (d : Int) < (e : Int)
      · go_wp2_with (at_builtin; go_must (refine app_any elem_u8m (base := w.heap.size) (n := d) (m := n - d) (news := ((m.drop k0).take (n - d)).map (Value.int .u8)) rfl _ _ rfl rfl rfl OO.out (HSL.out (n - d) e (by omega) (by omega) (by omega)) (by have := HLEN.out; simp; omega) (by intro c hc; obtain ⟨x, _, rfl⟩ := List.mem_map.1 hc; rfl) (by omega) (by omega) BB.out.size ?_); intro v' w5 ho hb hg; have O5 := hid ho; have B5 := hid (BB.out.trans hb); obtain ⟨a5, k5, rfl, -⟩ := own_sl ho; clear ho hb hg)
        go_roundw
        case rel => exact ⟨d + (n - d), by omega, by congr 1; omega, by congr 1; omega, hid (by have := O5.out; have e9 : d + (n - d) = n := (by omega); rw [← List.map_append, ← hk0, take_more m a d (n - d), e9] at this; rw [e9]; exact this), B5⟩
        case measure => simp [RowKit.intOf]; omega
      · go_wp2_with (at_builtin; go_must (refine app_any elem_u8m (base := w.heap.size) (n := d) (m := e) (news := ((m.drop k0).take (e)).map (Value.int .u8)) rfl _ _ rfl rfl rfl OO.out (HSL.out (e) e (by omega) (by omega) (by omega)) (by have := HLEN.out; simp; omega) (by intro c hc; obtain ⟨x, _, rfl⟩ := List.mem_map.1 hc; rfl) (by omega) (by omega) BB.out.size ?_); intro v' w5 ho hb hg; have O5 := hid ho; have B5 := hid (BB.out.trans hb); obtain ⟨a5, k5, rfl, -⟩ := own_sl ho; clear ho hb hg)
        go_roundw
        case rel => exact ⟨d + (e), by omega, by congr 1; omega, by congr 1; omega, hid (by have := O5.out; rw [← List.map_append, ← hk0, take_more m a d (e)] at this; exact this), B5⟩
        case measure => simp [RowKit.intOf]; omega
    · obtain rfl : d = n := by omega
      have hcv := conv_bytes (xs := (m.drop a).take d) (w := wr) (v := .slice ao2 d co2) (by
        have h1 := own_sl OO.out
        have h2 : ((m.drop a).take d).length = d := by rw [List.length_take, List.length_drop, HLEN.out]; have := HP.out; omega
        show Sl wr _ ((m.drop a).take d).length _
        rw [h2]
        exact h1)
      have HN := hid (nums_back ((m.drop a).take d) (fun x hx => hm x (List.mem_of_mem_drop (List.mem_of_mem_take hx))))
      generalize S (((m.drop a).take d).map fun n => UInt8.ofNat n.toNat) = s at *
      go_wp2_with fail
      go_ret2
      exact ⟨⟨s, rfl, HN.out⟩, BB.out⟩
set_option maxRecDepth 100000 in
set_option maxHeartbeats 2000000 in
theorem mbytes_bad (w : World) (base B p : Nat) (v : Value) (most : Int) (m : List Int) (a n : Int) (hp : p ≤ 8) (hbad : a < 0 ∨ n < 0 ∨ (p : Int) * 256 < n ∨ (p : Int) * 256 - n < a) (h : MP w base B v p most m) :
    Calls Try.prog 19 #[.pointer (some ⟨B, 0, none⟩), .int .i64 a, .int .i64 n] w fun e w' => e = .returned (.tuple #[.string ⟨#[]⟩, .int .i64 23]) ∧ w = w' := by
  obtain ⟨ao, cap, rfl, -⟩ := own_sl h.own
  have c0 := h.blk.cell (i := 0) rfl
  have hp2 : (p : Int) ≤ 8 := by omega
  clear h
  rcases (show a < 0 ∨ (¬ a < 0 ∧ n < 0) ∨ (¬ a < 0 ∧ ¬ n < 0 ∧ (p : Int) * 256 < n) ∨ (¬ a < 0 ∧ ¬ n < 0 ∧ ¬ (p : Int) * 256 < n ∧ (p : Int) * 256 - n < a) from by omega) with g1 | ⟨g1, g2⟩ | ⟨g1, g2, g3⟩ | ⟨g1, g2, g3, g4⟩
  all_goals
    clear hbad
    go_enter Try.func19, Try.ntmps19
    go_wp2_with fail
    go_ret2
    exact ⟨rfl, rfl⟩
end Go.Proofs.Ytdiiefhklcchmaa
