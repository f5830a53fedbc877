/-
  MEMORIES, the reference's: Store, and Load where it goes wrong. Conditions: the object's own invariant; the variable of the library that strings.Contains reads holds some number.
-/
import Derived.Test.YtdiiefhklcchmaaMrM
import Derived.Test.YtdiiefhklcchmaaMrE
import Derived.Test.YtdiiefhklcchmaaMeT
namespace Go.Proofs.Ytdiiefhklcchmaa
open Go.RowKit Go.Lib
attribute [local go_sem ↓] Go.wp_at_zero Go.wp_at_succ

theorem stB_next (x : Int) : ∀ (i : Nat) (m : List Int) (a : Nat) (y : Int), y = x → stB (i + 1) m a y = (stB i m a y).set (a + i) (y / 2 ^ (8 * i) % 256) := by
  intro i
  induction i generalizing x with
  | zero => intro m a y _; show m.set a (y % 256) = m.set (a + 0) (y / 2 ^ (8 * 0) % 256); rw [Nat.add_zero, Nat.mul_zero, Int.pow_zero, Int.ediv_one]
  | succ i ih =>
    intro m a y _
    rw [stB, ih (y / 256) (m.set a (y % 256)) (a + 1) (y / 256) rfl, stB, show a + 1 + i = a + (i + 1) by omega]
    congr 2
    rw [show 8 * (i + 1) = 8 + 8 * i by omega, Int.pow_add, show (2 : Int) ^ 8 = 256 by decide, Int.ediv_ediv_of_nonneg (by decide)]
set_option maxRecDepth 100000 in
set_option maxHeartbeats 8000000 in
theorem rstore_good (w : World) (base B g cap : Nat) (most : Int) (m : List Int) (op : Nat) (bs off x : Int) (a wd : Nat) (hop : 54 ≤ op ∧ op < 256) (hw : tW op = wd) (hwd : 1 ≤ wd ∧ wd ≤ 8) (hlen : m.length ≤ 2048) (hoff : 0 ≤ off ∧ off ≤ 4294967295) (hx : -9223372036854775808 ≤ x ∧ x ≤ 9223372036854775807) (ha : bs % 4294967296 + off = a) (hin : a + wd ≤ m.length) (hM : MaxL w) (h : MR w base B g cap most m) :
    Calls Try.prog 16 #[.pointer (some ⟨B, 0, none⟩), .int .u8 op, .int .i64 bs, .int .i64 off, .int .i64 x] w fun e w' => e = .returned (.int .i64 0) ∧ MR w' base B g cap most (stB wd m a x) ∧ Touch (footR B g) w w' := by
  have HPL := hid (rplace_good w base B g cap most m op true bs off a wd hop.2 (by rw [decide_eq_true (by omega)]) hw hwd hlen hoff ha hin hM h)
  have H := hid h
  obtain ⟨hw1, hw8⟩ := hwd
  obtain ⟨hx0, hx1⟩ := hx
  have HL := hid (And.intro hlen hin)
  have HST := hid (fun i => stB_next x i m a x rfl)
  have HSL := hid (fun i => stB_len i m a x)
  have ha8 : a ≤ 2048 := by omega
  clear h hw hlen ha hin hM hoff hop
  go_enter Try.func16, Try.ntmps16
  go_wp2_with fail
  refine HPL.out.mono ?_
  rintro e w1 ⟨rfl, hb1⟩
  have T1 := hid (show Touch (footR B g) w w1 from Touch.of_below hb1)
  have H1 := hid (H.out.below hb1)
  clear hb1
  go_wp2_with fail
  go_loopw [25] (fun i wr => ∃ k : Nat, k ≤ wd ∧ i = .int .i64 k ∧ Hid (MR wr base B g cap most (stB k m a x)) ∧ Hid (Touch (footR B g) w wr)) (fun i _ => wd - (RowKit.intOf i).toNat)
  case atStart => exact ⟨0, Nat.zero_le _, rfl, H1, T1⟩
  case round =>
    obtain ⟨k, hk, rfl, MM, TT⟩ := hrel
    by_cases hlt : k < wd
    · have HQ := hid (HST.out k)
      obtain ⟨j, hj⟩ : ∃ j, a + k = j := ⟨_, rfl⟩
      have hj2 : (a : Int) + (k : Int) = (j : Int) := by omega
      rw [hj] at HQ
      have hlM : (stB k m a x).length = m.length := HSL.out k
      have hjl : j < m.length := by have := HL.out; omega
      have hcap : m.length ≤ cap := by have := MM.out.own.le; omega
      have c0 : wr.cell? ⟨B, 0, none⟩ = some (.slice (some ⟨g, 0, none⟩) m.length cap) := (MM.out.blk.cell (i := 0) rfl).trans (by rw [hlM])
      have c0d : wr.drew.cell? ⟨B, 0, none⟩ = some (.slice (some ⟨g, 0, none⟩) m.length cap) := c0
      have cj := MM.out.own.at j (by omega)
      have fj := MM.out.own.free j (by omega)
      obtain ⟨ov, cjd⟩ : ∃ ov, wr.drew.cell? ⟨g, j, none⟩ = some ov := ⟨_, cj⟩
      clear cj
      have fjd : wr.drew.frozen? ⟨g, j, none⟩ = false := fj
      have hM8 : (m.length : Int) ≤ 2048 := by have := HL.out.1; omega
      obtain ⟨s8, hs8⟩ : ∃ s8, 8 * k = s8 := ⟨_, rfl⟩
      have hs2 : (8 : Int) * (k : Int) = (s8 : Int) := by omega
      have hs64 : s8 < 64 := by omega
      rw [hs8] at HQ
      clear hlM
      generalize m.length = L at *
      have hjL : (j : Int) < (L : Int) := by omega
      have hjw : IntKind.i64.wrap (j : Int) = (j : Int) := IntWalk.i64_in _ (by omega)
      have hsw : IntKind.i64.wrap (s8 : Int) = (s8 : Int) := IntWalk.i64_in _ (by omega)
      have hlt2 : (k : Int) < (wd : Int) := by omega
      clear hj fj c0 hs8
      go_wp2_with fail
      go_region_law (fail)
      all_goals
        go_wp2_with fail
        go_roundw
        case rel => exact ⟨k + 1, by omega, by go_num, hid (by rw [HQ.out]; exact MM.out.part.drew1.holds.put j _), hid (TT.out.drew1.put (a := ⟨g, j, none⟩) (.inr rfl) _)⟩
        case measure => simp [RowKit.intOf]; omega
    · obtain rfl : k = wd := by omega
      go_wp2_with fail
      go_ret
      exact ⟨rfl, MM.out, TT.out⟩
set_option maxRecDepth 100000 in
set_option maxHeartbeats 4000000 in
theorem rload_bad (w : World) (base B g cap p : Nat) (most : Int) (m : List Int) (op : Nat) (bs off : Int) (hop : op < 256) (hlen : m.length = p * 256) (hp : p ≤ 8) (he : ldE (decide (54 ≤ op)) (tW op) bs off p ≠ 0) (hM : MaxL w) (h : MR w base B g cap most m) :
    Calls Try.prog 14 #[.pointer (some ⟨B, 0, none⟩), .int .u8 op, .int .i64 bs, .int .i64 off] w fun e w' => e = .returned (.tuple #[.int .i64 0, .int .i64 (ldE (decide (54 ≤ op)) (tW op) bs off p)]) ∧ Below w.heap.size w w' := by
  have hb : (false != decide (53 < op)) = decide (54 ≤ op) := by
    by_cases g : 53 < op
    · rw [decide_eq_true g, decide_eq_true (show 54 ≤ op by omega)]; rfl
    · rw [decide_eq_false g, decide_eq_false (show ¬ 54 ≤ op by omega)]; rfl
  have HPL := rplace_bad w base B g cap p most m op false bs off hop hlen hp (by rw [hb]; exact he) hM h
  rw [hb] at HPL
  have HPL := hid HPL
  generalize ldE (decide (54 ≤ op)) (tW op) bs off p = E at *
  have hE : (E != 0) = true := by simpa using he
  clear h hlen hM he hb
  go_enter Try.func14, Try.ntmps14
  go_wp2_with fail
  refine HPL.out.mono ?_
  rintro e w1 ⟨rfl, hb1⟩
  go_wp2_with fail
  go_ret2
  exact ⟨rfl, hb1⟩
set_option maxRecDepth 100000 in
set_option maxHeartbeats 4000000 in
theorem rstore_bad (w : World) (base B g cap p : Nat) (most : Int) (m : List Int) (op : Nat) (bs off x : Int) (hop : op < 256) (hlen : m.length = p * 256) (hp : p ≤ 8) (he : ldE (decide (op < 54)) (tW op) bs off p ≠ 0) (hM : MaxL w) (h : MR w base B g cap most m) :
    Calls Try.prog 16 #[.pointer (some ⟨B, 0, none⟩), .int .u8 op, .int .i64 bs, .int .i64 off, .int .i64 x] w fun e w' => e = .returned (.int .i64 (ldE (decide (op < 54)) (tW op) bs off p)) ∧ Below w.heap.size w w' := by
  have hb : (true != decide (53 < op)) = decide (op < 54) := by
    by_cases g : 53 < op
    · rw [decide_eq_true g, decide_eq_false (show ¬ op < 54 by omega)]; rfl
    · rw [decide_eq_false g, decide_eq_true (show op < 54 by omega)]; rfl
  have HPL := rplace_bad w base B g cap p most m op true bs off hop hlen hp (by rw [hb]; exact he) hM h
  rw [hb] at HPL
  have HPL := hid HPL
  generalize ldE (decide (op < 54)) (tW op) bs off p = E at *
  clear h hlen hM he hb
  go_enter Try.func16, Try.ntmps16
  go_wp2_with fail
  refine HPL.out.mono ?_
  rintro e w1 ⟨rfl, hb1⟩
  have B1 := hid hb1
  clear hb1
  go_wp2_with fail
  go_loopw [25] (fun i wr => i = .int .i64 0 ∧ Hid (Below w.heap.size w wr)) (fun i _ => 0)
  case atStart => exact ⟨rfl, B1⟩
  case round =>
    obtain ⟨rfl, HB⟩ := hrel
    go_wp2_with fail
    go_ret
    exact ⟨rfl, HB.out⟩
end Go.Proofs.Ytdiiefhklcchmaa
