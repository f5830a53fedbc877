/-
  MEMORIES, the reference's: Put. Conditions: the object's own invariant.
-/
import Derived.Test.YtdiiefhklcchmaaMrD
namespace Go.Proofs.Ytdiiefhklcchmaa
open Go.RowKit Go.Lib
attribute [local go_sem ↓] Go.wp_at_zero Go.wp_at_succ

theorem MR.put {w : World} {base B g cap : Nat} {most : Int} {m : List Int} (h : MR w base B g cap most m) (k : Nat) (x : Int) : MR (w.setCell ⟨g, k, none⟩ (.int .u8 x)) base B g cap most (m.set k x) :=
  ⟨by rw [List.length_set]; exact h.blk.other (a := ⟨g, k, none⟩) h.ne _, h.own.put k x, h.ne, h.le⟩
theorem putL_step (m : List Int) (a : Nat) (l : List UInt8) (i : Nat) (hi : i < l.length) : putL m a (l.take (i + 1)) = (putL m a (l.take i)).set (a + i) (l[i].toNat : Int) := by
  rw [List.take_succ_eq_append_getElem hi, putL_app, List.length_take, Nat.min_eq_left (Nat.le_of_lt hi)]
  rfl
set_option maxRecDepth 100000 in
set_option maxHeartbeats 4000000 in
theorem rput_good (w : World) (base B g cap : Nat) (most : Int) (m : List Int) (a : Nat) (l : List UInt8) (hlen : m.length ≤ 2048) (hin : a + l.length ≤ m.length) (hm : ∀ x ∈ m, 0 ≤ x ∧ x ≤ 255) (h : MR w base B g cap most m) :
    Calls Try.prog 22 #[.pointer (some ⟨B, 0, none⟩), .int .i64 a, .string (S l)] w fun e w' => e = .returned (.int .i64 0) ∧ MR w' base B g cap most (putL m a l) ∧ Touch (footR B g) w w' := by
  have HB := hid (rbytes_good w base B g cap most m a l.length hlen hin hm h)
  have H := hid h
  have HLE := hid (And.intro hlen hin)
  have hsz : (S l).size = l.length := S_size l
  have hl8 : (l.length : Int) ≤ 2048 := by omega
  have ha8 : (a : Int) ≤ 2048 := by omega
  have HIX := hid (fun i (hi : i < (S l).size) => show putL m a (l.take (i + 1)) = (putL m a (l.take i)).set (a + i) ((S l)[i].toNat : Int) from putL_step m a l i (by rw [S_size] at hi; exact hi))
  have HPL := hid (fun i => putL_len (l.take i) m a)
  have H0 := hid (show putL m a (l.take 0) = m from rfl)
  have HE := hid (show putL m a (l.take l.length) = putL m a l from by rw [List.take_length])
  obtain ⟨n, hn⟩ : ∃ n, l.length = n := ⟨_, rfl⟩
  rw [hn] at HB HLE hsz hl8 HE
  clear hn h hlen hin hm
  generalize S l = s at *
  go_enter Try.func22, Try.ntmps22
  go_wp2_with fail
  refine HB.out.mono ?_
  rintro e w1 ⟨⟨sb, rfl, -⟩, rfl⟩
  go_wp2_with fail
  go_loopw [23] (fun iv wr => ∃ k : Nat, k ≤ n ∧ iv = .int .i64 k ∧ Hid (MR wr base B g cap most (putL m a (l.take k))) ∧ Hid (Touch (footR B g) w wr)) (fun iv _ => n - (intOf iv).toNat)
  case atStart => exact ⟨0, Nat.zero_le _, rfl, hid (by rw [H0.out]; exact H.out), hid (Touch.refl _ _)⟩
  case round =>
    obtain ⟨k, hk, rfl, MM, TT⟩ := hrel
    by_cases hlt : k < n
    · have hlt2 : (k : Int) < (n : Int) := by omega
      have hks : k < s.size := by omega
      have HQ := hid (HIX.out k hks)
      obtain ⟨j, hj⟩ : ∃ j, a + k = j := ⟨_, rfl⟩
      have hj2 : (a : Int) + (k : Int) = (j : Int) := by omega
      rw [hj] at HQ
      have hlM : (putL m a (l.take k)).length = m.length := HPL.out k
      have hjl : j < m.length := by have := HLE.out; omega
      have hcap : m.length ≤ cap := by have := MM.out.own.le; omega
      have c0 : wr.cell? ⟨B, 0, none⟩ = some (.slice (some ⟨g, 0, none⟩) m.length cap) := (MM.out.blk.cell (i := 0) rfl).trans (by rw [hlM])
      have c0d : wr.drew.cell? ⟨B, 0, none⟩ = some (.slice (some ⟨g, 0, none⟩) m.length cap) := c0
      have cj := MM.out.own.at j (by omega)
      have fj := MM.out.own.free j (by omega)
      obtain ⟨ov, cjd⟩ : ∃ ov, wr.drew.cell? ⟨g, j, none⟩ = some ov := ⟨_, cj⟩
      clear cj
      have fjd : wr.drew.frozen? ⟨g, j, none⟩ = false := fj
      have hM8 : (m.length : Int) ≤ 2048 := by have := HLE.out.1; omega
      clear hlM
      generalize m.length = L at *
      have hjL : (j : Int) < (L : Int) := by omega
      have hjw : IntKind.i64.wrap (j : Int) = (j : Int) := IntWalk.i64_in _ (by omega)
      clear hj fj c0
      go_wp2_with fail
      go_region_law (fail)
      all_goals
        go_wp2_with fail
        go_roundw
        case rel => exact ⟨k + 1, by omega, by go_num, hid (by rw [HQ.out]; exact MM.out.part.drew1.holds.put j _), hid (TT.out.drew1.put (a := ⟨g, j, none⟩) (.inr rfl) _)⟩
        case measure => simp [RowKit.intOf]; omega
    · obtain rfl : k = n := by omega
      go_wp2_with fail
      go_ret
      rw [← HE.out]
      exact ⟨rfl, MM.out, TT.out⟩
set_option maxRecDepth 100000 in
set_option maxHeartbeats 4000000 in
theorem rput_bad (w : World) (base B g cap : Nat) (most : Int) (m : List Int) (a : Int) (s : ByteArray) (hlen : m.length ≤ 2048) (hbad : a < 0 ∨ (m.length : Int) < a ∨ (m.length : Int) - a < s.size) (h : MR w base B g cap most m) :
    Calls Try.prog 22 #[.pointer (some ⟨B, 0, none⟩), .int .i64 a, .string s] w fun e w' => e = .returned (.int .i64 23) ∧ w = w' := by
  have HB := hid (rbytes_bad w base B g cap most m a s.size hlen (by omega) h)
  clear hbad h hlen
  go_enter Try.func22, Try.ntmps22
  go_wp2_with fail
  refine HB.out.mono ?_
  rintro e w1 ⟨rfl, rfl⟩
  go_wp2_with fail
  go_ret
  exact ⟨rfl, rfl⟩
end Go.Proofs.Ytdiiefhklcchmaa
