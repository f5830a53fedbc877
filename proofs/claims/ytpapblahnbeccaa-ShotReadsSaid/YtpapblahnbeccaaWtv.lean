/-
  THE WRITER OF A SHOT: its state told by the list of faults so far; values. Conditions: lengths in the form's reach.
-/
import Derived.Test.YtpapblahnbeccaaWtr
namespace Go.Proofs.Ytpapblahnbeccaa
open Go.RowKit Go.Lib
attribute [local go_sem ↓] Go.wp_at_zero Go.wp_at_succ

/-- the writer's state: the faults L so far (its first is kept), the bytes O if there is none -/
structure Sta (w : World) (base B : Nat) (L : List Int) (O : List UInt8) (N : Nat) : Prop where
  ok : ∀ x ∈ L, x ≠ 0
  box : ∃ v l, WBox w base B v l (firstF L) ∧ (firstF L = 0 → l = O) ∧ l.length ≤ N
theorem Sta.below {w w' : World} {base B : Nat} {L : List Int} {O : List UInt8} {N : Nat} (h : Sta w base B L O N) (hb : Below w.heap.size w w') : Sta w' base B L O N := by
  obtain ⟨h1, v, l, h2, h3, h4⟩ := h
  exact ⟨h1, v, l, h2.below hb, h3, h4⟩
theorem Sta.base {w : World} {base B : Nat} {L : List Int} {O : List UInt8} {N : Nat} (h : Sta w base B L O N) : base ≤ w.heap.size := by
  obtain ⟨_, _, _, h2, _⟩ := h
  exact h2.base
theorem Sta.congr {w : World} {base B : Nat} {L L' : List Int} {O O' : List UInt8} {N N' : Nat} (h : Sta w base B L O N) (hf : firstF L = firstF L') (hk : ∀ x ∈ L', x ≠ 0) (ho : firstF L = 0 → O = O') (hn : N ≤ N') : Sta w base B L' O' N' := by
  obtain ⟨_, v, l, h2, h3, h4⟩ := h
  exact ⟨hk, v, l, by rw [← hf]; exact h2, fun h => (h3 (hf.trans h)).trans (ho (hf.trans h)), by omega⟩
/-- the cell of the first fault -/
theorem Sta.cell {w : World} {base B : Nat} {L : List Int} {O : List UInt8} {N : Nat} (h : Sta w base B L O N) : w.cell? ⟨B, 1, none⟩ = some (.int .i64 (firstF L)) := by
  obtain ⟨_, v, l, h2, _⟩ := h
  exact h2.blk.cell rfl
def SPost (base B : Nat) (w : World) (L : List Int) (O : List UInt8) (N : Nat) (e : Ending) (w' : World) : Prop := e = .returned (.tuple #[]) ∧ Sta w' base B L O N ∧ Below base w w' ∧ Keep B w w'

theorem sfail (w : World) (base B : Nat) (L : List Int) (O : List UInt8) (N : Nat) (is : Bool) (e : Int) (he : e ≠ 0) (h : Sta w base B L O N) :
    Calls Try.prog 172 #[.pointer (some ⟨B, 0, none⟩), .bool is, .int .i64 e] w (SPost base B w (L ++ flt is e) O N) := by
  obtain ⟨h1, v, l, h2, h3, h4⟩ := h
  refine (wfail_any w base B v l _ is e h2).mono ?_
  rintro r w' ⟨v', rfl, h5, h6, h7⟩
  rw [firstF_add h1] at h5
  refine ⟨rfl, ⟨app_ok h1 (flt_ok he), v', l, h5, fun h => h3 ?_, h4⟩, h6, h7⟩
  cases L with
  | nil => rfl
  | cons x r => exact h
theorem enc_app {L M : List Int} {l O : List UInt8} (h3 : firstF L = 0 → l = O) (m : List UInt8) : firstF (L ++ M) = 0 → l ++ m = O ++ m := by
  intro h
  cases L with
  | nil => rw [h3 rfl]
  | cons x r => rw [h3 h]
theorem scount (w : World) (base B : Nat) (L : List Int) (O : List UInt8) (N : Nat) (n most : Int) (h : Sta w base B L O N) (hN : N ≤ 70368744177664) :
    Calls Try.prog 173 #[.pointer (some ⟨B, 0, none⟩), .int .i64 n, .int .i64 most] w (SPost base B w (L ++ flt (decide (most < n)) 2) (O ++ encN n) (N + 10)) := by
  obtain ⟨h1, v, l, h2, h3, h4⟩ := h
  refine (wcount_any w base B v l _ n most h2 (by omega)).mono ?_
  rintro r w' ⟨v', rfl, h5, h6, h7⟩
  rw [firstF_add h1] at h5
  refine ⟨rfl, ⟨app_ok h1 (flt_ok (by decide)), v', _, h5, enc_app h3 _, ?_⟩, h6, h7⟩
  have := encU_len 9 (u64of n)
  unfold encN
  rw [List.length_append]; omega
theorem splain (w : World) (base B : Nat) (L : List Int) (O : List UInt8) (N : Nat) (n : Int) (h : Sta w base B L O N) (hN : N ≤ 70368744177664) :
    Calls Try.prog 176 #[.pointer (some ⟨B, 0, none⟩), .int .i64 n] w (SPost base B w (L ++ flt (idxBad n) 1) (O ++ encN n) (N + 10)) := by
  obtain ⟨h1, v, l, h2, h3, h4⟩ := h
  refine (wplain_any w base B v l _ n h2 (by omega)).mono ?_
  rintro r w' ⟨v', rfl, h5, h6, h7⟩
  rw [firstF_add h1] at h5
  refine ⟨rfl, ⟨app_ok h1 (flt_ok (by decide)), v', _, h5, enc_app h3 _, ?_⟩, h6, h7⟩
  have := encU_len 9 (u64of n)
  unfold encN
  rw [List.length_append]; omega
theorem ssigned (w : World) (base B : Nat) (L : List Int) (O : List UInt8) (N : Nat) (n : Int) (h : Sta w base B L O N) (hr : -9223372036854775808 ≤ n ∧ n ≤ 9223372036854775807) (hN : N ≤ 70368744177664) :
    Calls Try.prog 174 #[.pointer (some ⟨B, 0, none⟩), .int .i64 n] w (SPost base B w L (O ++ encS 9 n) (N + 10)) := by
  obtain ⟨h1, v, l, h2, h3, h4⟩ := h
  refine (wsigned_any w base B v l _ n h2 hr.1 (by omega) (by omega)).mono ?_
  rintro r w' ⟨v', rfl, h5, h6, h7⟩
  refine ⟨rfl, ⟨h1, v', _, h5, fun h => by rw [h3 h], ?_⟩, h6, h7⟩
  have := encS_length 9 n
  rw [List.length_append]; omega

def valF (zs : List Int) (most : Int) : List Int := flt (decide (most < (zs.length : Int))) 2
set_option maxRecDepth 100000 in
set_option maxHeartbeats 2000000 in
theorem svalues (w : World) (base B : Nat) (L : List Int) (O : List UInt8) (N : Nat) (vs : Value) (zs : List Int) (most : Int) (h : Sta w base B L O N) (hz : IntsB w base vs zs) (hr : ∀ z ∈ zs, -9223372036854775808 ≤ z ∧ z ≤ 9223372036854775807)
    (hN : N + 10 + 10 * zs.length ≤ 70368744177664) :
    Calls Try.prog 175 #[.pointer (some ⟨B, 0, none⟩), vs, .int .i64 most] w (SPost base B w (L ++ valF zs most) (O ++ valO zs) (N + 10 + 10 * zs.length)) := by
  have hc := scount w base B L O N zs.length most h (by omega)
  have HC := hid hc
  have HZ := hid hz
  have HR := hid hr
  have hbs := h.base
  obtain ⟨ao, cap, hv, _⟩ := id (HZ.out w (Below.refl _ _))
  subst hv
  unfold valF valO
  generalize flt (decide (most < (zs.length : Int))) 2 = M at *
  clear hc h hz hr
  go_enter Try.func175, Try.ntmps175
  go_wp2_with fail
  refine HC.out.mono ?_
  rintro e w1 ⟨rfl, hS, hb1, hk1⟩
  have HS := hid hS
  have HB1 := hid hb1
  have HK1 := hid hk1
  have q1 := hS.cell
  clear hS hb1 hk1
  by_cases h0 : firstF (L ++ M) = 0
  · have HO := hid h0
    rw [h0] at q1
    clear h0
    go_wp2_with fail
    go_loopw [20] (fun i wr => ∃ k : Nat, k ≤ zs.length ∧ i = .int .i64 k ∧ Hid (Sta wr base B (L ++ M) (O ++ encN zs.length ++ (zs.take k).flatMap (encS 9)) (N + 10 + 10 * k)) ∧ Below base w wr ∧ Hid (Keep B w wr)) (fun i _ => zs.length - (intOf i).toNat)
    case atStart => exact ⟨0, Nat.zero_le _, rfl, by simpa [Hid] using HS.out, HB1.out, HK1⟩
    case round =>
      obtain ⟨k, hk, rfl, hT, hbel, hkp⟩ := hrel
      by_cases hlt : k < zs.length
      · rcases (HZ.out wr hbel).open with ⟨_, _, _, e, _⟩ | ⟨lb, lo, cap', hv, _, hcap, hcap2, hcl⟩
        · rw [e] at hlt; simp at hlt
        simp only [Value.slice.injEq, true_and] at hv
        obtain ⟨rfl, rfl⟩ := hv
        have c0 := hcl k hlt
        have hsg := ssigned wr base B _ _ _ zs[k] hT.out (HR.out _ (List.getElem_mem hlt)) (by omega)
        have hst : O ++ encN zs.length ++ (zs.take k).flatMap (encS 9) ++ encS 9 zs[k] = O ++ encN zs.length ++ (zs.take (k + 1)).flatMap (encS 9) := by
          rw [List.take_succ_eq_append_getElem hlt, List.flatMap_append, List.append_assoc _ _ (encS 9 zs[k])]
          simp
        rw [hst] at hsg
        have HSG := hid hsg
        clear hcl hsg hst
        go_wp2_with fail
        refine HSG.out.mono ?_
        rintro e w2 ⟨rfl, hS2, hb2, hk2⟩
        have HS2 := hid hS2
        have HK2 := hid hk2
        clear hS2 hk2
        go_wp2_with fail
        go_roundw
        case rel => exact ⟨k + 1, by omega, by go_num, HS2, hbel.trans hb2, hid (hkp.out.trans HK2.out)⟩
        case measure => simp [intOf]; omega
      · obtain rfl : k = zs.length := by omega
        go_wp2_with fail
        go_end0
        have := hT.out
        rw [List.take_length, List.append_assoc] at this
        exact ⟨rfl, this, hbel, hkp.out⟩
  · have h0' : (firstF (L ++ M) != 0) = true := by simpa using h0
    have HO := hid h0
    generalize hf : firstF (L ++ M) = ff at *
    clear h0
    go_wp2_with fail
    go_end0
    exact ⟨rfl, HS.out.congr rfl HS.out.ok (fun h => absurd (hf.symm.trans h) HO.out) (by omega), HB1.out, HK1.out⟩
end Go.Proofs.Ytpapblahnbeccaa
