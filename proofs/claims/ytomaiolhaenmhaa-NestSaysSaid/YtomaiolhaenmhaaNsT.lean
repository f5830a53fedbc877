/-
  BODIES: the program's Write. No condition.
-/
import Derived.Test.YtomaiolhaenmhaaNsB
import Derived.Test.YtomaiolhaenmhaaInT
namespace Go.Proofs.Ytomaiolhaenmhaa
open Go.RowKit Go.Lib
attribute [local go_sem ↓] Go.wp_at_zero Go.wp_at_succ

/-- an instruction, written -/
def itW (x : It) : List UInt8 := wrI (tB x.op) x.op x.A x.B x.tos
/-- a body, written -/
def nwM (l : List It) : ByteArray := if ncM l = 0 then S (l.flatMap itW) else ⟨#[]⟩
theorem flat_bound (l : List It) (c n : Nat) (hl : l.length ≤ n) (h : ∀ x ∈ l, (itW x).length ≤ c) : (l.flatMap itW).length ≤ n * c := by
  induction l generalizing n with
  | nil => simp
  | cons x l ih =>
    simp only [List.length_cons] at hl
    have h1 := ih (n - 1) (by omega) (fun y hy => h y (List.mem_cons_of_mem _ hy))
    have h2 := h x List.mem_cons_self
    have h3 : n * c = (n - 1) * c + c := by
      obtain ⟨m, rfl⟩ : ∃ m, n = m + 1 := ⟨n - 1, by omega⟩
      rw [Nat.add_sub_cancel, Nat.succ_mul]
    rw [List.flatMap_cons, List.length_append, h3]
    omega
theorem encs_bound (xs : List Int) : (xs.flatMap (fun n => encU 9 n.toNat)).length ≤ xs.length * 10 := by
  induction xs with
  | nil => simp
  | cons x l ih =>
    have := encU_len 9 x.toNat
    rw [List.flatMap_cons, List.length_append, List.length_cons, Nat.succ_mul]
    omega
theorem itW_len (x : It) (h : itC x = 0) : (itW x).length ≤ 400 := by
  obtain ⟨_, h16, _⟩ := chk_ok h
  unfold itW wrI
  rw [List.length_cons]
  have a1 := encU_len 9 x.A.toNat
  have a2 := encU_len 9 x.B.toNat
  have a3 := encU_len 9 x.tos.length
  have a4 := encs_bound x.tos
  have a5 := encS_len 9 x.A
  have key : (wrB (tB x.op) x.A x.B x.tos).length ≤ 300 := by
    unfold wrB
    split
    all_goals try simp only [List.length_append, List.length_cons, List.length_nil]
    all_goals omega
  omega

set_option maxRecDepth 100000 in
set_option maxHeartbeats 4000000 in
theorem nwrite_any (w : World) (v : Value) (l : List It) (hok : ∀ x ∈ l, ItOk x) (h : BodS w v l) :
    Calls Try.prog 63 #[v] w fun e w' => e = .returned (.tuple #[.string (nwM l), .int .i64 (ncM l)]) ∧ Below w.heap.size w w' := by
  have HC := hid (ncheck_any w v l hok h)
  have H := hid h
  obtain ⟨css, _, ⟨ao, cap, rfl, _⟩, _⟩ := h
  unfold nwM
  by_cases hE : ncM l = 0
  · rw [if_pos hE, hE]
    rw [hE] at HC
    have h2 : l.length ≤ 200 ∧ chkR itC It.op l 0 ([(-1, 2)], false) = 0 := by
      have h := hE
      unfold ncM at h
      split at h
      · omega
      · exact ⟨by omega, h⟩
    obtain ⟨h200, hchk⟩ := h2
    have HZ := hid (chk_zero l 0 _ hchk)
    have HOK := hid hok
    have HFIN := hid (show S ((l.take l.length).flatMap itW) = S (l.flatMap itW) by rw [List.take_length])
    generalize S (l.flatMap itW) = fin at *
    skip
    clear hok hE hchk
    go_enter Try.func63, Try.ntmps63
    go_wp2_with fail
    refine HC.out.mono ?_
    rintro r w1 ⟨rfl, g1⟩
    have B1 := hid g1
    clear g1
    go_wp2_with fail
    go_loopw [17, 5] (fun i o wr => ∃ (k : Nat) (acc : ByteArray), k ≤ l.length ∧ i = .int .i64 k ∧ o = .string acc ∧ Hid (acc = S ((l.take k).flatMap itW)) ∧ Hid (Below w.heap.size w wr)) (fun i _ _ => l.length - (RowKit.intOf i).toNat)
    case atStart => exact ⟨0, ⟨#[]⟩, Nat.zero_le _, rfl, rfl, hid rfl, B1⟩
    case round =>
      obtain ⟨k, acc, hk, rfl, rfl, HA, BL⟩ := hrel
      by_cases hlt : k < l.length
      · have hlt2 : (k : Int) < (l.length : Int) := by omega
        obtain ⟨b, off, cap', u, hv, _, _, c0, c1, c2, c3, hto⟩ := (H.out.below BL.out).open k hlt
        simp only [Value.slice.injEq] at hv
        obtain ⟨rfl, -, rfl⟩ := hv
        have hxok := HOK.out l[k] (List.getElem_mem hlt)
        have hz := HZ.out l[k] (List.getElem_mem hlt)
        have HST := hid (show S ((l.take (k + 1)).flatMap itW) = acc ++ S (itW l[k]) by
          rw [HA.out, S_append, List.take_succ_eq_append_getElem hlt, List.flatMap_append]; simp)
        have hsz : acc.size ≤ k * 400 := by
          rw [HA.out, S_size]
          exact flat_bound (l.take k) 400 k (by rw [List.length_take]; omega) (fun x hx => itW_len x (HZ.out x (List.mem_of_mem_take hx)))
        have hs2 : (S (itW l[k])).size ≤ 400 := by rw [S_size]; exact itW_len _ hz
        generalize l[k] = x at *
        obtain ⟨op, A, C, xs⟩ := x
        simp only at c0 c1 c2 c3 hto
        obtain ⟨hop, hA⟩ := hxok
        simp only at hop hA
        obtain ⟨au, cu, rfl, -⟩ := id hto
        have X2 := hid (Blk.new wr #[.int .u8 op, .int .i64 A, .int .i64 C, .slice au xs.length cu] 90 _ rfl)
        have B2 := hid (BL.out.alloc BL.out.size (.cells #[.int .u8 op, .int .i64 A, .int .i64 C, .slice au xs.length cu] 90))
        have HW := hid (pinsW_any op hop A C hA xs (.slice au xs.length cu) (wr.alloc (.cells #[.int .u8 op, .int .i64 A, .int .i64 C, .slice au xs.length cu] 90)) (L1.below hto (Below.alloc (Below.refl _ _) (Nat.le_refl _) _)))
        rw [show wrT op A C xs = S (itW ⟨op, A, C, xs⟩) from if_pos hz, show chkI (tB op) A C xs = 0 from hz] at HW
        generalize S (itW ⟨op, A, C, xs⟩) = P at *
        have x0 := X2.out.cell (i := 0) rfl
        have x1 := X2.out.cell (i := 1) rfl
        have x2 := X2.out.cell (i := 2) rfl
        have x3 := X2.out.cell (i := 3) rfl
        have hsum : ¬ 9223372036854775807 < acc.size + P.size := by omega
        clear hto hz hA hop
        go_wp2_with fail
        refine HW.out.mono ?_
        rintro r w3 ⟨rfl, g1⟩
        have B3 := hid (B2.out.trans (g1.mono B2.out.size))
        clear g1 x0 x1 x2 x3
        go_wp2_with fail
        go_roundw
        case rel => exact ⟨k + 1, acc ++ P, by omega, by go_num, rfl, hid HST.out.symm, B3⟩
        case measure => simp [RowKit.intOf]; omega
      · have hlt2 : ¬ (k : Int) < (l.length : Int) := by omega
        have HR := hid (show acc = fin by rw [HA.out, ← HFIN.out, show k = l.length by omega])
        go_wp2_with fail
        go_ret2
        rw [← HR.out]
        exact ⟨rfl, BL.out⟩
  · rw [if_neg hE]
    generalize ncM l = E at *
    have hE2 : (E != 0) = true := by simpa using hE
    clear hE
    go_enter Try.func63, Try.ntmps63
    go_wp2_with fail
    refine HC.out.mono ?_
    rintro r w1 ⟨rfl, g1⟩
    have B1 := hid g1
    clear g1
    go_wp2_with fail
    go_ret2
    exact ⟨rfl, B1.out⟩
end Go.Proofs.Ytomaiolhaenmhaa
