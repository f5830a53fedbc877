/-
  MODULES AS BYTES, the program's writer of globals. Conditions: the kind is one of the two.
-/
import Derived.Test.YthoalneknadheaaGreatDoorGBinWrites40
namespace Go.Proofs.YthoalneknadheaaGreatDoor
open Go.RowKit Go.Lib

set_option maxRecDepth 100000 in
set_option maxHeartbeats 4000000 in
theorem wGlobal_kb (w : World) (k : Int) (b : Bool) (z : Int) (hk : k = 127 ∨ k = 126) (hz1 : -9223372036854775808 ≤ z) (hz2 : z < 9223372036854775808) :
    Calls Tryz.prog 23 #[.agg #[.int .u8 k, .bool b, .int .i64 z]] w fun e w' => e = .returned (.string (wGlobal (k, b, z, ()))) ∧ Below w.heap.size w w' := by
  obtain ⟨mu, hmu⟩ : ∃ m : Int, (if b = true then 1 else 0) = m := ⟨_, rfl⟩
  obtain ⟨op, hop⟩ : ∃ m : Int, (if k = 127 then 65 else 66) = m := ⟨_, rfl⟩
  obtain ⟨A, hA⟩ : ∃ A, S (encS 9 z) = A := ⟨_, rfl⟩
  have HU := hid (fun wx => s_any z hz1 hz2 A hA.symm wx)
  have sA := encS9_size z
  rw [hA] at sA
  obtain ⟨P, hP⟩ : ∃ P, S [UInt8.ofNat k.toNat, UInt8.ofNat mu.toNat, UInt8.ofNat op.toNat] = P := ⟨_, rfl⟩
  have HWD := hid (show wGlobal (k, b, z, ()) = P ++ A ++ S [11] from by
    rw [← hP, ← hA, ← hmu, ← hop]
    rcases hk with rfl | rfl <;> cases b <;> rfl)
  have sP : P.size = 3 := by rw [← hP]; exact S_size _
  have hcx := hid (show ∀ (n : Nat) (wa wb : World), n = wa.heap.size → Below (wa.alloc (.cells #[.int .u8 k, .int .u8 mu, .int .u8 op] 5)).heap.size (wa.alloc (.cells #[.int .u8 k, .int .u8 mu, .int .u8 op] 5)) wb → (convert 40 9 (.slice (some ⟨n, 0, none⟩) 3 3)).run Tryz.prog wb = .ok (.string P) wb from by
    intro n wa wb hn h
    subst hn
    have hi := L1.below (Ints.made' wa .u8 5 [k, mu, op] wa.heap.size rfl (by simp)) h
    have hc := conv_bytes hi
    rw [← hP]
    exact hc)
  have g1 : ¬ 9223372036854775807 < P.size + A.size := by omega
  have g2 : ¬ 9223372036854775807 < P.size + A.size + 1 := by omega
  have hX := Blk.new w #[.int .u8 k, .bool b, .int .i64 z] 64 _ rfl
  have BQ := hid hX
  have B0 := hid (hX.below (Below.refl _ _).drew)
  have x0 := (Below.refl w.heap.size w).alloc (Nat.le_refl _) (.cells #[.int .u8 k, .bool b, .int .i64 z] 64)
  have XQ := hid x0
  have X0 := hid x0.drew
  have q0 := BQ.out.cell (i := 0) rfl
  have q1 := BQ.out.cell (i := 1) rfl
  have MU := hid hmu
  have OP := hid hop
  clear hX x0 sP sA hP hA hmu hop hk
  go_enter Tryz.func23, Tryz.ntmps23
  go_upto_if 6 with fail
  go_cut [3] from 5 to 9 (fun a wx => a = .int .u8 mu ∧ wx = w.alloc (.cells #[.int .u8 k, .bool b, .int .i64 z] 64))
  case first =>
    have hmu := MU.out
    clear OP
    cases b
    · subst hmu
      go_wp2_with fail
      go_meet
      exact ⟨rfl, rfl⟩
    · subst hmu
      go_wp2_with fail
      go_meet
      exact ⟨rfl, rfl⟩
  case rest =>
  obtain ⟨rfl, rfl⟩ := hcut
  go_upto_if 9 with fail
  go_cut [4] from 5 to 11 (fun a wx => a = .int .u8 op ∧ wx = w.alloc (.cells #[.int .u8 k, .bool b, .int .i64 z] 64))
  case first =>
    have hop := OP.out
    clear MU
    by_cases he : k = 127
    · rw [if_pos he] at hop
      subst hop
      have he2 : (k == 127) = true := by rw [he]; rfl
      rw [he2]
      clear he
      go_wp2_with fail
      go_meet
      exact ⟨rfl, rfl⟩
    · rw [if_neg he] at hop
      subst hop
      have he2 : (k == 127) = false := by rw [beq_eq_false_iff_ne]; exact he
      rw [he2]
      clear he
      go_wp2_with fail
      go_meet
      exact ⟨rfl, rfl⟩
  case rest =>
  obtain ⟨rfl, rfl⟩ := hcut
  clear q0 q1
  go_wp2_with fail
  refine wp_region_tail (S := (fun w' => w'.cell? ⟨w.heap.size, 0, none⟩ = some (.int .u8 k) ∧ w'.cell? ⟨w.heap.size, 2, none⟩ = some (.int .i64 z) ∧ Hid (Blk w' w.heap.size 64 [.int .u8 k, .bool b, .int .i64 z]) ∧ Hid (Below w.heap.size w w'))) 11 (by kernel_rfl) (by kernel_rfl) ?_ (fun hHeld => ?_)
  · exact ⟨B0.out.cell (i := 0) rfl, B0.out.cell (i := 2) rfl, B0, X0⟩
  repeat ((first | refine tk 0 ?_ rfl ?_ ?_ | refine tk 1 ?_ rfl ?_ ?_ | refine tk 2 ?_ rfl ?_ ?_ | refine tk 3 ?_ rfl ?_ ?_ | refine tk 6 ?_ rfl ?_ ?_ | refine tk 7 ?_ rfl ?_ ?_ | refine tk 9 ?_ rfl ?_ ?_ | refine tk 10 ?_ rfl ?_ ?_); rotate_left; (intro wy hSw; (try dsimp only at hSw); (go_simp <;> with_reducible rfl)); (try simp only [List.getElem_toArray, List.getElem_cons_zero, List.getElem_cons_succ, Act.put, List.setIfInBounds_toArray, List.set_cons_zero, List.set_cons_succ]))
  refine wpT_two (j := 4) (k := 8) rfl rfl (by kernel_rfl) (fun K hK => ?_) (fun K hK => ?_)
  · go_simp
    have BD := hid ((BQ.out.below ((Below.refl _ _).alloc (Nat.le_refl _) (.cells #[.int .u8 k, .int .u8 mu, .int .u8 op] 5))).below (Below.refl _ _).drew)
    have XD := hid ((XQ.out.alloc XQ.out.size (.cells #[.int .u8 k, .int .u8 mu, .int .u8 op] 5)).drew)
    have hcd := hcx.out (w.heap.size + 1) (w.alloc (.cells #[.int .u8 k, .bool b, .int .i64 z] 64)) _ (by simp) (Below.refl _ _).drew
    refine hK.out _ _ ?_ (fun hHeld => ?_)
    · exact ⟨BD.out.cell (i := 0) rfl, BD.out.cell (i := 2) rfl, BD, XD⟩
    clear hK K
    (try simp only [Act.put, List.setIfInBounds_toArray, List.set_cons_zero, List.set_cons_succ])
    refine wpT_two (j := 5) (k := 8) rfl rfl (by kernel_rfl) (fun K hK => ?_) (fun K hK => ?_)
    · go_simp
      refine hK.out _ _ ?_ (fun hHeld => ?_)
      · exact ⟨BD.out.cell (i := 0) rfl, BD.out.cell (i := 2) rfl, BD, XD⟩
      clear hK K
      (try simp only [Act.put, List.setIfInBounds_toArray, List.set_cons_zero, List.set_cons_succ])
      refine wpT_one (k := 8) rfl (by kernel_rfl) (fun K hK => ?_)
      go_simp
      refine (HU.out _).mono ?_
      rintro r w5 ⟨rfl, hb5⟩
      have BE := hid (BD.out.below hb5)
      have XE := hid (XD.out.trans (hb5.mono XD.out.size))
      clear hb5
      go_wp2_with fail
      refine hK.out _ _ ?_ (fun hHeld => ?_)
      · exact ⟨BE.out.cell (i := 0) rfl, BE.out.cell (i := 2) rfl, BE, XE⟩
      clear hK K
      (try simp only [Act.put, List.setIfInBounds_toArray, List.set_cons_zero, List.set_cons_succ])
      repeat ((first | refine tk 0 ?_ rfl ?_ ?_ | refine tk 1 ?_ rfl ?_ ?_ | refine tk 2 ?_ rfl ?_ ?_ | refine tk 3 ?_ rfl ?_ ?_ | refine tk 6 ?_ rfl ?_ ?_ | refine tk 7 ?_ rfl ?_ ?_ | refine tk 9 ?_ rfl ?_ ?_ | refine tk 10 ?_ rfl ?_ ?_); rotate_left; (intro wy hSw; (try dsimp only at hSw); (go_simp <;> with_reducible rfl)); (try simp only [List.getElem_toArray, List.getElem_cons_zero, List.getElem_cons_succ, Act.put, List.setIfInBounds_toArray, List.set_cons_zero, List.set_cons_succ]))
      refine wpT_done (by kernel_rfl) ?_
      go_wp2_with fail
      go_ret
      exact ⟨congrArg (fun x => Ending.returned (.string x)) HWD.out.symm, XE.out⟩
    · go_simp
      refine (HU.out _).mono ?_
      rintro r w5 ⟨rfl, hb5⟩
      have BE := hid (BD.out.below hb5)
      have XE := hid (XD.out.trans (hb5.mono XD.out.size))
      have hcd := hcx.out (w.heap.size + 1) (w.alloc (.cells #[.int .u8 k, .bool b, .int .i64 z] 64)) w5 (by simp) ((Below.refl _ _).drew.trans hb5)
      clear hb5
      go_wp2_with fail
      refine hK.out _ _ ?_ (fun hHeld => ?_)
      · exact ⟨BE.out.cell (i := 0) rfl, BE.out.cell (i := 2) rfl, BE, XE⟩
      clear hK K
      (try simp only [Act.put, List.setIfInBounds_toArray, List.set_cons_zero, List.set_cons_succ])
      refine wpT_one (k := 5) rfl (by kernel_rfl) (fun K hK => ?_)
      go_simp
      refine hK.out _ _ ?_ (fun hHeld => ?_)
      · exact ⟨BE.out.cell (i := 0) rfl, BE.out.cell (i := 2) rfl, BE, XE⟩
      clear hK K
      (try simp only [Act.put, List.setIfInBounds_toArray, List.set_cons_zero, List.set_cons_succ])
      repeat ((first | refine tk 0 ?_ rfl ?_ ?_ | refine tk 1 ?_ rfl ?_ ?_ | refine tk 2 ?_ rfl ?_ ?_ | refine tk 3 ?_ rfl ?_ ?_ | refine tk 6 ?_ rfl ?_ ?_ | refine tk 7 ?_ rfl ?_ ?_ | refine tk 9 ?_ rfl ?_ ?_ | refine tk 10 ?_ rfl ?_ ?_); rotate_left; (intro wy hSw; (try dsimp only at hSw); (go_simp <;> with_reducible rfl)); (try simp only [List.getElem_toArray, List.getElem_cons_zero, List.getElem_cons_succ, Act.put, List.setIfInBounds_toArray, List.set_cons_zero, List.set_cons_succ]))
      refine wpT_done (by kernel_rfl) ?_
      go_wp2_with fail
      go_ret
      exact ⟨congrArg (fun x => Ending.returned (.string x)) HWD.out.symm, XE.out⟩
  · go_simp
    refine (HU.out _).mono ?_
    rintro r w5 ⟨rfl, hb5⟩
    have BE := hid (B0.out.below hb5)
    have XE := hid (X0.out.trans (hb5.mono X0.out.size))
    clear hb5
    go_wp2_with fail
    refine hK.out _ _ ?_ (fun hHeld => ?_)
    · exact ⟨BE.out.cell (i := 0) rfl, BE.out.cell (i := 2) rfl, BE, XE⟩
    clear hK K
    (try simp only [Act.put, List.setIfInBounds_toArray, List.set_cons_zero, List.set_cons_succ])
    refine wpT_one (k := 4) rfl (by kernel_rfl) (fun K hK => ?_)
    go_simp
    have BF := hid (BE.out.below ((Below.refl _ _).alloc (Nat.le_refl _) (.cells #[.int .u8 k, .int .u8 mu, .int .u8 op] 5)))
    have XF := hid (XE.out.alloc XE.out.size (.cells #[.int .u8 k, .int .u8 mu, .int .u8 op] 5))
    have hcd := hcx.out w5.heap.size w5 _ rfl (Below.refl _ _)
    refine hK.out _ _ ?_ (fun hHeld => ?_)
    · exact ⟨BF.out.cell (i := 0) rfl, BF.out.cell (i := 2) rfl, BF, XF⟩
    clear hK K
    (try simp only [Act.put, List.setIfInBounds_toArray, List.set_cons_zero, List.set_cons_succ])
    refine wpT_one (k := 5) rfl (by kernel_rfl) (fun K hK => ?_)
    go_simp
    refine hK.out _ _ ?_ (fun hHeld => ?_)
    · exact ⟨BF.out.cell (i := 0) rfl, BF.out.cell (i := 2) rfl, BF, XF⟩
    clear hK K
    (try simp only [Act.put, List.setIfInBounds_toArray, List.set_cons_zero, List.set_cons_succ])
    repeat ((first | refine tk 0 ?_ rfl ?_ ?_ | refine tk 1 ?_ rfl ?_ ?_ | refine tk 2 ?_ rfl ?_ ?_ | refine tk 3 ?_ rfl ?_ ?_ | refine tk 6 ?_ rfl ?_ ?_ | refine tk 7 ?_ rfl ?_ ?_ | refine tk 9 ?_ rfl ?_ ?_ | refine tk 10 ?_ rfl ?_ ?_); rotate_left; (intro wy hSw; (try dsimp only at hSw); (go_simp <;> with_reducible rfl)); (try simp only [List.getElem_toArray, List.getElem_cons_zero, List.getElem_cons_succ, Act.put, List.setIfInBounds_toArray, List.set_cons_zero, List.set_cons_succ]))
    refine wpT_done (by kernel_rfl) ?_
    go_wp2_with fail
    go_ret
    exact ⟨congrArg (fun x => Ending.returned (.string x)) HWD.out.symm, XF.out⟩
theorem wGlobal_any (W w : World) (cs : List Value) (y : D_api_Global) (_hb : Below W.heap.size W w) (hf : fGlobal y = 0) (hR : R_api_Global W cs y) :
    Calls Tryz.prog 23 #[.agg cs.toArray] w fun e w' => e = .returned (.string (wGlobal y)) ∧ Below w.heap.size w w' := by
  obtain ⟨_, _, rfl, ⟨rfl, hw1⟩, _, _, rfl, ⟨rfl, _⟩, _, _, rfl, ⟨rfl, hw2⟩, rfl⟩ := hR
  have hz := wf_i64 hw2
  have hg := gGlobal hf
  obtain ⟨k, b, z, _⟩ := y
  simp only at hg hz
  exact wGlobal_kb w k b z hg hz.1 (by omega)
end Go.Proofs.YthoalneknadheaaGreatDoor
