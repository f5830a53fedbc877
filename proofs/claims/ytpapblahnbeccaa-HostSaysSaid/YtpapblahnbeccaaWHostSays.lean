/-
  THE LAW HostSays: Sig, Pid, Number and Tell are the reference's. No condition.
-/
import Derived.Test.YtpapblahnbeccaaHoq
import Derived.Test.YtpapblahnbeccaaDecH
import Derived.Laws.StructEq
namespace Go.Proofs.Ytpapblahnbeccaa
open Go.RowKit Go.Lib

set_option maxRecDepth 100000 in
theorem eql_pid (a b : Int) (w : World) : (binOp .eql 98 (.agg #[.int .i64 a, .int .i64 b]) (.agg #[.int .i64 a, .int .i64 b])).run Try.prog w = .ok (.bool true) w := by
  have h0 : Try.prog.stoodInHeld 98 = false := by kernel_rfl
  rw [run_eql_struct]
  simp [go_sem, Program.fieldsOf, Try.underlying98, Try.underlying3, Op.eqFields, h0]
theorem pid_open {W : World} {v : Value} {x : D_api_Pid} (h : IsAgg (R_api_Pid W) v x) : v = .agg #[.int .i64 x.1, .int .i64 x.2.1] ∧ (-9223372036854775808 ≤ x.1 ∧ x.1 ≤ 9223372036854775807) ∧ -9223372036854775808 ≤ x.2.1 ∧ x.2.1 ≤ 9223372036854775807 := by
  obtain ⟨cs, rfl, _, _, rfl, ⟨rfl, h1⟩, _, _, rfl, ⟨rfl, h2⟩, rfl⟩ := h
  exact ⟨rfl, wf_i64 h1, wf_i64 h2⟩
theorem letter_open {W : World} {v : Value} {x : D_api_Letter} (h : IsAgg (R_api_Letter W) v x) : v = .agg #[.int .i64 x.1.1, .int .i64 x.1.2.1, .int .i64 x.2.1, .string x.2.2.1] ∧ ((-9223372036854775808 ≤ x.1.1 ∧ x.1.1 ≤ 9223372036854775807) ∧ -9223372036854775808 ≤ x.1.2.1 ∧ x.1.2.1 ≤ 9223372036854775807) ∧ x.2.2.1.size ≤ 140737488351232 := by
  obtain ⟨cs, rfl, _, _, rfl, ⟨_, _, rfl, ⟨rfl, h1⟩, _, _, rfl, ⟨rfl, h2⟩, rfl⟩, _, _, rfl, ⟨rfl, _⟩, _, _, rfl, ⟨rfl, h3⟩, rfl⟩ := h
  exact ⟨rfl, ⟨wf_i64 h1, wf_i64 h2⟩, h3⟩
theorem pidV_form (n : Int) : ∃ a b ok, pidV n = .tuple #[.agg #[.int .i64 a, .int .i64 b], .bool ok] := by
  unfold pidV
  split
  · exact ⟨_, _, _, rfl⟩
  · exact ⟨_, _, _, rfl⟩

set_option maxRecDepth 100000 in
set_option maxHeartbeats 8000000 in
theorem law_HostSays (v0 v1 v2 v3 : Value) (x0 : ByteArray) (x1 : D_api_Pid) (x2 : Int) (x3 : D_api_Letter) (W : World) (i0 : IsStr W v0 x0) (i1 : IsAgg (R_api_Pid W) v1 x1) (i2 : IsInt .i64 W v2 x2) (i3 : IsAgg (R_api_Letter W) v3 x3) :
    Calls Try.prog 8 #[v0, v1, v2, v3] W fun e w' => e = .returned (.bool true) ∧ Below W.heap.size W w' := by
  obtain ⟨rfl, h1⟩ := i0
  obtain ⟨rfl, h2⟩ := i2
  obtain ⟨rfl, p1, p2⟩ := pid_open i1
  obtain ⟨rfl, ⟨l1, l2⟩, l3⟩ := letter_open i3
  have hn := wf_i64 h2
  clear i1 i3 h2
  obtain ⟨pa, pb, _⟩ := x1
  obtain ⟨⟨la, lb, _⟩, lt, ls, _⟩ := x3
  simp only at *
  have S1 := hid (fun w' => sig_any x0 w')
  have S2 := hid (fun w' => hostSig_any x0 w')
  obtain ⟨qa, qb, ok, hq⟩ := pidV_form x2
  have P1 := hid (fun w' => pid_any x2 w')
  have P2 := hid (fun w' => hostPid_any x2 w' hn.1 hn.2)
  rw [hq] at P1 P2
  have N1 := hid (fun w' => number_any pa pb w')
  have N2 := hid (fun w' => hostNumber_any pa pb w' p1 p2)
  have T1 := hid (fun w' => tell_any la lb lt ls w' l3)
  have T2 := hid (fun w' => hostTell_any la lb lt ls w' l3 l1 l2)
  unfold SigP at S1 S2
  generalize kindN x0.toList = k at *
  generalize numV pa pb = nv at *
  generalize tellL la lb lt ls = tv at *
  have HE := hid (eql_pid qa qb)
  clear hq hn p1 p2 l1 l2 l3 h1
  have X0 := hid ((Blk.new W #[.int .i64 pa, .int .i64 pb] 98 _ rfl).alloc (.cells #[.int .i64 la, .int .i64 lb, .int .i64 lt, .string ls] 100))
  have X1 := hid (Blk.new (W.alloc (.cells #[.int .i64 pa, .int .i64 pb] 98)) #[.int .i64 la, .int .i64 lb, .int .i64 lt, .string ls] 100 (W.heap.size + 1) (by simp))
  have B0 := hid (below2 W (.cells #[.int .i64 pa, .int .i64 pb] 98) (.cells #[.int .i64 la, .int .i64 lb, .int .i64 lt, .string ls] 100))
  go_enter Try.func8, Try.ntmps8
  go_wp2_with fail
  refine (S1.out _).mono ?_
  rintro e w1 ⟨vi, vo, rfl, hi, ho, hb⟩
  obtain ⟨aoi, capi, rfl, -⟩ := id hi
  obtain ⟨aoo, capo, rfl, -⟩ := id ho
  have al1 : Below w1.heap.size w1 (w1.alloc (.cells #[.slice aoi (inK k).length capi, .slice aoo (outK k).length capo] 103)) := (Below.refl _ _).alloc (Nat.le_refl _) _
  have X0 := hid ((X0.out.below hb).below al1)
  have X1 := hid ((X1.out.below hb).below al1)
  have X2 := hid (Blk.new w1 #[.slice aoi (inK k).length capi, .slice aoo (outK k).length capo] 103 _ rfl)
  have I1 := hid (L1.below hi al1)
  have O1 := hid (L1.below ho al1)
  have B1 := hid ((B0.out.trans (hb.mono B0.out.size)).trans (al1.mono (by have := B0.out.size; have := hb.size; omega)))
  clear hb hi ho al1
  go_wp2_with fail
  refine (S2.out _).mono ?_
  rintro e w2 ⟨ui, uo, rfl, hi, ho, hb⟩
  obtain ⟨aoi2, capi2, rfl, -⟩ := id hi
  obtain ⟨aoo2, capo2, rfl, -⟩ := id ho
  have al1 : Below w2.heap.size w2 (w2.alloc (.cells #[.slice aoi2 (inK k).length capi2, .slice aoo2 (outK k).length capo2] 103)) := (Below.refl _ _).alloc (Nat.le_refl _) _
  have X0 := hid ((X0.out.below hb).below al1)
  have X1 := hid ((X1.out.below hb).below al1)
  have X2 := hid ((X2.out.below hb).below al1)
  have X3 := hid (Blk.new w2 #[.slice aoi2 (inK k).length capi2, .slice aoo2 (outK k).length capo2] 103 _ rfl)
  have I1 := hid (L1.below (L1.below I1.out hb) al1)
  have O1 := hid (L1.below (L1.below O1.out hb) al1)
  have I2 := hid (L1.below hi al1)
  have O2 := hid (L1.below ho al1)
  have B2 := hid ((B1.out.trans (hb.mono B1.out.size)).trans (al1.mono (by have := B1.out.size; have := hb.size; omega)))
  clear hb hi ho al1
  go_wp2_with fail
  refine (P1.out _).mono ?_
  rintro e w3 ⟨rfl, hb⟩
  have al1 : Below w3.heap.size w3 (w3.alloc (.cells #[.int .i64 qa, .int .i64 qb] 98)) := (Below.refl _ _).alloc (Nat.le_refl _) _
  have X0 := hid ((X0.out.below hb).below al1)
  have X1 := hid ((X1.out.below hb).below al1)
  have X2 := hid ((X2.out.below hb).below al1)
  have X3 := hid ((X3.out.below hb).below al1)
  have X4 := hid (Blk.new w3 #[.int .i64 qa, .int .i64 qb] 98 _ rfl)
  have I1 := hid (L1.below (L1.below I1.out hb) al1)
  have O1 := hid (L1.below (L1.below O1.out hb) al1)
  have I2 := hid (L1.below (L1.below I2.out hb) al1)
  have O2 := hid (L1.below (L1.below O2.out hb) al1)
  have B3 := hid ((B2.out.trans (hb.mono B2.out.size)).trans (al1.mono (by have := B2.out.size; have := hb.size; omega)))
  clear hb al1
  go_wp2_with fail
  refine (P2.out _).mono ?_
  rintro e w4 ⟨rfl, hb⟩
  have al1 : Below w4.heap.size w4 (w4.alloc (.cells #[.int .i64 qa, .int .i64 qb] 98)) := (Below.refl _ _).alloc (Nat.le_refl _) _
  have X0 := hid ((X0.out.below hb).below al1)
  have X1 := hid ((X1.out.below hb).below al1)
  have X2 := hid ((X2.out.below hb).below al1)
  have X3 := hid ((X3.out.below hb).below al1)
  have X4 := hid ((X4.out.below hb).below al1)
  have X5 := hid (Blk.new w4 #[.int .i64 qa, .int .i64 qb] 98 _ rfl)
  have I1 := hid (L1.below (L1.below I1.out hb) al1)
  have O1 := hid (L1.below (L1.below O1.out hb) al1)
  have I2 := hid (L1.below (L1.below I2.out hb) al1)
  have O2 := hid (L1.below (L1.below O2.out hb) al1)
  have B4 := hid ((B3.out.trans (hb.mono B3.out.size)).trans (al1.mono (by have := B3.out.size; have := hb.size; omega)))
  clear hb al1
  go_wp2_with fail
  generalize w4.alloc (.cells #[.int .i64 qa, .int .i64 qb] 98) = w5 at *
  have SS := hid (fun w' (h : Below w5.heap.size w5 w') => sameSig_any w' _ _ _ _ _ _ (L1.below I1.out h) (L1.below O1.out h) (L1.below I2.out h) (L1.below O2.out h))
  have HD : Hid (∀ w', Below w5.heap.size w5 w' → w'.cell? ⟨w1.heap.size, 0, none⟩ = some (.slice aoi (inK k).length capi) ∧ w'.cell? ⟨w1.heap.size, 1, none⟩ = some (.slice aoo (outK k).length capo) ∧ w'.cell? ⟨w2.heap.size, 0, none⟩ = some (.slice aoi2 (inK k).length capi2) ∧ w'.cell? ⟨w2.heap.size, 1, none⟩ = some (.slice aoo2 (outK k).length capo2) ∧ w'.cell? ⟨w3.heap.size, 0, none⟩ = some (.int .i64 qa) ∧ w'.cell? ⟨w3.heap.size, 1, none⟩ = some (.int .i64 qb) ∧ w'.cell? ⟨w4.heap.size, 0, none⟩ = some (.int .i64 qa) ∧ w'.cell? ⟨w4.heap.size, 1, none⟩ = some (.int .i64 qb) ∧ w'.cell? ⟨W.heap.size, 0, none⟩ = some (.int .i64 pa) ∧ w'.cell? ⟨W.heap.size, 1, none⟩ = some (.int .i64 pb) ∧ w'.cell? ⟨W.heap.size + 1, 0, none⟩ = some (.int .i64 la) ∧ w'.cell? ⟨W.heap.size + 1, 1, none⟩ = some (.int .i64 lb) ∧ w'.cell? ⟨W.heap.size + 1, 2, none⟩ = some (.int .i64 lt) ∧ w'.cell? ⟨W.heap.size + 1, 3, none⟩ = some (.string ls)) :=
    hid (fun w' h => ⟨(X2.out.below h).cell (i := 0) rfl, (X2.out.below h).cell (i := 1) rfl, (X3.out.below h).cell (i := 0) rfl, (X3.out.below h).cell (i := 1) rfl, (X4.out.below h).cell (i := 0) rfl, (X4.out.below h).cell (i := 1) rfl, (X5.out.below h).cell (i := 0) rfl, (X5.out.below h).cell (i := 1) rfl, (X0.out.below h).cell (i := 0) rfl, (X0.out.below h).cell (i := 1) rfl, (X1.out.below h).cell (i := 0) rfl, (X1.out.below h).cell (i := 1) rfl, (X1.out.below h).cell (i := 2) rfl, (X1.out.below h).cell (i := 3) rfl⟩)
  have D0 : Hid (Below w5.heap.size w5 w5.drew) := hid (drew_bel' (n := 1) (Below.refl w5.heap.size w5))
  have E := HE.out
  go_region_held3 (fun w' => w'.cell? ⟨w1.heap.size, 0, none⟩ = some (.slice aoi (inK k).length capi) ∧ w'.cell? ⟨w1.heap.size, 1, none⟩ = some (.slice aoo (outK k).length capo) ∧ w'.cell? ⟨w2.heap.size, 0, none⟩ = some (.slice aoi2 (inK k).length capi2) ∧ w'.cell? ⟨w2.heap.size, 1, none⟩ = some (.slice aoo2 (outK k).length capo2) ∧ w'.cell? ⟨w3.heap.size, 0, none⟩ = some (.int .i64 qa) ∧ w'.cell? ⟨w3.heap.size, 1, none⟩ = some (.int .i64 qb) ∧ w'.cell? ⟨w4.heap.size, 0, none⟩ = some (.int .i64 qa) ∧ w'.cell? ⟨w4.heap.size, 1, none⟩ = some (.int .i64 qb) ∧ w'.cell? ⟨W.heap.size, 0, none⟩ = some (.int .i64 pa) ∧ w'.cell? ⟨W.heap.size, 1, none⟩ = some (.int .i64 pb) ∧ w'.cell? ⟨W.heap.size + 1, 0, none⟩ = some (.int .i64 la) ∧ w'.cell? ⟨W.heap.size + 1, 1, none⟩ = some (.int .i64 lb) ∧ w'.cell? ⟨W.heap.size + 1, 2, none⟩ = some (.int .i64 lt) ∧ w'.cell? ⟨W.heap.size + 1, 3, none⟩ = some (.string ls)) (first | exact HD.out _ D0.out | go_keep) (first | (go_at_call 59; (with_reducible refine (SS.out _ D0.out).mono ?_); rintro r w6 ⟨rfl, hb⟩; have D0 := hid (D0.out.trans (hb.mono D0.out.size)); clear hb) | (go_at_call 60; (with_reducible refine (N1.out _).mono ?_); rintro r w6 ⟨rfl, hb⟩; have D0 := hid (D0.out.trans (hb.mono D0.out.size)); clear hb) | (go_at_call 61; (with_reducible refine (N2.out _).mono ?_); rintro r w6 ⟨rfl, hb⟩; have D0 := hid (D0.out.trans (hb.mono D0.out.size)); clear hb) | (go_at_call 62; (with_reducible refine (T1.out _).mono ?_); rintro r w6 ⟨rfl, hb⟩; have D0 := hid (D0.out.trans (hb.mono D0.out.size)); clear hb) | (go_at_call 63; (with_reducible refine (T2.out _).mono ?_); rintro r w6 ⟨rfl, hb⟩; have D0 := hid (D0.out.trans (hb.mono D0.out.size)); clear hb))
  all_goals
    go_wp2_with fail
    go_ret
    exact ⟨rfl, B4.out.trans (D0.out.mono B4.out.size)⟩
end Go.Proofs.Ytpapblahnbeccaa
