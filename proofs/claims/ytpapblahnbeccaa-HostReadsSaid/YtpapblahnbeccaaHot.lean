/-
  HOST: Sig on both sides; SameSig. No condition.
-/
import Derived.Test.YtpapblahnbeccaaHos
import Derived.Test.YtpapblahnbeccaaCut
namespace Go.Proofs.Ytpapblahnbeccaa
open Go.RowKit Go.Lib

theorem sig_any (s : ByteArray) (w : World) : Calls Try.prog 55 #[.string s] w (SigP w (kindN s.toList)) := by
  rcases kindN_in s.toList with h | h | h | h | h | h | h | h | h | h | h | h <;> rw [h]
  · exact sig_0 s w h
  · exact sig_1 s w h
  · exact sig_2 s w h
  · exact sig_3 s w h
  · exact sig_4 s w h
  · exact sig_5 s w h
  · exact sig_6 s w h
  · exact sig_7 s w h
  · exact sig_8 s w h
  · exact sig_9 s w h
  · exact sig_10 s w h
  · exact sig_11 s w h
/-- a form: letters, '>', letters -/
structure Form (k : Int) (a b : List UInt8) : Prop where
  eq : formL k = a ++ 62 :: b
  no : ∀ x ∈ a, x ≠ 62
  some : 0 < (a ++ b).length
  len : a.length ≤ 4 ∧ b.length ≤ 4
  lo : (∀ x ∈ a, x.toNat < 128) ∧ ∀ x ∈ b, x.toNat < 128
  ins : kindsL a = inK k
  outs : kindsL b = outK k
theorem form_in (l : List UInt8) (h : kindN l ≠ 0) : ∃ a b, Form (kindN l) a b := by
  rcases kindN_in l with e | e | e | e | e | e | e | e | e | e | e | e <;> rw [e] at h ⊢
  · exact absurd rfl h
  · exact ⟨[], [105], rfl, by decide, by decide, by decide, by decide, by decide, by decide⟩
  · exact ⟨[105, 105, 105, 105], [105], rfl, by decide, by decide, by decide, by decide, by decide, by decide⟩
  · exact ⟨[108, 105, 105], [105], rfl, by decide, by decide, by decide, by decide, by decide, by decide⟩
  · exact ⟨[105], [105], rfl, by decide, by decide, by decide, by decide, by decide, by decide⟩
  · exact ⟨[105], [105], rfl, by decide, by decide, by decide, by decide, by decide, by decide⟩
  · exact ⟨[105], [105], rfl, by decide, by decide, by decide, by decide, by decide, by decide⟩
  · exact ⟨[105], [105], rfl, by decide, by decide, by decide, by decide, by decide, by decide⟩
  · exact ⟨[105], [], rfl, by decide, by decide, by decide, by decide, by decide, by decide⟩
  · exact ⟨[105], [105], rfl, by decide, by decide, by decide, by decide, by decide, by decide⟩
  · exact ⟨[108], [], rfl, by decide, by decide, by decide, by decide, by decide, by decide⟩
  · exact ⟨[], [108], rfl, by decide, by decide, by decide, by decide, by decide, by decide⟩
/-- kinds of letters below 128 -/
theorem kindsS_any (w : World) (a : List UInt8) (hl : a.length ≤ 4) (h : ∀ x ∈ a, x.toNat < 128) :
    Calls Try.prog 115 #[.string (S a)] w fun e w' => ∃ v, e = .returned v ∧ OwnI w' w.heap.size .u8 200 v (kindsL a) ∧ Below w.heap.size w w' := by
  have := kinds_any w (S a) (by rw [S_size]; omega) (fun i hi => h _ (by
    have : (S a)[i] = a[i]'(by rw [S_size] at hi; exact hi) := rfl
    rw [this]
    exact List.getElem_mem _))
  rw [S_data] at this
  exact this
theorem S_toList (l : List UInt8) : (S l).toList = l := by rw [Go.ByteArray.toList_eq, S_data]

set_option maxRecDepth 100000 in
set_option maxHeartbeats 2000000 in
theorem hostSig_any (s : ByteArray) (w : World) : Calls Try.prog 56 #[.string s] w (SigP w (kindN s.toList)) := by
  have HR := hid (fun w' => hostRow_any s w')
  by_cases h0 : kindN s.toList = 0
  · rw [h0] at HR ⊢
    rw [show formL 0 = [] from rfl] at HR
    go_enter Try.func56, Try.ntmps56
    go_wp2_with fail
    refine (HR.out _).mono ?_
    rintro e w1 ⟨rfl, rfl⟩
    rw [S_nil]
    go_wp2_with fail
    refine bodyPost_ret (v := .tuple #[.agg #[.slice none 0 0, .slice none 0 0], .bool false]) (by simp [results, Try.results56, go_sem]) rfl ?_
    exact ⟨_, _, rfl, nil_ints _ _, nil_ints _ _, (Below.refl _ _).alloc (Nat.le_refl _) _⟩
  · obtain ⟨a, b, F⟩ := form_in s.toList h0
    have hk : (kindN s.toList != 0) = true := by simpa using h0
    generalize kindN s.toList = k at *
    rw [F.eq] at HR
    have hcut := cut_any a b 62 F.no
    have hls := F.len
    have hne : (S (a ++ 62 :: b)).toList.isEmpty = false := by rw [S_toList]; cases a <;> rfl
    have hne2 : ((S (a ++ 62 :: b)).toList == []) = false := by rw [S_toList]; cases a <;> rfl
    have hne3 : ¬ (S (a ++ 62 :: b)).toList = [] := by rw [S_toList]; cases a <;> simp
    have HC := hid (fun w' => hcut w' (by simp; omega) F.some)
    have KA := hid (fun w' => kindsS_any w' a hls.1 F.lo.1)
    have KB := hid (fun w' => kindsS_any w' b hls.2 F.lo.2)
    have FI := hid F.ins
    have FO := hid F.outs
    have HK := hid hk
    clear hcut hls F hk h0
    generalize S (a ++ 62 :: b) = ff at *
    have X0 := hid (Blk.new w #[.slice none 0 0, .slice none 0 0] 103 _ rfl)
    go_enter Try.func56, Try.ntmps56
    go_wp2_with fail
    refine (HR.out _).mono ?_
    rintro e w1 ⟨rfl, rfl⟩
    go_wp2_with fail
    refine (HC.out _).mono ?_
    rintro e w2 ⟨rfl, hb2⟩
    have X2 := hid (X0.out.below hb2)
    have B2 := hid (((Below.refl w.heap.size w).alloc (Nat.le_refl _) _).trans (hb2.mono (by simp)))
    clear hb2
    go_wp2_with fail
    refine (KA.out _).mono ?_
    rintro e w3 ⟨vi, rfl, hi, hb3⟩
    have X3 := hid (X2.out.below hb3)
    have B3 := hid (B2.out.trans (hb3.mono B2.out.size))
    have I3 : Hid (OwnI w3 (w.heap.size + 1) .u8 200 vi (kindsL a)) := hid (own_mono hi X2.out.lt)
    clear hb3 hi
    go_wp2_with fail
    refine (KB.out _).mono ?_
    rintro e w4 ⟨vo, rfl, ho, hb4⟩
    have X4 := hid (X3.out.below hb4)
    have B4 := hid (B3.out.trans (hb4.mono B3.out.size))
    have I4 := hid (OwnI.below I3.out hb4)
    have O4 : Hid (OwnI w4 (w.heap.size + 1) .u8 200 vo (kindsL b)) := hid (own_mono ho X3.out.lt)
    clear hb4 ho
    obtain ⟨aoi, capi, rfl, -⟩ := own_sl I4.out
    obtain ⟨aoo, capo, rfl, -⟩ := own_sl O4.out
    have x0 := X4.out.cell (i := 0) rfl
    have x1 := X4.out.cell (i := 1) rfl
    have xf := fun i => X4.out.free i
    go_wp2_with fail
    have ht : Touch (fun j => j = w.heap.size) w4 ((w4.setCell ⟨w.heap.size, 0, none⟩ (.slice aoi (kindsL a).length capi)).setCell ⟨w.heap.size, 1, none⟩ (.slice aoo (kindsL b).length capo)) :=
      (Touch.setCell (F := fun j => j = w.heap.size) (a := ⟨w.heap.size, 0, none⟩) rfl _).trans (Touch.setCell (F := fun j => j = w.heap.size) (a := ⟨w.heap.size, 1, none⟩) rfl _)
    have y := (X4.out.set 0 (.slice aoi (kindsL a).length capi)).set 1 (.slice aoo (kindsL b).length capo)
    have z0 := y.cell (i := 0) rfl
    have z1 := y.cell (i := 1) rfl
    refine bodyPost_ret (v := .tuple #[.agg #[.slice aoi (kindsL a).length capi, .slice aoo (kindsL b).length capo], .bool true]) (by simp [results, Try.results56, go_sem, z0, z1]) rfl ?_
    refine ⟨_, _, by rw [HK.out], ?_, ?_, B4.out.trans (ht.below B4.out.size (fun j hj => by omega))⟩
    · rw [← FI.out]
      exact OwnI.ints (own_touch I4.out ht (fun j hj e => by have := (World.ownsRow.lt I4.out j hj).1; omega))
    · rw [← FO.out]
      exact OwnI.ints (own_touch O4.out ht (fun j hj e => by have := (World.ownsRow.lt O4.out j hj).1; omega))

set_option maxRecDepth 100000 in
set_option maxHeartbeats 1000000 in
theorem sameSig_any (w : World) (vi vo ui uo : Value) (a b : List Int) (h1 : Ints w .u8 vi a) (h2 : Ints w .u8 vo b) (h3 : Ints w .u8 ui a) (h4 : Ints w .u8 uo b) :
    Calls Try.prog 59 #[.agg #[vi, vo], .agg #[ui, uo]] w fun e w' => e = .returned (.bool true) ∧ Below w.heap.size w w' := by
  have hb : Below w.heap.size w ((w.alloc (.cells #[vi, vo] 103)).alloc (.cells #[ui, uo] 103)) := ((Below.refl _ _).alloc (Nat.le_refl _) _).alloc (by simp) _
  have e1 := eq_kind vi ui a a _ (L1.below h1 hb) (L1.below h3 hb)
  have e2 := eq_kind vo uo b b _ (L1.below h2 hb) (L1.below h4 hb)
  rw [decide_eq_true rfl] at e1 e2
  have E1 := hid e1
  have E2 := hid e2
  have HB := hid hb
  obtain ⟨_, _, rfl, _⟩ := h1
  obtain ⟨_, _, rfl, _⟩ := h2
  obtain ⟨_, _, rfl, _⟩ := h3
  obtain ⟨_, _, rfl, _⟩ := h4
  clear e1 e2 hb
  go_enter Try.func59, Try.ntmps59
  go_wp2_with fail
  refine E1.out.mono ?_
  rintro e w1 ⟨rfl, rfl⟩
  go_wp2_with fail
  refine E2.out.mono ?_
  rintro e w1 ⟨rfl, rfl⟩
  go_wp2_with fail
  go_ret
  exact ⟨rfl, HB.out⟩
end Go.Proofs.Ytpapblahnbeccaa
