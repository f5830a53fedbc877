/-
  TREES OF BODIES: Of. No condition.
-/
import Derived.Test.YtomaiolhaenmhaaNsB
import Derived.Test.YtomaiolhaenmhaaGNestTrees6
import Derived.Test.YtomaiolhaenmhaaGNestTrees8
import Derived.Test.YtomaiolhaenmhaaGNestTrees9
import Derived.Test.YtomaiolhaenmhaaGNestTrees10
import Derived.Test.YtomaiolhaenmhaaGNestTrees11
import Derived.Test.YtomaiolhaenmhaaGNestTrees12
import Derived.Test.YtomaiolhaenmhaaNsV
import Derived.Test.YtomaiolhaenmhaaDecN
import Derived.Test.YtomaiolhaenmhaaLawK
namespace Go.Proofs.Ytomaiolhaenmhaa
open Go.RowKit Go.Lib
attribute [local go_sem ↓] Go.wp_at_zero Go.wp_at_succ

theorem chk_each : ∀ (l : List It) (k : Nat) (st : Stk × Bool), chkR itC It.op l k st = 0 → ∀ x ∈ l, itC x = 0 := by
  intro l
  induction l with
  | nil => intro k st _ x hx; cases hx
  | cons y l ih =>
    intro k st h x hx
    have hc := chk_cons h
    rcases List.mem_cons.1 hx with rfl | hx
    · exact hc.1
    · exact ih _ _ hc.2.2 x hx
theorem it_sixteen {x : It} (h : itC x = 0) : x.tos.length ≤ 16 := by
  unfold itC chkI at h
  split at h
  · exact absurd h (by decide)
  split at h
  · exact absurd h (by decide)
  · omega
theorem body_its {l : List It} (hok : ∀ x ∈ l, ItOk x) (h : ncM l = 0) : ∀ x ∈ l, ItS x := by
  intro x hx
  refine ⟨hok x hx, it_sixteen ?_⟩
  unfold ncM at h
  split at h
  · exact absurd h (by decide)
  · exact chk_each l 0 _ h x hx
/-- a tree in memory -/
structure TreeI (w : World) (B : Nat) (l : List It) (d s : Nat) (F : Nat → Prop) (t : Value) (ps : List Nd) : Prop where
  row : RowF w F t ps
  par : PartsI w F ps
  blk : Blk w B 214 [t]
  all : cat ps ++ [endI] = l
  dd : mostD ps = d
  ss : sumS ps = s
theorem TreeI.below {w w' : World} {B : Nat} {l : List It} {d s : Nat} {F : Nat → Prop} {t : Value} {ps : List Nd} (h : TreeI w B l d s F t ps) (hb : Below w.heap.size w w') : TreeI w' B l d s F t ps :=
  ⟨h.row.keep (KN.below hb) (fun _ g => g), h.par.keep (KN.below hb) (fun _ g => g), h.blk.below hb, h.all, h.dd, h.ss⟩
set_option maxRecDepth 100000 in
set_option maxHeartbeats 2000000 in
theorem nof_bad (w : World) (v : Value) (l : List It) (hok : ∀ x ∈ l, ItOk x) (h : BodS w v l) (he : ncM l ≠ 0) :
    Calls Try.prog 69 #[v] w fun e w' => e = .returned (.tuple #[.pointer none, .int .i64 (ncM l)]) ∧ Below w.heap.size w w' := by
  have HC := hid (ncheck_any w v l hok h)
  obtain ⟨css, _, ⟨ao, cap, rfl, _⟩, _⟩ := h
  generalize ncM l = E at *
  have hn : (E != 0) = true := by simpa using he
  clear hok he
  go_enter Try.func69, Try.ntmps69
  go_wp2_with fail
  refine HC.out.mono ?_
  rintro r w1 ⟨rfl, b1⟩
  have B1 := hid b1
  clear b1
  go_wp2_with fail
  go_ret2
  exact ⟨rfl, B1.out⟩
set_option maxRecDepth 100000 in
set_option maxHeartbeats 2000000 in
theorem nof_good (w : World) (v : Value) (l : List It) (hok : ∀ x ∈ l, ItOk x) (h : BodS w v l) (he : ncM l = 0) :
    Calls Try.prog 69 #[v] w fun e w' => (∃ (B d s : Nat) (F : Nat → Prop) (t : Value) (ps : List Nd), e = .returned (.tuple #[.pointer (some ⟨B, 0, none⟩), .int .i64 0]) ∧ TreeI w' B l d s F t ps ∧ dpL l (0, 0, 0) = (-1, (d : Int), (s : Int)) ∧ (cat ps).length ≤ 200) ∧ Below w.heap.size w w' := by
  obtain ⟨hl, ys, d, s, hly, hseg⟩ := body_seg he
  have HC := hid (ncheck_any w v _ hok h)
  rw [he] at HC
  have hits := body_its hok he
  have HP := hid (show ∀ w1, Below w.heap.size w w1 → Calls Try.prog 137 #[v] w1 fun ret w' => PartP w w1 ys d s [endI] ret w' from fun w1 hb => parts_any w ys.length ys endI [] d s v w1 (Nat.le_refl _) (.inr rfl) hseg (by rw [← hly]; exact hits) (by rw [← hly]; exact h) (by rw [← hly]; exact hl) hb)
  unfold PartP at HP
  have HDP := hid (show dpL l (0, 0, 0) = (-1, (d : Int), (s : Int)) from by rw [hly]; exact body_dp hseg)
  have HLY := hid hly
  have HLN := hid (show ys.length ≤ 200 from by rw [hly] at hl; simp at hl; omega)
  obtain ⟨css, _, ⟨ao, cap, rfl, _⟩, _⟩ := h
  clear hok he hseg hl hits hly
  go_enter Try.func69, Try.ntmps69
  go_wp2_with fail
  refine HC.out.mono ?_
  rintro r w1 ⟨rfl, b1⟩
  have B1 := hid b1
  clear b1
  go_wp2_with fail
  refine (HP.out _ B1.out).mono ?_
  rintro r w2 ⟨ps, F, u, rv, rfl, hr, hp, _, hc, hm, hs, _, b2⟩
  have B2 := hid (B1.out.trans (b2.mono B1.out.size))
  obtain ⟨au, cu, rfl⟩ := hr.open
  have BA := hid ((Below.refl w2.heap.size w2).alloc (Nat.le_refl _) (.cells #[.slice au ps.length cu] 214))
  have HT := hid (show TreeI (w2.alloc (.cells #[.slice au ps.length cu] 214)) w2.heap.size l d s F (.slice au ps.length cu) ps from ⟨hr.keep (KN.below BA.out) (fun _ g => g), hp.keep (KN.below BA.out) (fun _ g => g), Blk.new w2 _ _ _ rfl, by rw [hc, HLY.out], hm, hs⟩)
  have HL := hid (show (cat ps).length ≤ 200 from by rw [hc]; exact HLN.out)
  have B3 := hid (B2.out.trans (BA.out.mono B2.out.size))
  clear hr hp hc hm hs b2
  go_wp2_with fail
  go_ret2
  exact ⟨⟨_, _, _, _, _, _, rfl, HT.out, HDP.out, HL.out⟩, B3.out⟩
end Go.Proofs.Ytomaiolhaenmhaa
/-
  INSTRUCTIONS: the reference's Read answers as the program's; SameIns at equal instructions. Conditions: lengths in the form's reach; the library's variable that strings.Contains reads holds some number.
-/
namespace Go.Proofs.Ytomaiolhaenmhaa
open Go.RowKit Go.Lib

theorem rdq_rdp {w w' : World} {t : ByteArray} {e : Ending} {op : Nat} {so : ByteArray × Int} (ho : octM (t, 0) = (op, so)) (h9 : tB op ≤ 9) (h : RdQ w t.size op (frmL (sdL (tB op)) ((0, 0, []), sayM (decide (tB op = 0)) 6 so)) e w') : RdP w t e w' := by
  unfold RdP rdI
  rw [ho]
  simp only
  have hsb : tB op = 0 → (sayM (decide (tB op = 0)) 6 so).2 ≠ 0 := fun g => by rw [g]; exact say_bad (e := 6) (by decide) so
  generalize sayM (decide (tB op = 0)) 6 so = s at *
  by_cases hb : s.2 = 0
  · have hk : 1 ≤ tB op ∧ tB op ≤ 9 := ⟨by have : tB op ≠ 0 := fun g => hsb g hb
                                           omega, h9⟩
    rw [show frmL (sdL (tB op)) ((0, 0, []), s) = besM (tB op) s from frm_bes _ hk s] at h
    simp only [if_pos hb]
    exact h
  · simp only [if_neg hb]
    obtain ⟨u, h1, h2⟩ := h
    have hk := frmL_keep (sdL (tB op)) ((0, 0, []), s) hb
    rw [hk] at h1
    simp only [if_neg hb] at h1
    exact ⟨u, h1, h2⟩
theorem sd_letters : ∀ k, k < 10 → (sdL k).length ≤ 2 ∧ ∀ c ∈ sdL k, (c = 63 ∨ c = 107 ∨ c = 97 ∨ c = 116 ∨ c = 122 ∨ c = 98 ∨ c = 99 ∨ c = 100) := by decide +kernel
theorem sd_quest : ∀ k, k < 10 → (sdL k == [63]) = decide (k = 0) := by decide +kernel
theorem rread_any (w : World) (t : ByteArray) (ht : t.size ≤ 140737488351232) (hM : MaxL w) :
    Calls Try.prog 50 #[.string t] w fun e w' => RdP w t e w' := by
  have hop := octM_lt (t, 0)
  generalize ho : octM (t, 0) = o at hop
  obtain ⟨op, so⟩ := o
  simp only at hop
  have h9 := tB_le ⟨op, hop⟩
  simp only at h9
  refine (rread_q w t ht op so hop ho (S (sdL (tB op))) ?_ ?_ (fun w' hb => rbeside_any op hop w' (hM.below hb)) _ (by rw [Go.ByteArray.toList_eq]; exact sd_quest _ (by omega)) _ rfl).mono (fun e w' h => rdq_rdp ho h9 h)
  · rw [S_size]; exact (sd_letters _ (by omega)).1
  · intro i h
    exact (sd_letters (tB op) (by omega)).2 _ (List.getElem_mem (l := sdL (tB op)) (by rw [S_size] at h; exact h))

set_option maxRecDepth 100000 in
set_option maxHeartbeats 1000000 in
theorem sameIns_any (op : Nat) (A B : Int) (v u : Value) (xs : List Int) (w : World) (hv : Ints w .i64 v xs) (hu : Ints w .i64 u xs) :
    Calls Try.prog 51 #[insV op A B v, insV op A B u] w fun e w' => e = .returned (.bool true) ∧ Below w.heap.size w w' := by
  have hb : Below w.heap.size w ((w.alloc (.cells #[.int .u8 op, .int .i64 A, .int .i64 B, v] 90)).alloc (.cells #[.int .u8 op, .int .i64 A, .int .i64 B, u] 90)) := ((Below.refl _ _).alloc (Nat.le_refl _) _).alloc (by simp) _
  have X := (Blk.new w #[.int .u8 op, .int .i64 A, .int .i64 B, v] 90 _ rfl).alloc (.cells #[.int .u8 op, .int .i64 A, .int .i64 B, u] 90)
  have Y := Blk.new (w.alloc (.cells #[.int .u8 op, .int .i64 A, .int .i64 B, v] 90)) #[.int .u8 op, .int .i64 A, .int .i64 B, u] 90 (w.heap.size + 1) (by simp)
  have HQ := hid (eq_int64 v u xs xs _ (L1.below hv hb) (L1.below hu hb))
  rw [decide_eq_true rfl] at HQ
  have HB := hid hb
  have x0 := X.cell (i := 0) rfl
  have x1 := X.cell (i := 1) rfl
  have x2 := X.cell (i := 2) rfl
  have x3 := X.cell (i := 3) rfl
  have y0 := Y.cell (i := 0) rfl
  have y1 := Y.cell (i := 1) rfl
  have y2 := Y.cell (i := 2) rfl
  have y3 := Y.cell (i := 3) rfl
  obtain ⟨ao, cap, rfl, -⟩ := id hv
  obtain ⟨ao', cap', rfl, -⟩ := id hu
  clear hv hu hb X Y
  go_enter Try.func51, Try.ntmps51
  go_wp2_with (go_at_call 116; refine HQ.out.mono ?_; rintro r w1 ⟨rfl, rfl⟩)
  go_ret
  exact ⟨rfl, HB.out⟩
end Go.Proofs.Ytomaiolhaenmhaa
/-
  BODIES: SameBody at two readings of the same instructions. No condition.
-/
namespace Go.Proofs.Ytomaiolhaenmhaa
open Go.RowKit Go.Lib

theorem ItAt.len {w : World} {cs : List Value} {x : It} (h : ItAt w cs x) : cs.length = 4 := by
  obtain ⟨u, e, _⟩ := h
  rw [e]; rfl
set_option maxRecDepth 100000 in
set_option maxHeartbeats 1000000 in
theorem sameBody_any (w : World) (va vb : Value) (l : List It) (ha : BodS w va l) (hb : BodS w vb l) :
    Calls Try.prog 68 #[va, vb] w fun e w' => e = .returned (.bool true) ∧ Below w.heap.size w w' := by
  obtain ⟨ca, ea, sa, ia⟩ := ha
  obtain ⟨cb, eb, sb, ib⟩ := hb
  have HS := hid (sameAll_SaI w va vb ca cb (by omega) (fun c hc => by
      obtain ⟨i, hi, rfl⟩ := List.getElem_of_mem hc
      exact (ia i hi (by omega)).len) (fun c hc => by
      obtain ⟨i, hi, rfl⟩ := List.getElem_of_mem hc
      exact (ib i hi (by omega)).len) (by rw [ea]; exact sa) (by rw [eb]; exact sb) (fun i h1 h2 w' hbw => by
      obtain ⟨u, e1, t1⟩ := ia i h1 (by omega)
      obtain ⟨u', e2, t2⟩ := ib i h2 (by omega)
      rw [e1, e2]
      exact sameIns_any l[i].op l[i].A l[i].B u u' l[i].tos w' (L1.below t1 hbw) (L1.below t2 hbw)))
  obtain ⟨ao, cap, rfl, -⟩ := sa
  obtain ⟨ao', cap', rfl, -⟩ := sb
  clear ia ib ea eb
  go_enter Try.func68, Try.ntmps68
  go_wp2_with fail
  refine HS.out.mono ?_
  rintro r w1 ⟨rfl, g1⟩
  have HB := hid g1
  clear g1
  go_wp2_with fail
  go_ret
  exact ⟨rfl, HB.out⟩
end Go.Proofs.Ytomaiolhaenmhaa
/-
  BODIES AMONG THE ARGUMENTS OF A LAW: how they read. No condition.
-/
namespace Go.Proofs.Ytomaiolhaenmhaa
open Go.RowKit Go.Lib

theorem i64s_ofN {W : World} {v : Value} {zs : List Int} (h : sliceR W 1 8 (intR .i64) [v] zs) : Ints W .i64 v zs := by
  have hf := slice_flat (fun z => [Value.int .i64 z]) (fun z => -9223372036854775808 ≤ z ∧ z ≤ 9223372036854775807) (fun cs z h => by
    obtain ⟨rfl, w⟩ := h
    exact ⟨rfl, wf_i64 w⟩) h
  have h1 : Sl W v zs.length (zs.flatMap fun z => [Value.int .i64 z]) := hf.1
  have e : (zs.flatMap fun z => [Value.int .i64 z]) = zs.map (Value.int .i64) := by
    clear h hf h1
    induction zs with
    | nil => rfl
    | cons z r ih => rw [List.flatMap_cons, ih]; rfl
  rw [e] at h1
  exact h1
def itOf (y : D_api_Ins) : It := ⟨y.1.toNat, y.2.1, y.2.2.1, y.2.2.2.1⟩
theorem body_of {W : World} {v : Value} {ys : List D_api_Ins} (h : R_s_api_Ins W [v] ys) : BodS W v (ys.map itOf) ∧ ∀ x ∈ ys.map itOf, ItOk x := by
  obtain ⟨v', css, hv, hsl, hl, hb, hel⟩ := h
  simp only [List.cons.injEq, and_true] at hv
  subst hv
  have key : ∀ i (h1 : i < css.length) (h2 : i < ys.length), ItAt W css[i] (itOf ys[i]) ∧ ItOk (itOf ys[i]) := by
    intro i h1 h2
    obtain ⟨_, hr⟩ := hel i h1 h2
    generalize css[i] = cs at *
    generalize ys[i] = y at *
    obtain ⟨op, A, B, xs, u⟩ := y
    obtain ⟨_, _, rfl, ⟨rfl, w0⟩, _, _, rfl, ⟨rfl, w1⟩, _, _, rfl, ⟨rfl, w2⟩, c3, _, rfl, hs, rfl⟩ := hr
    have hs2 := hs
    obtain ⟨v2, _, rfl, _⟩ := hs
    have h0 : 0 ≤ op ∧ op < 256 := by simp [Lit.wf, IntKind.min, IntKind.max, IntKind.signed, IntKind.bits] at w0; omega
    obtain ⟨n, rfl⟩ := Int.eq_ofNat_of_zero_le h0.1
    exact ⟨⟨v2, rfl, i64s_ofN hs2⟩, by show ((n : Int).toNat : Nat) < 256; rw [Int.toNat_natCast]; omega, wf_i64 w1⟩
  refine ⟨⟨css, by rw [List.length_map]; exact hl, by rw [List.length_map]; exact hsl, fun i h1 h2 => ?_⟩, ?_⟩
  · rw [List.getElem_map]
    exact (key i h1 (by simpa using h2)).1
  · intro x hx
    obtain ⟨y, hy, rfl⟩ := List.mem_map.1 hx
    obtain ⟨i, hi, rfl⟩ := List.getElem_of_mem hy
    exact (key i (by omega) hi).2
end Go.Proofs.Ytomaiolhaenmhaa
/-
  THE LAW NestTrees: Of, Flat, Deep and Size of bodies are the reference's. Condition: the library's variable that strings.Contains reads holds some number.
-/
namespace Go.Proofs.Ytomaiolhaenmhaa
open Go.RowKit Go.Lib

set_option maxRecDepth 100000 in
set_option maxHeartbeats 4000000 in
theorem law_NestTrees (v0 : Value) (x0 : D_s_api_Ins) (W : World) (i0 : R_s_api_Ins W [v0] x0) (hM : MaxL W) :
    Calls Try.prog 12 #[v0] W fun e w' => e = .returned (.bool true) ∧ Below W.heap.size W w' := by
  obtain ⟨hb, hok⟩ := body_of i0
  clear i0
  generalize x0.map itOf = l at *
  have C2 := hid (fun w' (h : Below W.heap.size W w') => rncheck_any w' v0 l hok (hb.below h) (hM.below h))
  have HBD := hid hb
  by_cases he : ncM l = 0
  · have C1 := hid (nof_good W v0 l hok hb he)
    have hl := (body_seg he).1
    have C3 := hid (fun w' (h : Below W.heap.size W w') => rndeep_any w' v0 l (hb.below h) hl)
    rw [he] at C2
    obtain ⟨css, _, ⟨ao, cap, rfl, _⟩, _⟩ := hb
    clear hok hM he hl
    go_enter Try.func12, Try.ntmps12
    go_wp2_with fail
    refine C1.out.mono ?_
    rintro e w1 ⟨⟨B, d, s, F, t, ps, rfl, ht, hd, hc⟩, b1⟩
    have T1 := hid ht
    have B1 := hid b1
    rw [hd] at C3
    simp only at C3
    have HL := hid (show (cat ps).length ≤ 900 by omega)
    clear ht b1 hd hc
    go_wp2_with fail
    refine (C2.out _ B1.out).mono ?_
    rintro e w2 ⟨rfl, b2⟩
    have T2 := hid (T1.out.below b2)
    have B2 := hid (B1.out.trans (b2.mono B1.out.size))
    clear b2
    go_wp2_with fail
    refine (C3.out _ B2.out).mono ?_
    rintro e w3 ⟨rfl, b3⟩
    have T3 := hid (T2.out.below b3)
    have B3 := hid (B2.out.trans (b3.mono B2.out.size))
    have F3 := hid (flat_tree w3 F t ps T3.out.row T3.out.par B T3.out.blk HL.out)
    rw [T3.out.all] at F3
    have D3 := hid (fun w' h => deep_tree w3 F t ps T3.out.row T3.out.par B T3.out.blk HL.out w' h)
    have S3 := hid (fun w' h => size_tree w3 F t ps T3.out.row T3.out.par B T3.out.blk HL.out w' h)
    rw [T3.out.dd] at D3
    rw [T3.out.ss] at S3
    clear b3
    have hdd : ((d : Int) == (d : Int)) = true := by simp
    have hss : ((s : Int) == (s : Int)) = true := by simp
    go_wp2_with fail
    refine F3.out.mono ?_
    rintro e w4 ⟨lv, rfl, o4, b4⟩
    have B4 := hid b4
    have BW4 := hid (B3.out.trans (b4.mono B3.out.size))
    have HS := hid (sameBody_any w4 lv _ l o4.bod (HBD.out.below BW4.out))
    clear o4 b4
    go_wp2_with fail
    refine HS.out.mono ?_
    rintro e w5 ⟨rfl, b5⟩
    have B5 := hid (B4.out.trans (b5.mono B4.out.size))
    have BW5 := hid (BW4.out.trans (b5.mono BW4.out.size))
    clear b5
    go_wp2_with fail
    refine (D3.out _ B5.out).mono ?_
    rintro e w6 ⟨rfl, b6⟩
    have B6 := hid (B5.out.trans (b6.mono B5.out.size))
    have BW6 := hid (BW5.out.trans (b6.mono BW5.out.size))
    clear b6
    go_wp2_with fail
    refine (S3.out _ B6.out).mono ?_
    rintro e w7 ⟨rfl, b7⟩
    have BW7 := hid (BW6.out.trans (b7.mono BW6.out.size))
    clear b7
    go_wp2_with fail
    go_ret
    exact ⟨rfl, BW7.out⟩
  · have C1 := hid (nof_bad W v0 l hok hb he)
    obtain ⟨css, _, ⟨ao, cap, rfl, _⟩, _⟩ := hb
    generalize ncM l = E at *
    have hn : (E != 0) = true := by simpa using he
    have hq : (E == E) = true := by simp
    clear hok hM he
    go_enter Try.func12, Try.ntmps12
    go_wp2_with fail
    refine C1.out.mono ?_
    rintro e w1 ⟨rfl, b1⟩
    have B1 := hid b1
    clear b1
    go_wp2_with fail
    refine (C2.out _ B1.out).mono ?_
    rintro e w2 ⟨rfl, b2⟩
    have B2 := hid (B1.out.trans (b2.mono B1.out.size))
    clear b2
    go_wp2_with fail
    go_ret
    exact ⟨rfl, B2.out⟩
end Go.Proofs.Ytomaiolhaenmhaa
