/-
  MODULES READ, the reference's BinRead. Conditions: lengths in the form's reach; the library's one variable holds some number. Printed by a program of mine.
-/
import Derived.Test.YtakfineljffoaaaGreatDoorGBinReads44
namespace Go.Proofs.YtakfineljffoaaaGreatDoor
open Go.RowKit Go.Lib

theorem magic_at (k : Nat) (h : k < mgL.length) (h' : k < (ByteArray.mk #[0, 97, 115, 109, 1, 0, 0, 0]).size) : wrap64 (((ByteArray.mk #[0, 97, 115, 109, 1, 0, 0, 0])[k]'h').toNat : Int) = mgL[k]'h := by
  have e : ∀ n : Nat, n < 256 → wrap64 (n : Int) = n := by
    intro n h
    unfold wrap64
    omega
  rw [e _ (UInt8.toNat_lt _)]
  have h8 : k < 8 := h
  have hk : k = 0 ∨ k = 1 ∨ k = 2 ∨ k = 3 ∨ k = 4 ∨ k = 5 ∨ k = 6 ∨ k = 7 := by omega
  rcases hk with rfl | rfl | rfl | rfl | rfl | rfl | rfl | rfl <;> rfl
theorem oct_shrink {s : SB} (h : s.2 = 0) (h2 : s.1.size ≠ 0) : (octM s).2.1.size < s.1.size := by
  unfold octM
  rw [if_neg (fun g => g h), dif_pos (by omega)]
  simp only [ByteArray.size_extract]
  omega
set_option maxRecDepth 100000 in
theorem enter_read1 (args : Array Value) (wx : World) : (callFunc 23 args).run Tryz.prog wx = .ok (.enter 23 args) wx := by
  first | kernel_rfl | simp [go_sem]
set_option maxRecDepth 100000 in
theorem bread_results (W : World) (R : Nat) (c0 c1 c2 c3 c4 c5 c6 c7 c8 c9 c10 : Value) (e : Value) (tmps : Array Value) (h2 : tmps.getD 2 undef = .pointer (some ⟨R, 0, none⟩)) (h3 : tmps.getD 3 undef = e) (HM : Blk W R 30 [c0, c1, c2, c3, c4, c5, c6, c7, c8, c9, c10]) :
    (results Tryz.f6 tmps).run Tryz.prog W = .ok (.tuple #[.agg #[c0, c1, c2, c3, c4, c5, c6, c7, c8, c9, c10], e]) W := by
  have y0 := HM.cell (i := 0) rfl
  have y1 := HM.cell (i := 1) rfl
  have y2 := HM.cell (i := 2) rfl
  have y3 := HM.cell (i := 3) rfl
  have y4 := HM.cell (i := 4) rfl
  have y5 := HM.cell (i := 5) rfl
  have y6 := HM.cell (i := 6) rfl
  have y7 := HM.cell (i := 7) rfl
  have y8 := HM.cell (i := 8) rfl
  have y9 := HM.cell (i := 9) rfl
  have y10 := HM.cell (i := 10) rfl
  simp only [Array.getD_eq_getD_getElem?] at h2 h3
  simp [results, Tryz.results6, go_sem, h2, h3, y0, y1, y2, y3, y4, y5, y6, y7, y8, y9, y10]
abbrev mZ : Obj := .cells #[.slice none 0 0, .slice none 0 0, .slice none 0 0, .int .i64 0, .int .i64 0, .int .i64 0, .slice none 0 0, .slice none 0 0, .int .i64 0, .slice none 0 0, .slice none 0 0] 30
abbrev kZ : Obj := .cells #[.slice none 0 0] 24
abbrev nL : Value := .slice none 0 0
theorem rq_init (w : World) : RQ (((w.alloc mZ).alloc mZ).alloc kZ) (w.heap.size + 3) (w.heap.size + 1) (w.heap.size + 2) w.heap.size nL nL nL nL nL nL nL nL Mdl.zero [] := by
  refine ⟨⟨(Blk.new _ _ _ _ (by simp)).alloc _, OwR.nil _ _ _ _ _, OwR.nil _ _ _ _ _, OwR.nil _ _ _ _ _, OwR.nil _ _ _ _ _, OwR.nil _ _ _ _ _, OwR.nil _ _ _ _ _, OwR.nil _ _ _ _ _⟩, Blk.new _ _ _ _ (by simp), OwR.nil _ _ _ _ _, Sep.nil_left _, ((Blk.new w _ _ _ rfl).alloc _).alloc _, by simp⟩
theorem flat_get3 : ∀ (css : List (List Value)) (j i : Nat) (hj : j < css.length), (∀ c ∈ css, c.length = 3) → i < 3 → css.flatten[j * 3 + i]? = css[j][i]? := by
  intro css
  induction css with
  | nil => intro j i hj; simp at hj
  | cons d css ih =>
    intro j i hj h3 hi
    have hd : d.length = 3 := h3 d (by simp)
    rw [List.flatten_cons]
    cases j with
    | zero =>
      rw [List.getElem?_append_left (by omega)]
      simp
    | succ j =>
      rw [List.getElem?_append_right (by omega), hd, show (j + 1) * 3 + i - 3 = j * 3 + i by omega, ih j i (by simpa using hj) (fun c h => h3 c (by simp [h])) hi]
      rfl
/-- a code in memory -/
theorem RQ.code {w : World} {H M K R : Nat} {vt vi vf vg vx ve vd kv : Value} {m : Mdl} {cs : List Cd} (h : RQ w H M K R vt vi vf vg vx ve vd kv m cs) (j : Nat) (hj : j < cs.length) :
    ∃ kg kc au cu av cv, kv = .slice (some ⟨kg, 0, none⟩) cs.length kc ∧ w.cell? ⟨kg, j * 3, none⟩ = some (.int .i64 0) ∧ w.cell? ⟨kg, j * 3 + 1, none⟩ = some (.slice au cs[j].1.length cu) ∧ w.cell? ⟨kg, j * 3 + 2, none⟩ = some (.slice av cs[j].2.length cv) ∧
      OwnI w H .u8 68 (.slice au cs[j].1.length cu) cs[j].1 ∧ OwnB w H (.slice av cs[j].2.length cv) cs[j].2 := by
  obtain ⟨css, ⟨h1, h2⟩, h3⟩ := h.kr
  have hfl : (fnC cs).length = cs.length := by unfold fnC; rw [List.length_map]
  have hE := h2 j (by omega) (by omega)
  have hx : (fnC cs)[j]'(by omega) = (0, cs[j].1, cs[j].2) := by unfold fnC; simp
  rw [hx] at hE
  obtain ⟨u, v, hc, hu, hv⟩ := hE
  obtain ⟨au, cu, rfl, _⟩ := own_sl hu
  obtain ⟨cssv, -, hv2⟩ := id hv
  obtain ⟨av, cv, rfl, _⟩ := own_sl hv2
  have hall : ∀ c ∈ css, c.length = 3 := fun c hcm => by obtain ⟨i, hi, rfl⟩ := List.getElem_of_mem hcm; exact efn_len (h2 i hi (by omega))
  obtain ⟨g1, g2⟩ := h3
  rcases g2 with ⟨_, g3⟩ | ⟨g, cap, cur, e, _, hh, hn, _, hs, ht⟩
  · omega
  have hb : Blk w g 66 cur.toList := by unfold Blk; simpa using hh
  have hat : ∀ i (hi : i < 3), w.cell? ⟨g, j * 3 + i, none⟩ = css[j][i]? := fun i hi => by
    have h5 : j * 3 + i < (fnC cs).length * 3 := by omega
    have h6 : cur.toList[j * 3 + i]? = css.flatten[j * 3 + i]? := by
      rw [← ht, List.getElem?_take_of_lt h5]
    rw [flat_get3 css j i (by omega) hall hi] at h6
    rw [hc] at h6 ⊢
    have h7 : j * 3 + i < cur.toList.length := by
      have : (fnC cs).length * 3 ≤ cap * 3 := Nat.mul_le_mul_right _ hn
      simp only [Array.length_toList]
      omega
    rw [List.getElem?_eq_getElem h7] at h6
    rw [← h6]
    exact hb.cell (List.getElem?_eq_getElem h7)
  rw [hfl] at e
  refine ⟨g, cap, au, cu, av, cv, e, ?_, ?_, ?_, hu, hv⟩
  · rw [show j * 3 = j * 3 + 0 by omega, hat 0 (by omega), hc]; rfl
  · rw [hat 1 (by omega), hc]; rfl
  · rw [hat 2 (by omega), hc]; rfl
theorem RQ.putF {w : World} {H M K R : Nat} {vt vi vf vg vx ve vd kv : Value} {m : Mdl} {cs : List Cd} (h : RQ w H M K R vt vi vf vg vx ve vd kv m cs) (i : Nat) (hi : i < m.funcs.length) (u v : Value) (xs : List Int) (l : List It) (hu : OwnI w H .u8 68 u xs) (hv : OwnB w H v l) :
    ∃ g cap, vf = .slice (some ⟨g, 0, none⟩) m.funcs.length cap ∧ H ≤ g ∧ (∃ y, w.cell? ⟨g, i * 3 + 1, none⟩ = some y) ∧ w.frozen? ⟨g, i * 3 + 1, none⟩ = false ∧ (∃ y, (w.setCell ⟨g, i * 3 + 1, none⟩ u).cell? ⟨g, i * 3 + 2, none⟩ = some y) ∧ (w.setCell ⟨g, i * 3 + 1, none⟩ u).frozen? ⟨g, i * 3 + 2, none⟩ = false ∧
      Touch (fun k => k = g) w ((w.setCell ⟨g, i * 3 + 1, none⟩ u).setCell ⟨g, i * 3 + 2, none⟩ v) ∧ g < w.heap.size ∧ RQ ((w.setCell ⟨g, i * 3 + 1, none⟩ u).setCell ⟨g, i * 3 + 2, none⟩ v) H M K R vt vi vf vg vx ve vd kv { m with funcs := m.funcs.set i (m.funcs[i].1, xs, l) } cs := by
  obtain ⟨g, cap, rfl, hHg, y1, f1, y2, f2, k, hm⟩ := h.mo.putF i hi u v xs l hu hv
  have ht : Touch (fun k => k = g) w ((w.setCell ⟨g, i * 3 + 1, none⟩ u).setCell ⟨g, i * 3 + 2, none⟩ v) := (Touch.setCell (F := fun k => k = g) (a := ⟨g, i * 3 + 1, none⟩) rfl u).trans (Touch.setCell (F := fun k => k = g) (a := ⟨g, i * 3 + 2, none⟩) rfl v)
  have hin : Inn 66 := by constructor <;> rfl
  obtain ⟨cssf, -, h3⟩ := h.mo.f
  have hg := (World.ownsRow.lt h3 g rfl).2
  obtain ⟨css, ⟨g1, g2⟩, g3⟩ := h.kr
  refine ⟨g, cap, rfl, hHg, y1, f1, y2, f2, ht, hg, hm, k.blk h.kb rfl, ⟨css, ⟨g1, fun a b c => EFn.kt k hin _ _ (g2 a b c)⟩, own_touch g3 ht (fun k hk e => h.sp k hk (by rw [e]; rfl))⟩, h.sp, k.blk h.r0 rfl, Nat.le_trans h.hH ht.size⟩
theorem say_zero {is : Bool} {e : Int} {s : SB} (he : e ≠ 0) (h : (sayM is e s).2 = 0) : is = false ∧ s.2 = 0 := by
  unfold sayM at h
  split at h
  · exact absurd h he
  · rename_i hc
    refine ⟨?_, h⟩
    cases is with
    | false => rfl
    | true => exact absurd ⟨rfl, h⟩ hc
theorem with_cl {id : Nat} (x : MC) (s : SB) : (withM (secM id x) x s).1.2.length ≤ x.2.length + 16 := by
  unfold withM
  split
  · simp only; omega
  · exact sec_cl x _
set_option maxRecDepth 100000 in
set_option maxHeartbeats 2000000 in
/-- a section read by itself -/
theorem within_read (W w : World) (hM : MaxL W) (hb : Below W.heap.size W w) (C : Nat) (all : Int) (s : SB) (h : CuB w C all s) (hs : okSc s) (vt vi vf vg vx ve vd kv : Value) (m : Mdl) (cs : List Cd) (hq : RQ w (W.heap.size + 4) (W.heap.size + 1) (W.heap.size + 2) W.heap.size vt vi vf vg vx ve vd kv m cs) (hsm : Small m 1000) (hcl : cs.length ≤ 1000) (id : Nat) (h1 : 1 ≤ id) (h2 : id ≤ 11) (I : Nat) (hIC : C < I) (hI : Blk w I 3 [.int .i64 (id : Int)]) (hH : W.heap.size + 4 ≤ w.heap.size) (hC : C = W.heap.size + 3) :
    Calls Tryz.prog 22 #[.pointer (some ⟨C, 0, none⟩), .func (.func 23) #[] #[.pointer (some ⟨I, 0, none⟩), .pointer (some ⟨W.heap.size + 1, 0, none⟩), .pointer (some ⟨W.heap.size + 2, 0, none⟩)]] w fun e w' => e = .returned (.tuple #[]) ∧ CuB w' C all (withM (secM id (m, cs)) (m, cs) s).2 ∧ (∃ vt vi vf vg vx ve vd kv, RQ w' (W.heap.size + 4) (W.heap.size + 1) (W.heap.size + 2) W.heap.size vt vi vf vg vx ve vd kv (withM (secM id (m, cs)) (m, cs) s).1.1 (withM (secM id (m, cs)) (m, cs) s).1.2) ∧ Below W.heap.size w w' := by
  refine (cwithin_any (α := MC) w C all s 23 _ (secM id (m, cs)) (m, cs) (FK (W.heap.size + 1) (W.heap.size + 2) (W.heap.size + 4))
    (fun wx => RQ wx (W.heap.size + 4) (W.heap.size + 1) (W.heap.size + 2) W.heap.size vt vi vf vg vx ve vd kv m cs ∧ Blk wx I 3 [.int .i64 (id : Int)])
    (fun p wx => ∃ vt vi vf vg vx ve vd kv, RQ wx (W.heap.size + 4) (W.heap.size + 1) (W.heap.size + 2) W.heap.size vt vi vf vg vx ve vd kv (secM id (m, cs) (p, 0)).1.1 (secM id (m, cs) (p, 0)).1.2)
    enter_read1 h hs (fun e => by rcases e with e | e | e <;> omega) (sec_le id (m, cs)) ⟨hq, hI⟩
    (fun wa wb k g => ⟨g.1.kt k noM_cu rfl, k.blk g.2 rfl⟩)
    (fun p wa wb k g => by
      obtain ⟨a1, a2, a3, a4, a5, a6, a7, a8, g⟩ := g
      exact ⟨a1, a2, a3, a4, a5, a6, a7, a8, g.kt k noM_cu rfl⟩)
    (fun wx D p hD hDB hps g ht hcu => by
      have hbx : Below W.heap.size W wx := hb.trans (ht.below hb.size (fun j hj => by omega))
      refine (cread1_any W wx hM hbx (W.heap.size + 4) (W.heap.size + 1) (W.heap.size + 2) D (by omega) (by omega) p.size (p, 0) vt vi vf vg vx ve vd kv m cs (g.1.rs hcu (by omega) (by omega) (by omega) (by omega)) (Nat.le_trans hps hs) hsm hcl id h1 h2 I (g.2.cell (i := 0) rfl)).mono ?_
      rintro e w' ⟨rfl, b1, b2, b3, b4, b5, b6, b7, b8, hr⟩
      exact ⟨rfl, hr.cu, ⟨b1, b2, b3, b4, b5, b6, b7, b8, hr.rq g.1.r0 (by omega) (by omega) (by omega)⟩, hr.tt.mono (fun _ _ e => .inr e)⟩)).mono ?_
  rintro e w' ⟨rfl, hc, hor, ht⟩
  refine ⟨rfl, hc, ?_, ht.below hb.size (fun j hj => by rcases hj with hj | hj | hj | hj <;> omega)⟩
  rcases hor with ⟨hz, g, -⟩ | ⟨hz, b1, b2, b3, b4, b5, b6, b7, b8, g⟩
  · rw [with_bad hz]
    exact ⟨vt, vi, vf, vg, vx, ve, vd, kv, g⟩
  · rw [with_fst hz]
    exact ⟨b1, b2, b3, b4, b5, b6, b7, b8, g⟩
theorem RQ.up {w : World} {H H' M K R : Nat} (h : RQ w H M K R nL nL nL nL nL nL nL nL Mdl.zero []) (hH : H' ≤ w.heap.size) : RQ w H' M K R nL nL nL nL nL nL nL nL Mdl.zero [] :=
  ⟨⟨h.mo.blk, OwR.nil _ _ _ _ _, OwR.nil _ _ _ _ _, OwR.nil _ _ _ _ _, OwR.nil _ _ _ _ _, OwR.nil _ _ _ _ _, OwR.nil _ _ _ _ _, OwR.nil _ _ _ _ _⟩, h.kb, OwR.nil _ _ _ _ _, h.sp, h.r0, hH⟩
set_option maxRecDepth 100000 in
set_option maxHeartbeats 8000000 in
theorem rbread_any (w : World) (t : ByteArray) (hs : t.size ≤ 140737488351232) (hM : MaxL w) :
    Calls Tryz.prog 6 #[.string t] w (PRd (readMd t) w) := by
  have hmf : ∀ (fn : Go.Fn) (first cap : Array Value) (w : World), (Instr.makeFunc fn first cap).run Tryz.prog w = .ok (.func fn first cap) w := fun _ _ _ _ => rfl
  by_cases hbig : 4096 < t.size
  · have hP := hid (show readMd t = (Mdl.zero, 2) from if_pos hbig)
    have hb2 : (4096 : Int) < (t.size : Int) := by omega
    unfold PRd
    rw [hP.out]
    clear hM
    go_enter Tryz.func6, Tryz.ntmps6
    go_wp2_with fail
    have HM := Blk.new w #[.slice none 0 0, .slice none 0 0, .slice none 0 0, .int .i64 0, .int .i64 0, .int .i64 0, .slice none 0 0, .slice none 0 0, .int .i64 0, .slice none 0 0, .slice none 0 0] 30 _ rfl
    refine bodyPost_ret (bread_results _ w.heap.size _ _ _ _ _ _ _ _ _ _ _ (.int .i64 2) _ (by rfl) (by rfl) HM) rfl ?_
    exact ⟨(Below.refl _ _).alloc (Nat.le_refl _) _, w.heap.size, _, _, _, _, _, _, _, Nat.le_refl _, rfl, MV.zero _ _⟩
  · have HP := hid (show readMd t = allA (mgcL (mgL.drop 0) (t, 0)) from (if_neg hbig).trans (by rfl))
    have hb2 : ¬ (4096 : Int) < (t.size : Int) := by omega
    have hst : t.size ≤ 4096 := by omega
    obtain ⟨P, hP⟩ : ∃ P, readMd t = P := ⟨_, rfl⟩
    rw [hP] at HP ⊢
    clear hP
    have HML := hid hM
    have Q0 := hid (rq_init w)
    have B0 := hid (show Below w.heap.size w (((w.alloc mZ).alloc mZ).alloc kZ) from (((Below.refl _ _).alloc (Nat.le_refl _) _).alloc (by simp) _).alloc (by simp; omega) _)
    clear hM hbig hs
    go_enter Tryz.func6, Tryz.ntmps6
    go_wp2_with fail
    have hz3 : (((w.alloc mZ).alloc mZ).alloc kZ).heap.size = w.heap.size + 3 := by simp
    refine (cover_any _ _).mono ?_
    rintro r w1 ⟨rfl, h1, b1⟩
    rw [hz3] at h1
    have C1 := hid h1
    have Q1 := hid (Q0.out.below b1)
    have B1 := hid (B0.out.trans (b1.mono (by simp; omega)))
    have hlt1 := h1.lt
    rw [hz3]
    clear h1 b1 Q0 B0 hz3
    have S1 := hid (show okSc (t, 0) from by unfold okSc; simp only; omega)
    have Q1 := hid (Q1.out.up (H' := w.heap.size + 4) (by omega))
    go_wp2_with fail
    go_loopw [18] (fun i wr => ∃ (k : Nat) (sz : SB), k ≤ 8 ∧ i = .int .i64 k ∧ Hid (okSc sz) ∧ Hid (P = allA (mgcL (mgL.drop k) sz)) ∧ Hid (CuB wr (w.heap.size + 3) t.size sz) ∧ Hid (RQ wr (w.heap.size + 4) (w.heap.size + 1) (w.heap.size + 2) w.heap.size nL nL nL nL nL nL nL nL Mdl.zero []) ∧ Hid (Below w.heap.size w wr)) (fun i _ => 8 - (RowKit.intOf i).toNat)
    case atStart => exact ⟨0, (t, 0), Nat.zero_le _, rfl, S1, HP, C1, Q1, B1⟩
    case round =>
      clear C1 Q1 B1 S1 HP hlt1
      obtain ⟨k, s2, hk, rfl, S2, HP2, C2, Q2, B2⟩ := hrel
      by_cases hlt : k < 8
      · obtain ⟨b, hb⟩ : ∃ b, mgL[k]'hlt = b := ⟨_, rfl⟩
        have HP3 := hid (show P = allA (mgcL (mgL.drop (k + 1)) (mustM b 4 s2)) from HP2.out.trans (by rw [mgcL_go hlt, hb]))
        go_wp2_with fail
        rw [magic_at k hlt, hb]
        clear hb
        refine (cmust_any _ _ _ s2 b 4 C2.out S2.out).mono ?_
        rintro r w3 ⟨rfl, h3, t3⟩
        have S3 := hid (S2.out.le (mst_le b 4 s2))
        have C3 := hid h3
        have Q3 := hid (Q2.out.kt (KT.touch C2.out t3) noM_cu rfl)
        have B3 := hid (B2.out.trans (t3.below B2.out.size (fun j hj => by omega)))
        clear h3 t3
        go_wp2_with fail
        go_roundw
        case rel => exact ⟨k + 1, _, hlt, by go_num, S3, HP3, C3, Q3, B3⟩
        case measure => simp [RowKit.intOf]; omega
      have HP3 := hid (show P = allB (TG 12 0 ((Mdl.zero, []), s2)) from HP2.out.trans (by rw [show k = 8 by omega]; rfl))
      clear HP2 hk
      go_wp2_with fail
      clear hlt
      go_loopw [8] (fun i wr => ∃ (f last : Nat) (vt vi vf vg vx ve vd kv : Value) (mm : Mdl) (cc : List Cd) (sz : SB), i = .int .i64 (last : Int) ∧ f ≤ 12 ∧ Hid (sz.2 = 0 → last ≤ 11 ∧ 12 ≤ f + last) ∧ Hid (cc.length ≤ 16 * (12 - f)) ∧ Hid (Small mm (16 * (12 - f))) ∧ Hid (okSc sz) ∧ Hid (P = allB (TG f last ((mm, cc), sz))) ∧ Hid (CuB wr (w.heap.size + 3) t.size sz) ∧ Hid (RQ wr (w.heap.size + 4) (w.heap.size + 1) (w.heap.size + 2) w.heap.size vt vi vf vg vx ve vd kv mm cc) ∧ Hid (Below w.heap.size w wr)) (fun _ wr => lenAt wr (w.heap.size + 3))
      case atStart => exact ⟨12, 0, nL, nL, nL, nL, nL, nL, nL, nL, Mdl.zero, [], s2, rfl, Nat.le_refl _, hid (fun _ => ⟨by omega, by omega⟩), hid (Nat.zero_le _), hid ⟨Nat.zero_le _, Nat.zero_le _, Nat.zero_le _, Nat.zero_le _, Nat.zero_le _, Nat.zero_le _, Nat.zero_le _⟩, S2, HP3, C2, Q2, B2⟩
      case round =>
        clear C2 Q2 B2 S2 HP3
        obtain ⟨f, last, vt, vi, vf, vg, vx, ve, vd, kv, mm, cc, s3, rfl, hf, HL, HCL, HSM, S3, HP3, C3, Q3, B3⟩ := hrel
        have y0 := C3.out.cell (i := 0) rfl
        have y2 := C3.out.cell (i := 2) rfl
        by_cases hgo : s3.2 = 0 ∧ s3.1.size ≠ 0
        · obtain ⟨hz, hn⟩ := hgo
          have hz2 : (s3.2 == 0) = true := by simpa using hz
          have hn2 : (!s3.1.toList.isEmpty) = true := by rw [empty_size]; exact decide_eq_true hn
          obtain ⟨hl11, hfl⟩ := HL.out hz
          obtain ⟨f, rfl⟩ : ∃ f', f = f' + 1 := ⟨f - 1, by omega⟩
          have HP4 := hid (show P = allB (topA f last (mm, cc) (octM s3).1 (octM s3).2) from HP3.out.trans (by unfold TG; rw [top_go (by simp only; intro g; rcases g with g | g; exact g hz; exact hn g)]))
          have HSH := hid (oct_shrink hz hn)
          have HLA := hid (lenAt_cu C3.out)
          clear hz hn
          go_wp2_with fail
          refine (coctet_any _ _ _ s3 C3.out S3.out).mono ?_
          rintro r w4 ⟨hr, h4, t4⟩
          have hle4 := octM_size s3
          obtain ⟨v, s4, hv4⟩ : ∃ vz sz, octM s3 = (vz, sz) := ⟨_, _, rfl⟩
          have HP5 := hid (show P = allB (topA f last (mm, cc) v s4) from HP4.out.trans (by rw [hv4]))
          rw [hv4] at hr h4 hle4 HSH
          subst hr
          have Q4 := hid (Q3.out.kt (KT.touch C3.out t4) noM_cu rfl)
          have B4 := hid (B3.out.trans (t4.below B3.out.size (fun j hj => by omega)))
          have S4 := hid (S3.out.le hle4)
          have hI := h4.lt
          have hIw := B4.out.size
          have C5 := hid (h4.alloc (.cells #[.int .i64 (v : Int)] 3))
          have Q5 := hid (Q4.out.below ((Below.refl w4.heap.size w4).alloc (Nat.le_refl _) (.cells #[.int .i64 (v : Int)] 3)))
          have B5 := hid (B4.out.alloc B4.out.size (.cells #[.int .i64 (v : Int)] 3))
          have I5 := hid (Blk.new w4 #[.int .i64 (v : Int)] 3 _ rfl)
          have i5 := I5.out.cell (i := 0) rfl
          have hHI := Q4.out.hH
          clear h4 t4 hv4 hle4 y0 y2 hz2 hn2 HP4 HP3
          by_cases hv0 : v = 0
          · subst hv0
            go_wp2_with fail
            generalize w4.heap.size = I at *
            clear hI
            refine (csay_as _ _ _ s4 _ (decide (0 = 0 ∨ 11 < 0)) 6 C5.out (by first | rfl | (rw [Bool.eq_iff_iff]; simp <;> omega))).mono ?_
            rintro r w6 ⟨rfl, h6, t6⟩
            obtain ⟨s6, hs6⟩ : ∃ z, sayM (decide (0 = 0 ∨ 11 < 0)) 6 s4 = z := ⟨_, rfl⟩
            have HP6 := hid (show P = allB (topB f 0 (mm, cc) (sayM (decide (0 ≤ last)) 4 s6)) from HP5.out.trans (by unfold topA; rw [hs6]))
            have HZ6 := hid (fun g : s6.2 = 0 => say_zero (is := decide (0 = 0 ∨ 11 < 0)) (e := 6) (s := s4) (by decide) (by rw [hs6]; exact g))
            have HE6 := hid (show s6.1 = s4.1 from by rw [← hs6]; exact say_fst _ _ _)
            rw [hs6] at h6
            have C6 := hid h6
            have Q6 := hid (Q5.out.kt (KT.touch C5.out t6) noM_cu rfl)
            have B6 := hid (B5.out.trans (t6.below B5.out.size (fun j hj => by omega)))
            have I6 := hid (I5.out.touch t6 (by omega))
            have S6 := hid (show okSc s6 from S4.out.le (by rw [HE6.out]; exact Nat.le_refl _))
            clear h6 t6 hs6 i5
            have i6 := I6.out.cell (i := 0) rfl
            go_wp2_with fail
            refine (csay_as _ _ _ s6 _ (decide (0 ≤ last)) 4 C6.out (by first | rfl | (rw [Bool.eq_iff_iff]; simp <;> omega))).mono ?_
            rintro r w7 ⟨rfl, h7, t7⟩
            obtain ⟨s7, hs7⟩ : ∃ z, sayM (decide (0 ≤ last)) 4 s6 = z := ⟨_, rfl⟩
            have HP7 := hid (show P = allB (topB f 0 (mm, cc) s7) from HP6.out.trans (by rw [hs7]))
            have HZ7 := hid (fun g : s7.2 = 0 => say_zero (is := decide (0 ≤ last)) (e := 4) (s := s6) (by decide) (by rw [hs7]; exact g))
            have HE7 := hid (show s7.1 = s6.1 from by rw [← hs7]; exact say_fst _ _ _)
            rw [hs7] at h7
            have C7 := hid h7
            have Q7 := hid (Q6.out.kt (KT.touch C6.out t7) noM_cu rfl)
            have B7 := hid (B6.out.trans (t7.below B6.out.size (fun j hj => by omega)))
            have I7 := hid (I6.out.touch t7 (by omega))
            have S7 := hid (show okSc s7 from S6.out.le (by rw [HE7.out]; exact Nat.le_refl _))
            clear h7 t7 hs7 i6
            have i7 := I7.out.cell (i := 0) rfl
            have y7 := C7.out.cell (i := 2) rfl
            by_cases hz7 : s7.2 = 0
            · skip
              exact absurd (HZ6.out (HZ7.out hz7).2).1 (by decide)
            · skip
              have hq7 : (s7.2 == 0) = false := by simpa using hz7
              have HN7 := hid hz7
              have HP8 := hid (show P = allB (TG f 0 ((mm, cc), s7)) from HP7.out.trans (by unfold TG; rw [topB_st hz7, top_stop (.inl hz7)]))
              clear hz7
              go_wp2_with fail
              go_roundw
              case rel => exact ⟨f, 0, vt, vi, vf, vg, vx, ve, vd, kv, mm, cc, s7, rfl, by omega, hid (fun g => absurd g HN7.out), hid (by have := HCL.out; omega), hid (HSM.out.mono (by omega)), S7, HP8, C7, Q7, B7⟩
              case measure =>
                have h1 := HSH.out
                have h2 := congrArg ByteArray.size HE6.out
                have h3 := congrArg ByteArray.size HE7.out
                rw [lenAt_cu C7.out, HLA.out]
                omega
          go_wp2_with fail
          generalize w4.heap.size = I at *
          clear hI
          refine (csay_as _ _ _ s4 _ (decide (v = 0 ∨ 11 < v)) 6 C5.out (by first | rfl | (rw [Bool.eq_iff_iff]; simp <;> omega))).mono ?_
          rintro r w6 ⟨rfl, h6, t6⟩
          obtain ⟨s6, hs6⟩ : ∃ z, sayM (decide (v = 0 ∨ 11 < v)) 6 s4 = z := ⟨_, rfl⟩
          have HP6 := hid (show P = allB (topB f v (mm, cc) (sayM (decide (v ≤ last)) 4 s6)) from HP5.out.trans (by unfold topA; rw [hs6]))
          have HZ6 := hid (fun g : s6.2 = 0 => say_zero (is := decide (v = 0 ∨ 11 < v)) (e := 6) (s := s4) (by decide) (by rw [hs6]; exact g))
          have HE6 := hid (show s6.1 = s4.1 from by rw [← hs6]; exact say_fst _ _ _)
          rw [hs6] at h6
          have C6 := hid h6
          have Q6 := hid (Q5.out.kt (KT.touch C5.out t6) noM_cu rfl)
          have B6 := hid (B5.out.trans (t6.below B5.out.size (fun j hj => by omega)))
          have I6 := hid (I5.out.touch t6 (by omega))
          have S6 := hid (show okSc s6 from S4.out.le (by rw [HE6.out]; exact Nat.le_refl _))
          clear h6 t6 hs6 i5
          have i6 := I6.out.cell (i := 0) rfl
          go_wp2_with fail
          refine (csay_as _ _ _ s6 _ (decide (v ≤ last)) 4 C6.out (by first | rfl | (rw [Bool.eq_iff_iff]; simp <;> omega))).mono ?_
          rintro r w7 ⟨rfl, h7, t7⟩
          obtain ⟨s7, hs7⟩ : ∃ z, sayM (decide (v ≤ last)) 4 s6 = z := ⟨_, rfl⟩
          have HP7 := hid (show P = allB (topB f v (mm, cc) s7) from HP6.out.trans (by rw [hs7]))
          have HZ7 := hid (fun g : s7.2 = 0 => say_zero (is := decide (v ≤ last)) (e := 4) (s := s6) (by decide) (by rw [hs7]; exact g))
          have HE7 := hid (show s7.1 = s6.1 from by rw [← hs7]; exact say_fst _ _ _)
          rw [hs7] at h7
          have C7 := hid h7
          have Q7 := hid (Q6.out.kt (KT.touch C6.out t7) noM_cu rfl)
          have B7 := hid (B6.out.trans (t7.below B6.out.size (fun j hj => by omega)))
          have I7 := hid (I6.out.touch t7 (by omega))
          have S7 := hid (show okSc s7 from S6.out.le (by rw [HE7.out]; exact Nat.le_refl _))
          clear h7 t7 hs7 i6
          have i7 := I7.out.cell (i := 0) rfl
          have y7 := C7.out.cell (i := 2) rfl
          by_cases hz7 : s7.2 = 0
          · skip
            have hq7 : (s7.2 == 0) = true := by simpa using hz7
            have h67 := HZ7.out hz7
            have h46 := HZ6.out h67.2
            have hv11 : v ≤ 11 := by have := of_decide_eq_false h46.1; omega
            have hv1 : 1 ≤ v := by have := of_decide_eq_false h46.1; omega
            have hlv : last < v := by have := of_decide_eq_false h67.1; omega
            have hHs : w.heap.size + 4 ≤ w7.heap.size := Q7.out.hH
            have HWI := hid (within_read w w7 HML.out B7.out (w.heap.size + 3) t.size s7 C7.out S7.out vt vi vf vg vx ve vd kv mm cc Q7.out (HSM.out.mono (by omega)) (by have := HCL.out; omega) v hv1 hv11 I (by omega) I7.out hHs rfl)
            have HSW := hid (with_small (id := v) (x := (mm, cc)) (s := s7) HSM.out)
            have HCW := hid (with_cl (id := v) (mm, cc) s7)
            have HLW := hid (with_le (secM v (mm, cc)) (mm, cc) s7)
            have HP8 := hid (show P = allB (TG f v (withM (secM v (mm, cc)) (mm, cc) s7)) from HP7.out)
            clear h67 h46 hz7
            generalize withM (secM v (mm, cc)) (mm, cc) s7 = W at *
            go_wp2_with fail
            refine HWI.out.mono ?_
            rintro r w8 ⟨rfl, h8, ⟨vt', vi', vf', vg', vx', ve', vd', kv', hQ⟩, hb8⟩
            have C8 := hid h8
            have Q8 := hid hQ
            have B8 := hid (B7.out.trans hb8)
            have S8 := hid (S7.out.le HLW.out)
            clear h8 hQ hb8 HWI
            go_wp2_with fail
            go_roundw
            case rel => exact ⟨f, v, vt', vi', vf', vg', vx', ve', vd', kv', W.1.1, W.1.2, W.2, rfl, by omega, hid (fun _ => ⟨hv11, by omega⟩), hid (by have := HCL.out; have := HCW.out; omega), hid (HSW.out.mono (by omega)), S8, HP8, C8, Q8, B8⟩
            case measure =>
              have h1 := HSH.out
              have h2 := congrArg ByteArray.size HE6.out
              have h3 := congrArg ByteArray.size HE7.out
              have h4 := HLW.out
              rw [lenAt_cu C8.out, HLA.out]
              omega
          · skip
            have hq7 : (s7.2 == 0) = false := by simpa using hz7
            have HN7 := hid hz7
            have HP8 := hid (show P = allB (TG f v ((mm, cc), s7)) from HP7.out.trans (by unfold TG; rw [topB_st hz7, top_stop (.inl hz7)]))
            clear hz7
            go_wp2_with fail
            go_roundw
            case rel => exact ⟨f, v, vt, vi, vf, vg, vx, ve, vd, kv, mm, cc, s7, rfl, by omega, hid (fun g => absurd g HN7.out), hid (by have := HCL.out; omega), hid (HSM.out.mono (by omega)), S7, HP8, C7, Q7, B7⟩
            case measure =>
              have h1 := HSH.out
              have h2 := congrArg ByteArray.size HE6.out
              have h3 := congrArg ByteArray.size HE7.out
              rw [lenAt_cu C7.out, HLA.out]
              omega
        by_cases hz : s3.2 ≠ 0
        · have hz2 : (s3.2 == 0) = false := by simpa using hz
          have HP4 := hid (show P = finM (mm, cc) s3 from HP3.out.trans (by unfold TG; rw [top_stop (by first | exact .inl hz | exact .inr hn)]; rfl))
          clear HP3
          obtain ⟨cssk, -, hrk⟩ := id Q3.out.kr
          have hfc : (fnC cc).length = cc.length := by unfold fnC; rw [List.length_map]
          rw [hfc] at hrk
          obtain ⟨ko, kc, rfl, _⟩ := own_sl hrk
          obtain ⟨cssf, -, hrf⟩ := id Q3.out.mo.f
          obtain ⟨fo, fc, rfl, _⟩ := own_sl hrf
          have k0 := Q3.out.kb.cell (i := 0) rfl
          have m2 := Q3.out.mo.blk.cell (i := 2) rfl
          clear hrk hrf hfc
          go_wp2_with fail
          clear k0 m2 y0 y2
          refine (csay_as _ _ _ s3 _ (decide (cc.length ≠ mm.funcs.length)) 4 C3.out (by first | rfl | (rw [Bool.eq_iff_iff]; simp <;> omega))).mono ?_
          rintro r w9 ⟨rfl, h9, t9⟩
          obtain ⟨s9, hs9⟩ : ∃ z, sayM (decide (cc.length ≠ mm.funcs.length)) 4 s3 = z := ⟨_, rfl⟩
          have HP9 := hid (show P = if s9.2 ≠ 0 then (Mdl.zero, s9.2) else ({ mm with funcs := updF mm.funcs cc }, 0) from HP4.out.trans (by unfold finM; simp only; rw [hs9]))
          have HZ9 := hid (fun g : s9.2 = 0 => say_zero (is := decide (cc.length ≠ mm.funcs.length)) (e := 4) (s := s3) (by decide) (by rw [hs9]; exact g))
          rw [hs9] at h9
          have Q9 := hid (Q3.out.kt (KT.touch C3.out t9) noM_cu rfl)
          have B9 := hid (B3.out.trans (t9.below B3.out.size (fun j hj => by omega)))
          have y9 := h9.cell (i := 2) rfl
          clear h9 t9 hs9 HP4
          by_cases hz9 : s9.2 ≠ 0
          · skip
            have hq9 : (s9.2 != 0) = true := by simpa using hz9
            have HP10 := hid (show P = (Mdl.zero, s9.2) from HP9.out.trans (if_pos hz9))
            have r0 := Q9.out.r0.cell (i := 0) rfl
            have r1 := Q9.out.r0.cell (i := 1) rfl
            have r2 := Q9.out.r0.cell (i := 2) rfl
            have r3 := Q9.out.r0.cell (i := 3) rfl
            have r4 := Q9.out.r0.cell (i := 4) rfl
            have r5 := Q9.out.r0.cell (i := 5) rfl
            have r6 := Q9.out.r0.cell (i := 6) rfl
            have r7 := Q9.out.r0.cell (i := 7) rfl
            have r8 := Q9.out.r0.cell (i := 8) rfl
            have r9 := Q9.out.r0.cell (i := 9) rfl
            have r10 := Q9.out.r0.cell (i := 10) rfl
            have rf := Q9.out.r0.free
            have HX := hid (put11 w9 w.heap.size (.slice none 0 0) (.slice none 0 0) (.slice none 0 0) (.int .i64 0) (.int .i64 0) (.int .i64 0) (.slice none 0 0) (.slice none 0 0) (.int .i64 0) (.slice none 0 0) (.slice none 0 0) (.slice none 0 0) (.slice none 0 0) (.slice none 0 0) (.int .i64 0) (.int .i64 0) (.int .i64 0) (.slice none 0 0) (.slice none 0 0) (.int .i64 0) (.slice none 0 0) (.slice none 0 0) Q9.out.r0)
            have hC3 : ¬ w.heap.size = w.heap.size + 3 := by omega
            clear hz9 HP9 HZ9
            go_wp2_with fail
            go_region
            go_wp2_with fail
            refine bodyPost_ret (bread_results _ w.heap.size (.slice none 0 0) (.slice none 0 0) (.slice none 0 0) (.int .i64 0) (.int .i64 0) (.int .i64 0) (.slice none 0 0) (.slice none 0 0) (.int .i64 0) (.slice none 0 0) (.slice none 0 0) (.int .i64 s9.2) _ (by rfl) (by rfl) (HX.out.1.drew 1)) rfl ?_
            rw [HP10.out]
            exact ⟨B9.out.trans ((HX.out.2.2.drew 1).below B9.out.size (fun j hj => by omega)), w.heap.size, _, _, _, _, _, _, _, Nat.le_refl _, rfl, MV.zero _ _⟩
          · skip
            exact absurd (HZ9.out (Classical.byContradiction hz9)).2 hz
        have hn : s3.1.size = 0 := Classical.byContradiction fun hc => hgo ⟨Classical.byContradiction hz, hc⟩
        have hz0 : s3.2 = 0 := Classical.byContradiction hz
        have hz2 : (s3.2 == 0) = true := by simpa using hz0
        have hn2 : (!s3.1.toList.isEmpty) = false := by rw [empty_size]; simp [hn]
        have HP4 := hid (show P = finM (mm, cc) s3 from HP3.out.trans (by unfold TG; rw [top_stop (by first | exact .inl hz | exact .inr hn)]; rfl))
        clear HP3
        obtain ⟨cssk, -, hrk⟩ := id Q3.out.kr
        have hfc : (fnC cc).length = cc.length := by unfold fnC; rw [List.length_map]
        rw [hfc] at hrk
        obtain ⟨ko, kc, rfl, _⟩ := own_sl hrk
        obtain ⟨cssf, -, hrf⟩ := id Q3.out.mo.f
        obtain ⟨fo, fc, rfl, _⟩ := own_sl hrf
        have k0 := Q3.out.kb.cell (i := 0) rfl
        have m2 := Q3.out.mo.blk.cell (i := 2) rfl
        clear hrk hrf hfc
        go_wp2_with fail
        clear k0 m2 y0 y2
        refine (csay_as _ _ _ s3 _ (decide (cc.length ≠ mm.funcs.length)) 4 C3.out (by first | rfl | (rw [Bool.eq_iff_iff]; simp <;> omega))).mono ?_
        rintro r w9 ⟨rfl, h9, t9⟩
        obtain ⟨s9, hs9⟩ : ∃ z, sayM (decide (cc.length ≠ mm.funcs.length)) 4 s3 = z := ⟨_, rfl⟩
        have HP9 := hid (show P = if s9.2 ≠ 0 then (Mdl.zero, s9.2) else ({ mm with funcs := updF mm.funcs cc }, 0) from HP4.out.trans (by unfold finM; simp only; rw [hs9]))
        have HZ9 := hid (fun g : s9.2 = 0 => say_zero (is := decide (cc.length ≠ mm.funcs.length)) (e := 4) (s := s3) (by decide) (by rw [hs9]; exact g))
        rw [hs9] at h9
        have Q9 := hid (Q3.out.kt (KT.touch C3.out t9) noM_cu rfl)
        have B9 := hid (B3.out.trans (t9.below B3.out.size (fun j hj => by omega)))
        have y9 := h9.cell (i := 2) rfl
        clear h9 t9 hs9 HP4
        by_cases hz9 : s9.2 ≠ 0
        · skip
          have hq9 : (s9.2 != 0) = true := by simpa using hz9
          have HP10 := hid (show P = (Mdl.zero, s9.2) from HP9.out.trans (if_pos hz9))
          have r0 := Q9.out.r0.cell (i := 0) rfl
          have r1 := Q9.out.r0.cell (i := 1) rfl
          have r2 := Q9.out.r0.cell (i := 2) rfl
          have r3 := Q9.out.r0.cell (i := 3) rfl
          have r4 := Q9.out.r0.cell (i := 4) rfl
          have r5 := Q9.out.r0.cell (i := 5) rfl
          have r6 := Q9.out.r0.cell (i := 6) rfl
          have r7 := Q9.out.r0.cell (i := 7) rfl
          have r8 := Q9.out.r0.cell (i := 8) rfl
          have r9 := Q9.out.r0.cell (i := 9) rfl
          have r10 := Q9.out.r0.cell (i := 10) rfl
          have rf := Q9.out.r0.free
          have HX := hid (put11 w9 w.heap.size (.slice none 0 0) (.slice none 0 0) (.slice none 0 0) (.int .i64 0) (.int .i64 0) (.int .i64 0) (.slice none 0 0) (.slice none 0 0) (.int .i64 0) (.slice none 0 0) (.slice none 0 0) (.slice none 0 0) (.slice none 0 0) (.slice none 0 0) (.int .i64 0) (.int .i64 0) (.int .i64 0) (.slice none 0 0) (.slice none 0 0) (.int .i64 0) (.slice none 0 0) (.slice none 0 0) Q9.out.r0)
          have hC3 : ¬ w.heap.size = w.heap.size + 3 := by omega
          clear hz9 HP9 HZ9
          go_wp2_with fail
          go_region
          go_wp2_with fail
          refine bodyPost_ret (bread_results _ w.heap.size (.slice none 0 0) (.slice none 0 0) (.slice none 0 0) (.int .i64 0) (.int .i64 0) (.int .i64 0) (.slice none 0 0) (.slice none 0 0) (.int .i64 0) (.slice none 0 0) (.slice none 0 0) (.int .i64 s9.2) _ (by rfl) (by rfl) (HX.out.1.drew 1)) rfl ?_
          rw [HP10.out]
          exact ⟨B9.out.trans ((HX.out.2.2.drew 1).below B9.out.size (fun j hj => by omega)), w.heap.size, _, _, _, _, _, _, _, Nat.le_refl _, rfl, MV.zero _ _⟩
        · skip
          have hq9 : (s9.2 != 0) = false := by simpa using hz9
          have HP10 := hid (show P = ({ mm with funcs := updF mm.funcs cc }, 0) from HP9.out.trans (if_neg hz9))
          have hnn : cc.length = mm.funcs.length := by
            have := of_decide_eq_false (HZ9.out (Classical.byContradiction hz9)).1
            exact Classical.byContradiction this
          have k0 := Q9.out.kb.cell (i := 0) rfl
          have HNN := hid hnn
          clear hz9 HP9 HZ9 hnn
          go_wp2_with fail
          clear k0 y9 hq9
          have Q9 := hid (show RQ w9 (w.heap.size + 4) (w.heap.size + 1) (w.heap.size + 2) w.heap.size vt vi (.slice fo mm.funcs.length fc) vg vx ve vd (.slice ko cc.length kc) { mm with funcs := updF mm.funcs (cc.take 0) } cc from by rw [List.take_zero, updF_nil]; exact Q9.out)
          go_loopw [83] (fun i wr => ∃ j : Nat, j ≤ cc.length ∧ i = .int .i64 j ∧ Hid (RQ wr (w.heap.size + 4) (w.heap.size + 1) (w.heap.size + 2) w.heap.size vt vi (.slice fo mm.funcs.length fc) vg vx ve vd (.slice ko cc.length kc) { mm with funcs := updF mm.funcs (cc.take j) } cc) ∧ Hid (Below w.heap.size w wr)) (fun i _ => cc.length - (RowKit.intOf i).toNat)
          case atStart => exact ⟨0, Nat.zero_le _, rfl, Q9, B9⟩
          case round =>
            clear Q9 B9 Q3 C3 B3
            obtain ⟨j, hj, rfl, Q9, B9⟩ := hrel
            by_cases hlt : j < cc.length
            · obtain ⟨kg, kc', au, cu, av, cv, ek, k0, k1, k2, hu, hv⟩ := Q9.out.code j hlt
              obtain ⟨rfl, rfl⟩ : ko = some ⟨kg, 0, none⟩ ∧ kc = kc' := by simpa using ek
              have OU := hid hu
              have OV := hid hv
              have hjf : j < (updF mm.funcs (cc.take j)).length := by rw [updF_len]; have := HNN.out; omega
              have htk : (cc.take j).length = j := by rw [List.length_take]; omega
              have HUP := hid (show updF mm.funcs (cc.take (j + 1)) = (updF mm.funcs (cc.take j)).set j (((updF mm.funcs (cc.take j))[j]'hjf).1, cc[j].1, cc[j].2) from by
                rw [show cc.take (j + 1) = cc.take j ++ [cc[j]] from by first | exact List.take_succ_eq_append_getElem hlt | simp]
                have e := updF_put mm.funcs (cc.take j) cc[j] (by rw [htk]; exact hjf)
                simp only [htk] at e
                exact e)
              clear ek hu hv htk
              go_wp2_with fail
              clear k0 k1 k2
              have Q10 := hid (Q9.out.below ((Below.refl wr.heap.size wr).alloc (Nat.le_refl _) (.cells #[.int .i64 0, .slice au cc[j].1.length cu, .slice av cc[j].2.length cv] 66)))
              have B10 := hid (B9.out.alloc B9.out.size (.cells #[.int .i64 0, .slice au cc[j].1.length cu, .slice av cc[j].2.length cv] 66))
              have X10 := hid (Blk.new wr #[.int .i64 0, .slice au cc[j].1.length cu, .slice av cc[j].2.length cv] 66 _ rfl)
              have kb := KT.below (bad := 58) ((Below.refl wr.heap.size wr).alloc (Nat.le_refl _) (.cells #[.int .i64 0, .slice au cc[j].1.length cu, .slice av cc[j].2.length cv] 66))
              obtain ⟨g, cap2, e2, hHg, ⟨y1, hy1⟩, hf1, ⟨y2, hy2⟩, hf2, ht, hg, hq⟩ := Q10.out.putF j hjf (.slice au cc[j].1.length cu) (.slice av cc[j].2.length cv) cc[j].1 cc[j].2 (kb.own OU.out rfl) (OV.out.ktG kb rfl rfl)
              obtain ⟨rfl, -, rfl⟩ : fo = some ⟨g, 0, none⟩ ∧ _ ∧ fc = cap2 := by simpa using e2
              have gX : g ≠ wr.heap.size := by
                obtain ⟨cz, -, h3⟩ := Q9.out.mo.f
                have := (World.ownsRow.lt h3 g rfl).2
                omega
              have gM : g ≠ w.heap.size + 1 := by omega
              have HQ := hid (hq.below (drew_bel' (n := 1) (Below.refl _ _)))
              rw [← HUP.out] at HQ
              have HB := hid (B10.out.trans ((ht.below B10.out.size (fun k hk => by omega)).drew))
              have m2 := Q10.out.mo.blk.cell (i := 2) rfl
              have x1 := X10.out.cell (i := 1) rfl
              have x2 := X10.out.cell (i := 2) rfl
              have hjm : j < mm.funcs.length := by have := HNN.out; omega
              clear e2 hHg ht hg hq kb
              refine wp_region_tail (S := (fun w' => w'.cell? ⟨w.heap.size + 1, 2, none⟩ = some (.slice (some ⟨g, 0, none⟩) mm.funcs.length fc) ∧ w'.cell? ⟨wr.heap.size, 1, none⟩ = some (.slice au cc[j].1.length cu) ∧ w'.cell? ⟨wr.heap.size, 2, none⟩ = some (.slice av cc[j].2.length cv))) 15 (by kernel_rfl) (by kernel_rfl) ?_ (fun hHeld => ?_)
              · exact ⟨m2, x1, x2⟩
              repeat ((first | refine tk 0 ?_ rfl ?_ ?_ | refine tk 1 ?_ rfl ?_ ?_ | refine tk 2 ?_ rfl ?_ ?_ | refine tk 3 ?_ rfl ?_ ?_ | refine tk 4 ?_ rfl ?_ ?_ | refine tk 5 ?_ rfl ?_ ?_ | refine tk 6 ?_ rfl ?_ ?_ | refine tk 7 ?_ rfl ?_ ?_ | refine tk 8 ?_ rfl ?_ ?_ | refine tk 9 ?_ rfl ?_ ?_ | refine tk 10 ?_ rfl ?_ ?_ | refine tk 11 ?_ rfl ?_ ?_ | refine tk 13 ?_ rfl ?_ ?_ | refine tk 14 ?_ rfl ?_ ?_); rotate_left; (intro wy hSw; (try dsimp only at hSw); (go_simp <;> with_reducible rfl)); (try simp only [List.getElem_toArray, List.getElem_cons_zero, List.getElem_cons_succ, Act.put, List.setIfInBounds_toArray, List.set_cons_zero, List.set_cons_succ]))
              refine wpT_one (k := 12) rfl (by kernel_rfl) (fun K hK => ?_)
              go_simp
              refine hK.out _ _ ?_ (fun hHeld => ?_)
              · exact ⟨(Q10.out.mo.blk.other (a := ⟨g, j * 3 + 1, none⟩) gM _).cell (i := 2) rfl, (X10.out.other (a := ⟨g, j * 3 + 1, none⟩) gX _).cell (i := 1) rfl, (X10.out.other (a := ⟨g, j * 3 + 1, none⟩) gX _).cell (i := 2) rfl⟩
              clear hK K
              (try simp only [Act.put, List.setIfInBounds_toArray, List.set_cons_zero, List.set_cons_succ])
              repeat ((first | refine tk 0 ?_ rfl ?_ ?_ | refine tk 1 ?_ rfl ?_ ?_ | refine tk 2 ?_ rfl ?_ ?_ | refine tk 3 ?_ rfl ?_ ?_ | refine tk 4 ?_ rfl ?_ ?_ | refine tk 5 ?_ rfl ?_ ?_ | refine tk 6 ?_ rfl ?_ ?_ | refine tk 7 ?_ rfl ?_ ?_ | refine tk 8 ?_ rfl ?_ ?_ | refine tk 9 ?_ rfl ?_ ?_ | refine tk 10 ?_ rfl ?_ ?_ | refine tk 11 ?_ rfl ?_ ?_ | refine tk 13 ?_ rfl ?_ ?_ | refine tk 14 ?_ rfl ?_ ?_); rotate_left; (intro wy hSw; (try dsimp only at hSw); (go_simp <;> with_reducible rfl)); (try simp only [List.getElem_toArray, List.getElem_cons_zero, List.getElem_cons_succ, Act.put, List.setIfInBounds_toArray, List.set_cons_zero, List.set_cons_succ]))
              refine wpT_done (by kernel_rfl) ?_
              go_wp2_with fail
              go_roundw
              case rel => exact ⟨j + 1, hlt, by go_num, HQ, HB⟩
              case measure => simp [RowKit.intOf]; omega
            rw [show cc.take j = cc from List.take_of_length_le (by omega)] at Q9
            obtain ⟨czt, -, hzt⟩ := id Q9.out.mo.t
            obtain ⟨ot, pt, rfl, -⟩ := own_sl hzt
            obtain ⟨czi, -, hzi⟩ := id Q9.out.mo.i
            obtain ⟨oi, pi, rfl, -⟩ := own_sl hzi
            obtain ⟨czg, -, hzg⟩ := id Q9.out.mo.g
            obtain ⟨og, pg, rfl, -⟩ := own_sl hzg
            obtain ⟨czx, -, hzx⟩ := id Q9.out.mo.x
            obtain ⟨ox, px, rfl, -⟩ := own_sl hzx
            obtain ⟨cze, -, hze⟩ := id Q9.out.mo.e
            obtain ⟨oe, pe, rfl, -⟩ := own_sl hze
            obtain ⟨czd, -, hzd⟩ := id Q9.out.mo.d
            obtain ⟨od, pd, rfl, -⟩ := own_sl hzd
            clear hzt hzi hzg hzx hze hzd hj hz hz0 hz2 hn hn2 hf
            have m0 := Q9.out.mo.blk.cell (i := 0) rfl
            have r0 := Q9.out.r0.cell (i := 0) rfl
            have m1 := Q9.out.mo.blk.cell (i := 1) rfl
            have r1 := Q9.out.r0.cell (i := 1) rfl
            have m2 := Q9.out.mo.blk.cell (i := 2) rfl
            have r2 := Q9.out.r0.cell (i := 2) rfl
            have m3 := Q9.out.mo.blk.cell (i := 3) rfl
            have r3 := Q9.out.r0.cell (i := 3) rfl
            have m4 := Q9.out.mo.blk.cell (i := 4) rfl
            have r4 := Q9.out.r0.cell (i := 4) rfl
            have m5 := Q9.out.mo.blk.cell (i := 5) rfl
            have r5 := Q9.out.r0.cell (i := 5) rfl
            have m6 := Q9.out.mo.blk.cell (i := 6) rfl
            have r6 := Q9.out.r0.cell (i := 6) rfl
            have m7 := Q9.out.mo.blk.cell (i := 7) rfl
            have r7 := Q9.out.r0.cell (i := 7) rfl
            have m8 := Q9.out.mo.blk.cell (i := 8) rfl
            have r8 := Q9.out.r0.cell (i := 8) rfl
            have m9 := Q9.out.mo.blk.cell (i := 9) rfl
            have r9 := Q9.out.r0.cell (i := 9) rfl
            have m10 := Q9.out.mo.blk.cell (i := 10) rfl
            have r10 := Q9.out.r0.cell (i := 10) rfl
            have rf := Q9.out.r0.free
            have HX := hid (put11 wr w.heap.size (.slice none 0 0) (.slice none 0 0) (.slice none 0 0) (.int .i64 0) (.int .i64 0) (.int .i64 0) (.slice none 0 0) (.slice none 0 0) (.int .i64 0) (.slice none 0 0) (.slice none 0 0) (.slice ot mm.types.length pt) (.slice oi mm.imports.length pi) (.slice fo mm.funcs.length fc) (.int .i64 mm.table) (.int .i64 mm.pages) (.int .i64 mm.most) (.slice og mm.globals.length pg) (.slice ox mm.exports.length px) (.int .i64 mm.start) (.slice oe mm.elems.length pe) (.slice od mm.data.length pd) Q9.out.r0)
            go_wp2_with fail
            refine bodyPost_ret (bread_results _ w.heap.size (.slice ot mm.types.length pt) (.slice oi mm.imports.length pi) (.slice fo mm.funcs.length fc) (.int .i64 mm.table) (.int .i64 mm.pages) (.int .i64 mm.most) (.slice og mm.globals.length pg) (.slice ox mm.exports.length px) (.int .i64 mm.start) (.slice oe mm.elems.length pe) (.slice od mm.data.length pd) (.int .i64 0) _ (by rfl) (by rfl) HX.out.1) rfl ?_
            rw [HP10.out]
            exact ⟨B9.out.trans (HX.out.2.2.below B9.out.size (fun j hj => by omega)), w.heap.size + 4, _, _, _, _, _, _, _, by omega, rfl, Q9.out.mo.mv.kt HX.out.2.1 noR_m⟩
end Go.Proofs.YtakfineljffoaaaGreatDoor
