/-
  INSTRUCTIONS: the reference's Read. Conditions: lengths in the form's reach; the library's variable that strings.Contains reads holds some number.
-/
import Derived.Test.YtakfineljffoaaaGreatDoorGBinReads11
import Derived.Test.YtakfineljffoaaaGreatDoorGBinReads21
import Derived.Deep.RegionLaw
namespace Go.Proofs.YtakfineljffoaaaGreatDoor
open Go.RowKit Go.Lib
attribute [local go_sem ↓] Go.wp_at_zero Go.wp_at_succ

/-- how an end state is given -/
def RdQ (w : World) (all : Int) (op : Nat) (q : FQ) (e : Ending) (w' : World) : Prop :=
  ∃ u, (if q.2.2 = 0 then e = .returned (.tuple #[insV op q.1.1 q.1.2.1 u, .int .i64 (all - q.2.1.size), .int .i64 0]) ∧ OwnI w' w.heap.size .i64 2 u q.1.2.2
    else e = .returned (.tuple #[insV 0 0 0 (.slice none 0 0), .int .i64 0, .int .i64 q.2.2])) ∧ Below w.heap.size w w'
/-- the length of the list -/
def toLen (w : World) (X : Nat) : Nat := match w.cell? ⟨X, 3, none⟩ with
  | some (.slice _ n _) => n
  | _ => 0
theorem toLen_own {w : World} {R X H : Nat} {all : Int} {s : ByteArray × Int} {op : Nat} {A B : Int} {u : Value} {xs : List Int} (h : DuC w R X all s op A B u) (ho : OwnI w H .i64 2 u xs) : toLen w X = xs.length := by
  obtain ⟨a, c, rfl, _⟩ := own_sl ho
  have := h.ins.cell (i := 3) rfl
  unfold toLen
  rw [this]
/-- the letters of a form -/
def isL (c : UInt8) : Prop := c = 63 ∨ c = 107 ∨ c = 97 ∨ c = 116 ∨ c = 122 ∨ c = 98 ∨ c = 99 ∨ c = 100
abbrev ToL (R X N : Nat) (w w' : World) : Prop := Touch (fun j => (j = R ∨ j = X) ∨ N ≤ j) w w'
theorem iter_keep {R X IT : Nat} {w w' : World} {o : Obj} (h : w.heap[IT]? = some o) (hR : R < IT) (hX : X < IT) (ht : ToL R X (IT + 1) w w') : w'.heap[IT]? = some o :=
  (ht.block IT (lt_of_block h) (by omega)).trans h
theorem ToL.wide {R X IT : Nat} {w w' : World} (ht : ToL R X (IT + 1) w w') : ToL R X IT w w' := ht.mono (fun j _ h => by omega)
set_option maxRecDepth 100000 in
set_option maxHeartbeats 4000000 in
theorem rread_q (w : World) (t : ByteArray) (ht : t.size ≤ 140737488351232) (op : Nat) (so : ByteArray × Int) (hop : op < 256) (ho : octM (t, 0) = (op, so)) (form : ByteArray) (_hf1 : form.size ≤ 2) (hf : ∀ i (h : i < form.size), isL (form[i]'h))
    (hbes : ∀ w', Below w.heap.size w w' → Calls Tryz.prog 155 #[.int .u8 op] w' fun e w2 => e = .returned (.string form) ∧ Below w'.heap.size w' w2)
    (bq : Bool) (hbq : (form.toList == [63]) = bq) (fin : FQ) (hfin : frmL form.data.toList ((0, 0, []), sayM bq 6 so) = fin) :
    Calls Tryz.prog 122 #[.string t] w fun e w' => RdQ w t.size op fin e w' := by
  have hA0 : Below w.heap.size w (w.alloc (.cells #[.int .u8 0, .int .i64 0, .int .i64 0, .slice none 0 0] 97)) := (Below.refl _ _).alloc (Nat.le_refl _) _
  have hres : Blk (w.alloc (.cells #[.int .u8 0, .int .i64 0, .int .i64 0, .slice none 0 0] 97)) w.heap.size 97 [.int .u8 0, .int .i64 0, .int .i64 0, .slice none 0 0] := Blk.new w _ _ _ rfl
  have HOV := hid (cover_any t (w.alloc (.cells #[.int .u8 0, .int .i64 0, .int .i64 0, .slice none 0 0] 97)))
  rw [show (w.alloc (.cells #[.int .u8 0, .int .i64 0, .int .i64 0, .slice none 0 0] 97)).heap.size = w.heap.size + 1 by simp] at HOV
  have HO := hid (fun wx (h : CuB wx (w.heap.size + 1) t.size (t, 0)) => coctet_any wx (w.heap.size + 1) t.size (t, 0) h (by unfold okSc; exact ht))
  rw [ho] at HO
  have hz := octM_size (t, 0)
  rw [ho] at hz
  simp only at HO hz
  have HA := hid hA0
  have HRES := hid hres
  have HBS := hid hbes
  have HBQ := hid hbq
  have HF := hid hf
  have HL := hid (show form.data.toList.length = form.size from rfl)
  have HFIN := hid hfin
  have hopw : IntKind.u8.wrap (op : Int) = op := by rw [IntKind.wrap_u8]; omega
  clear hbq hA0 hres hbes hf hfin ho
  go_enter Tryz.func122, Tryz.ntmps122
  go_wp2_with fail
  refine HOV.out.mono ?_
  rintro r w1 ⟨rfl, g1, g2⟩
  have C1 := hid g1
  have B1 := hid (HA.out.trans (g2.mono (by simp)))
  have R1 := hid (HRES.out.below (by simpa using g2))
  clear g1 g2
  go_wp2_with fail
  refine (HO.out _ C1.out).mono ?_
  rintro r w2 ⟨rfl, g1, g2⟩
  have C2 := hid g1
  have B2 := hid (B1.out.trans (g2.below B1.out.size (fun j hj => by omega)))
  have R2 := hid (R1.out.touch g2 (by omega))
  clear g1 g2
  go_wp2_with fail
  have D3 : Hid (DuC (w2.alloc (.cells #[.int .u8 op, .int .i64 0, .int .i64 0, .slice none 0 0] 97)) (w.heap.size + 1) w2.heap.size t.size so op 0 0 (.slice none 0 0)) := hid ⟨C2.out.alloc _, Blk.new _ _ _ _ rfl, by have := C2.out.lt; omega, by omega⟩
  have R3 := hid (R2.out.alloc (.cells #[.int .u8 op, .int .i64 0, .int .i64 0, .slice none 0 0] 97))
  have B3 := hid (B2.out.alloc B2.out.size (.cells #[.int .u8 op, .int .i64 0, .int .i64 0, .slice none 0 0] 97))
  have hlt2 := C2.out.lt
  refine (HBS.out _ B3.out).mono ?_
  rintro r w4 ⟨rfl, g1⟩
  have D4 := hid (D3.out.below g1)
  have R4 := hid (R3.out.below g1)
  have B4 := hid (B3.out.trans (g1.mono B3.out.size))
  have hlt4 : w2.heap.size + 1 ≤ w4.heap.size := by simpa using g1.size
  have HSAY := hid (csayD bq 6 D4.out)
  clear g1
  go_wp2_with fail
  rw [HBQ.out]
  refine HSAY.out.mono ?_
  rintro r w5 ⟨rfl, g1, g2⟩
  have D5 := hid g1
  have R5 := hid (R4.out.touch g2 (by omega))
  have B5 := hid (B4.out.trans (g2.below B4.out.size (fun j hj => by omega)))
  have hlt5 : w2.heap.size + 1 ≤ w5.heap.size := Nat.le_trans hlt4 g2.size
  clear g1 g2
  have HI0 := hid (World.iter_heap w5 form 0)
  go_wp2_with fail
  have T0 := hid (show ToL (w.heap.size + 1) w2.heap.size w5.heap.size w5 (w5.alloc (.stringIter form 0)) from Touch.of_below ((Below.refl _ _).alloc (Nat.le_refl _) _))
  have D6 := hid (D5.out.below ((Below.refl _ _).alloc (Nat.le_refl _) (.stringIter form 0)))
  have O6 := hid (OwnI.nil (w5.alloc (.stringIter form 0)) (w5.heap.size + 1) .i64 2)
  generalize hX : w2.heap.size = X at *
  generalize hRR : w.heap.size + 1 = R at *
  generalize hIT : w5.heap.size = IT at *
  have HST := hid (show frmL (form.data.toList.drop 0) ((0, 0, []), sayM bq 6 so) = fin from HFIN.out)
  generalize sayM bq 6 so = s0 at *
  go_loopw [] (fun wr => ∃ (k : Nat) (A B : Int) (xs : List Int) (s : ByteArray × Int) (u : Value), k ≤ form.size ∧ Hid (wr.heap[IT]? = some (.stringIter form k)) ∧ Hid (DuC wr R X t.size s op A B u) ∧ Hid (OwnI wr (IT + 1) .i64 2 u xs) ∧ Hid (xs.length ≤ 16) ∧ Hid (frmL (form.data.toList.drop k) ((A, B, xs), s) = fin) ∧ Hid (ToL R X IT w5 wr)) (fun wr => form.size - wr.iterPos IT)
  case atStart => exact ⟨0, 0, 0, [], s0, _, Nat.zero_le _, HI0, D6, O6, hid (by simp), HST, T0⟩
  case round =>
    obtain ⟨k, A, B, xs, s, u, hk, HI, D, OW, H16, HFR, TC⟩ := hrel
    by_cases hp : k < form.size
    · have hc := HF.out k hp
      have hnext : ∀ ty, (Instr.next (.pointer (some ⟨IT, 0, none⟩)) true ty).run Tryz.prog wr = _ := fun ty => run_next_ascii_at wr IT form k ty HI.out hp (by
        rcases hc with e | e | e | e | e | e | e | e
        all_goals (rw [e]; decide))
      have HMU := hid (show wr.iterPos IT = k by simp [World.iterPos, HI.out])
      have I1 := hid (iterAt_heap wr IT form k (k + 1) HI.out)
      have T1 := hid (TC.out.trans (show ToL R X IT wr (wr.iterAt IT form (k + 1)) from ⟨rfl, rfl, rfl, by rw [iterAt_size]; exact Nat.le_refl _, fun j hj hn => iterAt_other wr IT j form (k + 1) (fun e => hn (Or.inr (by omega)))⟩))
      have D1 := hid (D.out.same (w' := wr.iterAt IT form (k + 1)) (iterAt_other wr IT R form (k + 1) (by omega)) (iterAt_other wr IT X form (k + 1) (by omega)))
      have O1 := hid (show OwnI (wr.iterAt IT form (k + 1)) (IT + 1) .i64 2 u xs from own_same OW.out (fun j hj => iterAt_other wr IT j form (k + 1) (by have := (World.ownsRow.lt OW.out j hj).1; omega)))
      have hFR := HFR.out
      rw [frm_next (show k < form.data.toList.length from hp)] at hFR
      have HF1 := hid hFR
      clear hFR HFR HI D OW TC
      have hbk : form.data.toList[k]'hp = form[k]'hp := rfl
      rw [hbk] at HF1
      generalize form[k]'hp = c at *
      generalize wr.iterAt IT form (k + 1) = W1 at *
      clear hbk
      rcases hc with rfl | rfl | rfl | rfl | rfl | rfl | rfl | rfl
      · go_wp2_with fail
        go_roundw
        case rel => exact ⟨k + 1, A, B, xs, s, u, by omega, I1, D1, O1, H16, HF1, T1⟩
        case measure =>
          have h2 : W1.iterPos IT = k + 1 := by simp [World.iterPos, I1.out]
          rw [HMU.out, h2]; omega
      · have HO1 := hid (coctD D1.out)
        have HF2 := hid (show frmL (form.data.toList.drop (k + 1)) ((((octM s).1 : Nat), B, xs), sayM (okK (octM s).1) 6 (octM s).2) = fin from HF1.out)
        clear HF1
        generalize octM s = q at *
        obtain ⟨n, s1⟩ := q
        simp only at HO1 HF2
        have hn : n = 64 ∨ n = 126 ∨ n = 127 ∨ (n ≠ 64 ∧ n ≠ 126 ∧ n ≠ 127) := by omega
        go_wp2_with fail
        refine HO1.out.mono ?_
        rintro r w6 ⟨rfl, g1, g2⟩
        have bf := g1.ins.free
        have ba := g1.ins.cell (i := 1) rfl
        have D6 := hid (g1.setA n)
        have T6 := hid (g2.trans (ToD.put w6 1 (.int .i64 n)))
        have HS := hid (fun is => csayD is 6 D6.out)
        clear g1 g2
        rcases hn with rfl | rfl | rfl | ⟨h1, h2, h3⟩
        · have HF3 := hid (show frmL (form.data.toList.drop (k + 1)) (((64 : Int), B, xs), sayM false 6 s1) = fin from HF2.out)
          go_wp2_with fail
          refine (HS.out _).mono ?_
          rintro r w7 ⟨rfl, g1, g2⟩
          have D7 := hid g1
          have T7 := hid ((T6.out.trans g2).mono (G := fun j => (j = R ∨ j = X) ∨ IT + 1 ≤ j) (fun _ _ h => Or.inl h))
          have O7 := hid (own_tod O1.out (T6.out.trans g2) (by omega) (by omega))
          clear g1 g2
          go_wp2_with fail
          go_roundw
          case rel => exact ⟨k + 1, 64, B, xs, _, u, by omega, hid (iter_keep I1.out (by omega) (by omega) T7.out), D7, O7, H16, HF3, hid (T1.out.trans (ToL.wide T7.out))⟩
          case measure =>
            have h2 : World.iterPos w7 IT = k + 1 := by simp [World.iterPos, iter_keep I1.out (show R < IT by omega) (show X < IT by omega) T7.out]
            rw [HMU.out, h2]; omega
        · have HF3 := hid (show frmL (form.data.toList.drop (k + 1)) (((126 : Int), B, xs), sayM false 6 s1) = fin from HF2.out)
          go_wp2_with fail
          refine (HS.out _).mono ?_
          rintro r w7 ⟨rfl, g1, g2⟩
          have D7 := hid g1
          have T7 := hid ((T6.out.trans g2).mono (G := fun j => (j = R ∨ j = X) ∨ IT + 1 ≤ j) (fun _ _ h => Or.inl h))
          have O7 := hid (own_tod O1.out (T6.out.trans g2) (by omega) (by omega))
          clear g1 g2
          go_wp2_with fail
          go_roundw
          case rel => exact ⟨k + 1, 126, B, xs, _, u, by omega, hid (iter_keep I1.out (by omega) (by omega) T7.out), D7, O7, H16, HF3, hid (T1.out.trans (ToL.wide T7.out))⟩
          case measure =>
            have h2 : World.iterPos w7 IT = k + 1 := by simp [World.iterPos, iter_keep I1.out (show R < IT by omega) (show X < IT by omega) T7.out]
            rw [HMU.out, h2]; omega
        · have HF3 := hid (show frmL (form.data.toList.drop (k + 1)) (((127 : Int), B, xs), sayM false 6 s1) = fin from HF2.out)
          go_wp2_with fail
          refine (HS.out _).mono ?_
          rintro r w7 ⟨rfl, g1, g2⟩
          have D7 := hid g1
          have T7 := hid ((T6.out.trans g2).mono (G := fun j => (j = R ∨ j = X) ∨ IT + 1 ≤ j) (fun _ _ h => Or.inl h))
          have O7 := hid (own_tod O1.out (T6.out.trans g2) (by omega) (by omega))
          clear g1 g2
          go_wp2_with fail
          go_roundw
          case rel => exact ⟨k + 1, 127, B, xs, _, u, by omega, hid (iter_keep I1.out (by omega) (by omega) T7.out), D7, O7, H16, HF3, hid (T1.out.trans (ToL.wide T7.out))⟩
          case measure =>
            have h2 : World.iterPos w7 IT = k + 1 := by simp [World.iterPos, iter_keep I1.out (show R < IT by omega) (show X < IT by omega) T7.out]
            rw [HMU.out, h2]; omega
        · have e1 : ((n : Int) != 64) = true := by simp; omega
          have e2 : ((n : Int) != 126) = true := by simp; omega
          have e3 : ((n : Int) != 127) = true := by simp; omega
          have HF3 := hid (show frmL (form.data.toList.drop (k + 1)) (((n : Int), B, xs), sayM true 6 s1) = fin by rw [← HF2.out, show okK n = true from by unfold okK; rw [bne_iff_ne.2 h1, bne_iff_ne.2 h2, bne_iff_ne.2 h3]; rfl])
          clear h1 h2 h3
          go_wp2_with fail
          refine (HS.out _).mono ?_
          rintro r w7 ⟨rfl, g1, g2⟩
          have D7 := hid g1
          have T7 := hid ((T6.out.trans g2).mono (G := fun j => (j = R ∨ j = X) ∨ IT + 1 ≤ j) (fun _ _ h => Or.inl h))
          have O7 := hid (own_tod O1.out (T6.out.trans g2) (by omega) (by omega))
          clear g1 g2
          go_wp2_with fail
          go_roundw
          case rel => exact ⟨k + 1, n, B, xs, _, u, by omega, hid (iter_keep I1.out (by omega) (by omega) T7.out), D7, O7, H16, HF3, hid (T1.out.trans (ToL.wide T7.out))⟩
          case measure =>
            have h2 : World.iterPos w7 IT = k + 1 := by simp [World.iterPos, iter_keep I1.out (show R < IT by omega) (show X < IT by omega) T7.out]
            rw [HMU.out, h2]; omega
      · have HO1 := hid (cnumD D1.out)
        have HF2 := hid (show frmL (form.data.toList.drop (k + 1)) (((numM s).1, B, xs), (numM s).2) = fin from HF1.out)
        clear HF1
        generalize numM s = q at *
        obtain ⟨n, s1⟩ := q
        simp only at HO1 HF2
        go_wp2_with fail
        refine HO1.out.mono ?_
        rintro r w6 ⟨rfl, g1, g2⟩
        have bf := g1.ins.free
        have ba := g1.ins.cell (i := 1) rfl
        have D6 := hid (g1.setA n)
        have T5 := hid (g2.trans (ToD.put w6 1 (.int .i64 n)))
        have T6 := hid (T5.out.mono (G := fun j => (j = R ∨ j = X) ∨ IT + 1 ≤ j) (fun _ _ h => Or.inl h))
        have O6 := hid (own_tod O1.out T5.out (by omega) (by omega))
        clear g1 g2
        go_wp2_with fail
        go_roundw
        case rel => exact ⟨k + 1, n, B, xs, s1, u, by omega, hid (iter_keep I1.out (by omega) (by omega) T6.out), D6, O6, H16, HF2, hid (T1.out.trans (ToL.wide T6.out))⟩
        case measure =>
          have h2 : World.iterPos (w6.setCell ⟨X, 1, none⟩ (.int .i64 n)) IT = k + 1 := by simp [World.iterPos, iter_keep I1.out (show R < IT by omega) (show X < IT by omega) T6.out]
          rw [HMU.out, h2]; omega
      · have HN := hid (cnumD D1.out)
        have HF2 := hid (show frmL (form.data.toList.drop (k + 1)) (((numM (takeM ((numM s).1.toNat - xs.length) (sayM (decide (16 < (numM s).1)) 2 (numM s).2)).2).1, B, xs ++ (takeM ((numM s).1.toNat - xs.length) (sayM (decide (16 < (numM s).1)) 2 (numM s).2)).1), (numM (takeM ((numM s).1.toNat - xs.length) (sayM (decide (16 < (numM s).1)) 2 (numM s).2)).2).2) = fin from HF1.out)
        clear HF1
        have hnf := (numM_facts s).1
        generalize numM s = q at *
        obtain ⟨n0, S1⟩ := q
        simp only at HN HF2 hnf
        obtain ⟨N, rfl⟩ := Int.eq_ofNat_of_zero_le hnf
        rw [Int.toNat_natCast] at HF2
        clear hnf
        have HSB := hid (show (sayM (decide (16 < (N : Int))) 2 S1).2 = 0 → N ≤ 16 from fun g => Classical.byContradiction (fun g2 => say_bad (e := 2) (by decide) S1 (by rw [← decide_eq_true (show (16 : Int) < (N : Int) by omega)]; exact g)))
        have HSG := hid (fun wx (h : DuC wx R X t.size S1 op A B u) => csayD (decide ((16 : Int) < (N : Int))) 2 h)
        generalize hS2 : sayM (decide (16 < (N : Int))) 2 S1 = S2 at *
        clear hS2
        go_wp2_with fail
        refine HN.out.mono ?_
        rintro r w6 ⟨rfl, g1, g2⟩
        have D6 := hid g1
        have T6 := hid g2
        clear g1 g2
        go_wp2_with fail
        refine (HSG.out _ D6.out).mono ?_
        rintro r w7 ⟨rfl, g1, g2⟩
        have D7 := hid g1
        have T7 := hid ((T6.out.trans g2).mono (G := fun j => (j = R ∨ j = X) ∨ IT + 1 ≤ j) (fun _ _ h => Or.inl h))
        have O7 := hid (own_tod O1.out (T6.out.trans g2) (by omega) (by omega))
        have hIW := hid (lt_of_block I1.out)
        clear g1 g2
        go_wp2_with fail
        go_loopw [] (fun wr => ∃ (ys : List Int) (sk : ByteArray × Int) (u2 : Value), Hid (DuC wr R X t.size sk op A B u2) ∧ Hid (OwnI wr (IT + 1) .i64 2 u2 ys) ∧ Hid (ys.length ≤ 16) ∧ Hid (sk.2 = 0 → N ≤ 16) ∧ Hid (xs ++ (takeM (N - xs.length) S2).1 = ys ++ (takeM (N - ys.length) sk).1 ∧ (takeM (N - xs.length) S2).2 = (takeM (N - ys.length) sk).2) ∧ Hid (ToL R X (IT + 1) W1 wr)) (fun wr => N - toLen wr X)
        case atStart => exact ⟨xs, S2, u, D7, O7, H16, HSB, hid ⟨rfl, rfl⟩, T7⟩
        case round =>
          obtain ⟨ys, sk, u2, D2, O2, L2, HSB2, HE2, T2⟩ := hrel
          obtain ⟨ao, cap, rfl, _⟩ := own_sl O2.out
          have y2 := D2.out.cu.cell (i := 2) rfl
          have y3 := D2.out.ins.cell (i := 3) rfl
          by_cases hb : sk.2 = 0
          · have hb2 : (sk.2 == 0) = true := by rw [hb]; rfl
            have hN16 := HSB2.out hb
            by_cases hlt1 : ys.length < N
            · have hd1 : decide ((ys.length : Int) < (N : Int)) = true := decide_eq_true (by omega)
              have HSGm := hid (cnumD D2.out.drew)
              have HTL := hid (toLen_own D2.out O2.out)
              have HST2 := hid (show takeM (N - ys.length) sk = ((numM sk).1 :: (takeM (N - (ys.length + 1)) (numM sk).2).1, (takeM (N - (ys.length + 1)) (numM sk).2).2) by
                rw [show N - ys.length = (N - (ys.length + 1)) + 1 by omega, take_next _ _ hb])
              have HS4 := hid (fun _ : (numM sk).2.2 = 0 => hN16)
              rw [HST2.out] at HE2
              clear HST2
              generalize numM sk = z at *
              obtain ⟨zv, zs⟩ := z
              simp only at HSGm HE2 HS4
              have HSZ := hid (show IT + 1 ≤ wr.heap.size from Nat.le_trans hIW.out T2.out.size)
              have x1 : wr.drew.cell? ⟨X, 3, none⟩ = some (.slice ao ys.length cap) := D2.out.drew.ins.cell (i := 3) rfl
              have x1f : wr.drew.frozen? ⟨X, 3, none⟩ = false := D2.out.drew.ins.free 3
              have hl1 : ys.length + 1 ≤ 17 := by omega
              clear hb
              go_wp2_with fail
              go_region_law (first | (go_simp; go_at_call 54; go_loud ((with_reducible refine HSGm.out.mono ?_); rintro r w8 ⟨rfl, g1, g2⟩; have OW3 := hid (own_tod (w := wr.drew) O2.out g2 (by omega) (by omega)); have TC3 := hid ((T2.out.drew1).trans (g2.mono (fun _ _ g => Or.inl g))); have SZ3 := hid (show IT + 1 ≤ w8.heap.size from Nat.le_trans hIW.out TC3.out.size); have c1 := g1.ins.cell (i := 3) rfl; have c1a := (fun o => cell_alloc o c1); have D3 := hid g1; clear g1 g2)) | (refine step_one1 elem_i64v (cs := [.int .i64 zv]) (by rfl) _ _ (by rfl) (by rfl) (by rfl) rfl OW3.out (by rfl) (by intro c hc; simp at hc; subst hc; rfl) (by omega) (by omega) SZ3.out ?_; intro v' w9 ho hb hg; obtain ⟨ao2, cap2, rfl, _⟩ := own_sl ho; have K4 := hid (KT.grown hg.1 OW3.out); have D4 := hid (D3.out.kt K4.out); have z1 := D4.out.ins.cell (i := 3) rfl; have zf := D4.out.ins.free 3; have T4 := hid (TC3.out.trans (Touch.grown hg.1 (fun j e => Or.inr (World.ownsRow.lt OW3.out j e).1))); have HG := hid ho; clear ho hb hg))
              all_goals
                go_wp2_with fail
                go_roundw
                case rel =>
                  refine ⟨ys ++ [zv], zs, .slice ao2 (ys.length + 1) cap2, hid (D4.out.setT _), hid ?_, hid (by rw [List.length_append]; simp only [List.length_singleton]; omega), HS4, hid (by rw [List.length_append, List.append_assoc]; exact HE2.out), hid (T4.out.trans (Touch.setCell (F := fun j => (j = R ∨ j = X) ∨ IT + 1 ≤ j) (a := ⟨X, 3, none⟩) (Or.inl (Or.inr rfl)) _))⟩
                  show World.ownsRow _ _ _ _ _ (ys ++ [zv]).length ((ys ++ [zv]).map _)
                  rw [List.length_append, List.map_append]
                  exact (KT.set D4.out.ins _).own HG.out rfl
                case measure =>
                  have h2 : toLen (w9.setCell ⟨X, 3, none⟩ (.slice ao2 (ys.length + 1) cap2)) X = ys.length + 1 := by
                    have h3 := (D4.out.setT (.slice ao2 (ys.length + 1) cap2)).ins.cell (i := 3) rfl
                    unfold toLen
                    rw [h3]
                  rw [HTL.out, h2]; omega
            · have hd1 : decide ((ys.length : Int) < (N : Int)) = false := decide_eq_false (by omega)
              have HE := hid (show xs ++ (takeM (N - xs.length) S2).1 = ys ∧ (takeM (N - xs.length) S2).2 = sk by
                rw [HE2.out.1, HE2.out.2, show N - ys.length = 0 by omega]; simp [takeM])
              clear hb
              go_wp2_with fail
              have HP := hid (cnumD D2.out)
              have HF3 := hid (show frmL (form.data.toList.drop (k + 1)) (((numM sk).1, B, ys), (numM sk).2) = fin by rw [← HF2.out]; simp only [HE.out.1, HE.out.2])
              generalize numM sk = z at *
              obtain ⟨zv, zs⟩ := z
              simp only at HP HF3
              clear y2 y3
              refine HP.out.mono ?_
              rintro r2 w8 ⟨rfl, g1, g2⟩
              have bf := g1.ins.free
              have ba := g1.ins.cell (i := 1) rfl
              have D8 := hid (g1.setA zv)
              have T7 := hid (g2.trans (ToD.put w8 1 (.int .i64 zv)))
              have O8 := hid (own_tod O2.out T7.out (by omega) (by omega))
              have T8 := hid (T2.out.trans (T7.out.mono (fun _ _ h => Or.inl h)))
              clear g1 g2
              go_wp2_with fail
              go_roundw
              case rel => exact ⟨k + 1, zv, B, ys, zs, _, by omega, hid (iter_keep I1.out (by omega) (by omega) T8.out), D8, O8, L2, HF3, hid (T1.out.trans (ToL.wide T8.out))⟩
              case measure =>
                have h2 : World.iterPos (w8.setCell ⟨X, 1, none⟩ (.int .i64 zv)) IT = k + 1 := by simp [World.iterPos, iter_keep I1.out (show R < IT by omega) (show X < IT by omega) T8.out]
                rw [HMU.out, h2]; omega
          · have hb2 : (sk.2 == 0) = false := by simpa using hb
            have HE := hid (show xs ++ (takeM (N - xs.length) S2).1 = ys ∧ (takeM (N - xs.length) S2).2 = sk by
              rw [HE2.out.1, HE2.out.2, take_bad _ _ hb]; simp)
            clear hb
            go_wp2_with fail
            have HP := hid (cnumD D2.out)
            have HF3 := hid (show frmL (form.data.toList.drop (k + 1)) (((numM sk).1, B, ys), (numM sk).2) = fin by rw [← HF2.out]; simp only [HE.out.1, HE.out.2])
            generalize numM sk = z at *
            obtain ⟨zv, zs⟩ := z
            simp only at HP HF3
            clear y2 y3
            refine HP.out.mono ?_
            rintro r2 w8 ⟨rfl, g1, g2⟩
            have bf := g1.ins.free
            have ba := g1.ins.cell (i := 1) rfl
            have D8 := hid (g1.setA zv)
            have T7 := hid (g2.trans (ToD.put w8 1 (.int .i64 zv)))
            have O8 := hid (own_tod O2.out T7.out (by omega) (by omega))
            have T8 := hid (T2.out.trans (T7.out.mono (fun _ _ h => Or.inl h)))
            clear g1 g2
            go_wp2_with fail
            go_roundw
            case rel => exact ⟨k + 1, zv, B, ys, zs, _, by omega, hid (iter_keep I1.out (by omega) (by omega) T8.out), D8, O8, L2, HF3, hid (T1.out.trans (ToL.wide T8.out))⟩
            case measure =>
              have h2 : World.iterPos (w8.setCell ⟨X, 1, none⟩ (.int .i64 zv)) IT = k + 1 := by simp [World.iterPos, iter_keep I1.out (show R < IT by omega) (show X < IT by omega) T8.out]
              rw [HMU.out, h2]; omega
      · have HO1 := hid (coctD D1.out)
        have HF2 := hid (show frmL (form.data.toList.drop (k + 1)) ((A, B, xs), sayM (decide ((octM s).1 ≠ 0)) 4 (octM s).2) = fin from HF1.out)
        clear HF1
        generalize octM s = q at *
        obtain ⟨n, s1⟩ := q
        simp only at HO1 HF2
        have e1 : ((n : Int) != 0) = decide (n ≠ 0) := by rw [Bool.eq_iff_iff]; simp
        generalize decide (n ≠ 0) = bz at *
        go_wp2_with fail
        refine HO1.out.mono ?_
        rintro r w6 ⟨rfl, g1, g2⟩
        have D6 := hid g1
        have T6 := hid g2
        have HS := hid (csayD bz 4 D6.out)
        clear g1 g2
        go_wp2_with fail
        refine HS.out.mono ?_
        rintro r w7 ⟨rfl, g1, g2⟩
        have D7 := hid g1
        have T7 := hid ((T6.out.trans g2).mono (G := fun j => (j = R ∨ j = X) ∨ IT + 1 ≤ j) (fun _ _ h => Or.inl h))
        have O7 := hid (own_tod O1.out (T6.out.trans g2) (by omega) (by omega))
        clear g1 g2
        go_wp2_with fail
        go_roundw
        case rel => exact ⟨k + 1, A, B, xs, _, u, by omega, hid (iter_keep I1.out (by omega) (by omega) T7.out), D7, O7, H16, HF2, hid (T1.out.trans (ToL.wide T7.out))⟩
        case measure =>
          have h2 : World.iterPos w7 IT = k + 1 := by simp [World.iterPos, iter_keep I1.out (show R < IT by omega) (show X < IT by omega) T7.out]
          rw [HMU.out, h2]; omega
      · have HO1 := hid (cnumD D1.out)
        have HF2 := hid (show frmL (form.data.toList.drop (k + 1)) ((A, (numM s).1, xs), (numM s).2) = fin from HF1.out)
        clear HF1
        generalize numM s = q at *
        obtain ⟨n, s1⟩ := q
        simp only at HO1 HF2
        go_wp2_with fail
        refine HO1.out.mono ?_
        rintro r w6 ⟨rfl, g1, g2⟩
        have bf := g1.ins.free
        have ba := g1.ins.cell (i := 2) rfl
        have D6 := hid (g1.setB n)
        have T5 := hid (g2.trans (ToD.put w6 2 (.int .i64 n)))
        have T6 := hid (T5.out.mono (G := fun j => (j = R ∨ j = X) ∨ IT + 1 ≤ j) (fun _ _ h => Or.inl h))
        have O6 := hid (own_tod O1.out T5.out (by omega) (by omega))
        clear g1 g2
        go_wp2_with fail
        go_roundw
        case rel => exact ⟨k + 1, A, n, xs, s1, u, by omega, hid (iter_keep I1.out (by omega) (by omega) T6.out), D6, O6, H16, HF2, hid (T1.out.trans (ToL.wide T6.out))⟩
        case measure =>
          have h2 : World.iterPos (w6.setCell ⟨X, 2, none⟩ (.int .i64 n)) IT = k + 1 := by simp [World.iterPos, iter_keep I1.out (show R < IT by omega) (show X < IT by omega) T6.out]
          rw [HMU.out, h2]; omega
      · have HO1 := hid (csgnD 32 (.inl rfl) D1.out)
        have HF2 := hid (show frmL (form.data.toList.drop (k + 1)) (((sgnM 32 s).1, B, xs), (sgnM 32 s).2) = fin from HF1.out)
        clear HF1
        generalize sgnM 32 s = q at *
        obtain ⟨n, s1⟩ := q
        simp only at HO1 HF2
        go_wp2_with fail
        refine HO1.out.mono ?_
        rintro r w6 ⟨rfl, g1, g2⟩
        have bf := g1.ins.free
        have ba := g1.ins.cell (i := 1) rfl
        have D6 := hid (g1.setA n)
        have T5 := hid (g2.trans (ToD.put w6 1 (.int .i64 n)))
        have T6 := hid (T5.out.mono (G := fun j => (j = R ∨ j = X) ∨ IT + 1 ≤ j) (fun _ _ h => Or.inl h))
        have O6 := hid (own_tod O1.out T5.out (by omega) (by omega))
        clear g1 g2
        go_wp2_with fail
        go_roundw
        case rel => exact ⟨k + 1, n, B, xs, s1, u, by omega, hid (iter_keep I1.out (by omega) (by omega) T6.out), D6, O6, H16, HF2, hid (T1.out.trans (ToL.wide T6.out))⟩
        case measure =>
          have h2 : World.iterPos (w6.setCell ⟨X, 1, none⟩ (.int .i64 n)) IT = k + 1 := by simp [World.iterPos, iter_keep I1.out (show R < IT by omega) (show X < IT by omega) T6.out]
          rw [HMU.out, h2]; omega
      · have HO1 := hid (csgnD 64 (.inr rfl) D1.out)
        have HF2 := hid (show frmL (form.data.toList.drop (k + 1)) (((sgnM 64 s).1, B, xs), (sgnM 64 s).2) = fin from HF1.out)
        clear HF1
        generalize sgnM 64 s = q at *
        obtain ⟨n, s1⟩ := q
        simp only at HO1 HF2
        go_wp2_with fail
        refine HO1.out.mono ?_
        rintro r w6 ⟨rfl, g1, g2⟩
        have bf := g1.ins.free
        have ba := g1.ins.cell (i := 1) rfl
        have D6 := hid (g1.setA n)
        have T5 := hid (g2.trans (ToD.put w6 1 (.int .i64 n)))
        have T6 := hid (T5.out.mono (G := fun j => (j = R ∨ j = X) ∨ IT + 1 ≤ j) (fun _ _ h => Or.inl h))
        have O6 := hid (own_tod O1.out T5.out (by omega) (by omega))
        clear g1 g2
        go_wp2_with fail
        go_roundw
        case rel => exact ⟨k + 1, n, B, xs, s1, u, by omega, hid (iter_keep I1.out (by omega) (by omega) T6.out), D6, O6, H16, HF2, hid (T1.out.trans (ToL.wide T6.out))⟩
        case measure =>
          have h2 : World.iterPos (w6.setCell ⟨X, 1, none⟩ (.int .i64 n)) IT = k + 1 := by simp [World.iterPos, iter_keep I1.out (show R < IT by omega) (show X < IT by omega) T6.out]
          rw [HMU.out, h2]; omega
    · have hnext : ∀ ty, (Instr.next (.pointer (some ⟨IT, 0, none⟩)) true ty).run Tryz.prog wr = _ := fun ty => run_next_end_at wr IT form k ty HI.out hp
      have HFE := hid (show (((A, B, xs), s) : FQ) = fin by rw [← HFR.out, List.drop_eq_nil_of_le (by rw [HL.out]; omega)]; rfl)
      have HR := hid (R5.out.touch TC.out (by omega))
      have HB := hid (B5.out.trans (TC.out.below B5.out.size (fun j hj => by omega)))
      have cb := D.out.cu.cell (i := 2) rfl
      have hrf := HR.out.free
      have hr0 := HR.out.cell (i := 0) rfl
      have hr1 := HR.out.cell (i := 1) rfl
      have hr2 := HR.out.cell (i := 2) rfl
      have hr3 := HR.out.cell (i := 3) rfl
      obtain ⟨ao, cap, rfl, _⟩ := own_sl OW.out
      have q0 : wr.drew.cell? ⟨w.heap.size, 0, none⟩ = some (.int .u8 0) := hr0
      have q1 : wr.drew.cell? ⟨w.heap.size, 1, none⟩ = some (.int .i64 0) := hr1
      have q2 : wr.drew.cell? ⟨w.heap.size, 2, none⟩ = some (.int .i64 0) := hr2
      have q3 : wr.drew.cell? ⟨w.heap.size, 3, none⟩ = some (.slice none 0 0) := hr3
      have qf : ∀ i, wr.drew.frozen? ⟨w.heap.size, i, none⟩ = false := hrf
      have qb : wr.drew.cell? ⟨R, 2, none⟩ = some (.int .i64 s.2) := cb
      by_cases hc : s.2 = 0
      · have hcn : (s.2 != 0) = false := by rw [hc]; rfl
        have HAT := hid (cat_any wr.drew R t.size s D.out.drew.cu D.out.sz)
        have x0 : wr.drew.cell? ⟨X, 0, none⟩ = some (.int .u8 op) := D.out.ins.cell (i := 0) rfl
        have x1 : wr.drew.cell? ⟨X, 1, none⟩ = some (.int .i64 A) := D.out.ins.cell (i := 1) rfl
        have x2 : wr.drew.cell? ⟨X, 2, none⟩ = some (.int .i64 B) := D.out.ins.cell (i := 2) rfl
        have x3 : wr.drew.cell? ⟨X, 3, none⟩ = some (.slice ao xs.length cap) := D.out.ins.cell (i := 3) rfl
        have HC := hid hc
        have hd1 : ¬ (w.heap.size = X) := by omega
        have hd2 : ¬ (X = w.heap.size) := by omega
        clear hc
        go_wp2_with fail
        go_region_law (first | (go_simp; go_at_call 156; go_loud ((with_reducible refine HAT.out.mono ?_); rintro r w8 ⟨rfl, g1⟩; have R8 := hid ((HR.out.drew 1).below g1); have D8 := hid (D.out.drew.below g1); have B8 := hid (HB.out.trans (Below.trans (drew_bel' (n := 1) (Below.refl _ _)) (g1.mono HB.out.size))); have O8 := hid (own_touch (F := fun _ => False) OW.out (Touch.trans (Touch.drew1 (Touch.refl _ _)) (Touch.of_below g1)) (fun _ _ h => h)); have k0 := R8.out.cell (i := 0) rfl; have k1 := R8.out.cell (i := 1) rfl; have k2 := R8.out.cell (i := 2) rfl; have k3 := R8.out.cell (i := 3) rfl; have kf := R8.out.free; have l0 := D8.out.ins.cell (i := 0) rfl; have l1 := D8.out.ins.cell (i := 1) rfl; have l2 := D8.out.ins.cell (i := 2) rfl; have l3 := D8.out.ins.cell (i := 3) rfl; clear g1)))
        all_goals
          go_wp2_with fail
          refine bodyPost_ret (v := .tuple #[insV op A B (.slice ao xs.length cap), .int .i64 ((t.size : Int) - s.1.size), .int .i64 0]) (by simp [results, Tryz.results122, go_sem, insV, k0, k1, k2, k3]) rfl ?_
          rw [← HFE.out]
          have HX := hid (B8.out.trans (Touch.below (B := w.heap.size) (touch4 (w := w8) (B := w.heap.size) (.int .u8 op) (.int .i64 A) (.int .i64 B) (.slice ao xs.length cap)) B8.out.size (fun j hj => by omega)))
          refine ⟨.slice ao xs.length cap, ?_, HX.out⟩
          show (if s.2 = 0 then _ else _)
          rw [if_pos HC.out]
          refine ⟨rfl, ?_⟩
          exact own_mono' (c := IT + 1) (own_touch (F := fun j => j = w.heap.size) O8.out (touch4 (w := w8) (B := w.heap.size) (.int .u8 op) (.int .i64 A) (.int .i64 B) (.slice ao xs.length cap)) (fun j g e => by
            have h9 : IT + 1 ≤ j := (World.ownsRow.lt O8.out j g).1
            have e9 : j = w.heap.size := e
            omega)) (by omega)
      · have hcn : (s.2 != 0) = true := by simpa using hc
        have HC := hid hc
        clear hc
        go_wp2_with fail
        go_region_law (fail)
        all_goals
          go_wp2_with fail
          refine bodyPost_ret (v := .tuple #[insV 0 0 0 (.slice none 0 0), .int .i64 0, .int .i64 s.2]) (by simp [results, Tryz.results122, go_sem, insV, hr0, hr1, hr2, hr3]) rfl ?_
          rw [← HFE.out]
          refine ⟨.slice none 0 0, ?_, drew_bel' (n := 1) (HB.out.trans ((touch4 (w := wr) (.int .u8 0) (.int .i64 0) (.int .i64 0) (.slice none 0 0)).below (HB.out.size) (fun j hj => by omega)))⟩
          show (if s.2 = 0 then _ else _)
          rw [if_neg HC.out]
end Go.Proofs.YtakfineljffoaaaGreatDoor
