/-
  INSTRUCTIONS: the program's reader, the ways of a table of jumps. Conditions: lengths in the form's reach.
-/
import Derived.Test.YtomaiolhaenmhaaRowK
import Derived.Test.YtomaiolhaenmhaaGNestReads6
import Derived.Test.YtomaiolhaenmhaaKt
import Derived.Test.YtomaiolhaenmhaaFl0
import Derived.Deep.RegionLaw
import Derived.Lib.OthersKept
namespace Go.Proofs.Ytomaiolhaenmhaa
open Go.RowKit Go.Lib
attribute [local go_sem ↓] Go.wp_at_zero Go.wp_at_succ

theorem elem_i64v : Elem Try.prog 88 2 (.int .i64 0) 1 8 := ⟨Try.underlying88, by kernel_rfl, rfl, by decide⟩
/-- so many numbers, till something is wrong -/
def takeM : Nat → ByteArray × Int → List Int × ByteArray × Int
  | 0, s => ([], s)
  | n + 1, s => if s.2 ≠ 0 then ([], s) else ((numM s).1 :: (takeM n (numM s).2).1, (takeM n (numM s).2).2)
theorem take_bad (n : Nat) (s : ByteArray × Int) (h : s.2 ≠ 0) : takeM n s = ([], s) := by
  cases n with
  | zero => rfl
  | succ n => exact if_pos h
theorem take_next (n : Nat) (s : ByteArray × Int) (h : s.2 = 0) : takeM (n + 1) s = ((numM s).1 :: (takeM n (numM s).2).1, (takeM n (numM s).2).2) := if_neg (fun g => g h)
section
variable {w : World} {R X : Nat} {t : ByteArray} {s : ByteArray × Int} {op : Nat} {A B : Int} {u : Value}
theorem DuI.setT (h : DuI w R X t s op A B u) (v : Value) : DuI (w.setCell ⟨X, 3, none⟩ v) R X t s op A B v := by
  obtain ⟨a, h1, h2, h3⟩ := h.rd
  exact ⟨⟨a, h1, h2, h3.other (fun g => h.ne g.symm) _⟩, h.ins.set 3 _, h.ne, h.sz⟩
theorem DuI.drew (h : DuI w R X t s op A B u) : DuI w.drew R X t s op A B u := ⟨h.rd, h.ins, h.ne, h.sz⟩
theorem DuI.kt {w' : World} (h : DuI w R X t s op A B u) (k : KT 2 w w') : DuI w' R X t s op A B u := by
  obtain ⟨a, h1, h2, h3⟩ := h.rd
  exact ⟨⟨a, h1, h2, k.blk h3 rfl⟩, k.blk h.ins rfl, h.ne, h.sz⟩
theorem DuI.lt (h : DuI w R X t s op A B u) : R < w.heap.size ∧ X < w.heap.size := by
  obtain ⟨a, h1, h2, h3⟩ := h.rd
  exact ⟨h3.lt, h.ins.lt⟩
theorem own_tod {w' : World} {H : Nat} {v : Value} {xs : List Int} (h : OwnI w H .i64 2 v xs) (ht : ToD R X w w') (hR : R < H) (hX : X < H) : OwnI w' H .i64 2 v xs :=
  own_touch h ht (fun k hk g => by
    have := (World.ownsRow.lt h k hk).1
    omega)
end
set_option maxRecDepth 100000 in
set_option maxHeartbeats 4000000 in
theorem ibs_4 (w : World) (R X : Nat) (t : ByteArray) (s : ByteArray × Int) (op : Nat) (h : DuI w R X t s op 0 0 (.slice none 0 0)) (hn : (numM s).1 ≤ 16) :
    Calls Try.prog 108 #[.pointer (some ⟨R, 0, none⟩), .pointer (some ⟨X, 0, none⟩), .int .i64 4] w fun r w' => r = .returned (.tuple #[]) ∧
      (∃ u, DuI w' R X t (numM (takeM (numM s).1.toNat (numM s).2).2).2 op (numM (takeM (numM s).1.toNat (numM s).2).2).1 0 u ∧ OwnI w' w.heap.size .i64 2 u (takeM (numM s).1.toNat (numM s).2).1) ∧ ToD R X w w' := by
  have hlt := h.lt
  have H0 := hid (dplain h)
  have hnf := (numM_facts s).1
  generalize numM s = q at *
  obtain ⟨n0, S1⟩ := q
  simp only at H0 hnf hn ⊢
  obtain ⟨N, rfl⟩ := Int.eq_ofNat_of_zero_le hnf
  rw [Int.toNat_natCast]
  have hN : N ≤ 16 := by omega
  clear h hnf
  go_enter Try.func108, Try.ntmps108
  go_wp2_with fail
  refine H0.out.mono ?_
  rintro r0 w1 ⟨rfl, g1, g2⟩
  have DI := hid g1
  have TC := hid (show Touch (fun j => (j = R ∨ j = X) ∨ w.heap.size ≤ j) w w1 from g2.mono (fun _ _ g => Or.inl g))
  have OW : Hid (OwnI w1 w.heap.size .i64 2 (.slice none 0 0) []) := hid (OwnI.nil _ _ _ _)
  clear g1 g2
  go_wp2_with fail
  go_loopw [8] (fun i wr => ∃ (k : Nat) (u : Value) (xs : List Int) (sk : ByteArray × Int), k ≤ N ∧ i = .int .i64 k ∧ Hid (xs.length = k) ∧ Hid (DuI wr R X t sk op 0 0 u) ∧ Hid (OwnI wr w.heap.size .i64 2 u xs) ∧ Hid (takeM N S1 = (xs ++ (takeM (N - k) sk).1, (takeM (N - k) sk).2)) ∧ Hid (Touch (fun j => (j = R ∨ j = X) ∨ w.heap.size ≤ j) w wr)) (fun i _ => N - (RowKit.intOf i).toNat)
  case atStart => exact ⟨0, _, [], S1, Nat.zero_le _, rfl, hid rfl, DI, OW, hid rfl, TC⟩
  case round =>
    obtain ⟨k, u, xs, sk, hk, rfl, HL, DI, OW, HT, TC⟩ := hrel
    have hfree := DI.out.ins.free
    have y0 := DI.out.rd
    obtain ⟨ar, y1, y2, y3⟩ := y0
    have yb := y3.cell (i := 2) rfl
    clear y1 y2 y3
    by_cases hb : sk.2 = 0
    · by_cases hlt1 : k < N
      · have HSG := hid (dplain DI.out.drew)
        have HST := hid (show takeM N S1 = ((xs ++ [(numM sk).1]) ++ (takeM (N - (k + 1)) (numM sk).2).1, (takeM (N - (k + 1)) (numM sk).2).2) by
          rw [HT.out, show N - k = (N - (k + 1)) + 1 by omega, take_next _ _ hb, List.append_assoc]; rfl)
        generalize numM sk = z at *
        obtain ⟨zv, zs⟩ := z
        simp only at HSG HST
        have hb2 : (sk.2 == 0) = true := by rw [hb]; rfl
        have hd1 : decide ((k : Int) < (N : Int)) = true := decide_eq_true (by omega)
        have x1 : wr.drew.cell? ⟨X, 3, none⟩ = some u := DI.out.drew.ins.cell (i := 3) rfl
        have x1f : wr.drew.frozen? ⟨X, 3, none⟩ = false := DI.out.drew.ins.free 3
        have hsz := TC.out.size
        have hw1 : wrap64 ((k : Int) + 1) = ((k + 1 : Nat) : Int) := by unfold wrap64; omega
        have hlx := HL.out
        have hl1 : xs.length + 1 ≤ 17 := by omega
        clear hb hlx
        go_wp2_with fail
        go_region_law (first | (go_simp; go_at_call 162; go_loud ((with_reducible refine HSG.out.mono ?_); rintro r w3 ⟨rfl, g1, g2⟩; have OW3 := hid (own_tod (w := wr.drew) OW.out g2 hlt.1 hlt.2); have TC3 := hid ((TC.out.drew1).trans (g2.mono (fun _ _ g => Or.inl g))); have SZ3 := hid TC3.out.size; have c1 := g1.ins.cell (i := 3) rfl; have c1a := (fun o => cell_alloc o c1); have D3 := hid g1; clear g1 g2)) | (refine step_one1 elem_i64v (cs := [.int .i64 zv]) (by rfl) _ _ (by rfl) (by rfl) (by rfl) rfl OW3.out (by rfl) (by intro c hc; simp at hc; subst hc; rfl) (by omega) (by omega) SZ3.out ?_; intro v' w4 ho hb hg; obtain ⟨ao2, cap2, rfl, _⟩ := own_sl ho; have K4 := hid (KT.grown hg.1 OW3.out); have D4 := hid (D3.out.kt K4.out); have z1 := D4.out.ins.cell (i := 3) rfl; have zf := D4.out.ins.free 3; have T4 := hid (TC3.out.trans (Touch.grown hg.1 (fun j e => Or.inr (World.ownsRow.lt OW3.out j e).1))); have HG := hid ho; clear ho hb hg))
        all_goals
          go_wp2_with fail
          go_roundw
          case rel =>
            refine ⟨k + 1, .slice ao2 (xs.length + 1) cap2, xs ++ [zv], zs, by omega, by go_num, hid (by rw [List.length_append, HL.out]; rfl), hid (D4.out.setT _), hid ?_, HST, hid (T4.out.trans (Touch.setCell (F := fun j => (j = R ∨ j = X) ∨ w.heap.size ≤ j) (a := ⟨X, 3, none⟩) (Or.inl (Or.inr rfl)) _))⟩
            show World.ownsRow _ _ _ _ _ (xs ++ [zv]).length ((xs ++ [zv]).map _)
            rw [List.length_append, List.map_append]
            exact (KT.set D4.out.ins _).own HG.out rfl
          case measure => simp [RowKit.intOf]; omega
      · obtain rfl : k = N := by omega
        have HE := hid (show takeM k S1 = (xs, sk) by rw [HT.out, Nat.sub_self]; simp [takeM])
        have hd1 : decide ((k : Int) < (k : Int)) = false := decide_eq_false (by omega)
        have HP := hid (dplain DI.out)
        clear hfree yb
        go_wp2_with fail
        refine HP.out.mono ?_
        rintro r2 w2 ⟨rfl, g1, g2⟩
        have bf := g1.ins.free
        have ba := g1.ins.cell (i := 1) rfl
        have OW2 := hid (own_tod OW.out g2 hlt.1 hlt.2)
        have T2 := hid (TC.out.trans (g2.mono (fun _ _ g => Or.inl g)))
        have D2 := hid g1
        clear g1 g2
        go_wp2_with fail
        go_end0
        rw [HE.out]
        exact ⟨rfl, ⟨u, D2.out.setA _, (KT.set D2.out.ins _).own OW2.out rfl⟩, Touch.of_new (T2.out.trans (Touch.setCell (F := fun j => (j = R ∨ j = X) ∨ w.heap.size ≤ j) (a := ⟨X, 1, none⟩) (Or.inl (Or.inr rfl)) _))⟩
    · have HE := hid (show takeM N S1 = (xs, sk) by rw [HT.out, take_bad _ _ hb]; simp)
      have hb2 : (sk.2 == 0) = false := by simpa using hb
      clear hb
      by_cases g : k < N
      · have hd1 : decide ((k : Int) < (N : Int)) = true := decide_eq_true (by omega)
        have HP := hid (dplain DI.out)
        go_wp2_with fail
        clear hfree yb
        refine HP.out.mono ?_
        rintro r2 w2 ⟨rfl, g1, g2⟩
        have bf := g1.ins.free
        have ba := g1.ins.cell (i := 1) rfl
        have OW2 := hid (own_tod OW.out g2 hlt.1 hlt.2)
        have T2 := hid (TC.out.trans (g2.mono (fun _ _ g => Or.inl g)))
        have D2 := hid g1
        clear g1 g2
        go_wp2_with fail
        go_end0
        rw [HE.out]
        exact ⟨rfl, ⟨u, D2.out.setA _, (KT.set D2.out.ins _).own OW2.out rfl⟩, Touch.of_new (T2.out.trans (Touch.setCell (F := fun j => (j = R ∨ j = X) ∨ w.heap.size ≤ j) (a := ⟨X, 1, none⟩) (Or.inl (Or.inr rfl)) _))⟩
      · have hd1 : decide ((k : Int) < (N : Int)) = false := decide_eq_false (by omega)
        have HP := hid (dplain DI.out)
        go_wp2_with fail
        clear hfree yb
        refine HP.out.mono ?_
        rintro r2 w2 ⟨rfl, g1, g2⟩
        have bf := g1.ins.free
        have ba := g1.ins.cell (i := 1) rfl
        have OW2 := hid (own_tod OW.out g2 hlt.1 hlt.2)
        have T2 := hid (TC.out.trans (g2.mono (fun _ _ g => Or.inl g)))
        have D2 := hid g1
        clear g1 g2
        go_wp2_with fail
        go_end0
        rw [HE.out]
        exact ⟨rfl, ⟨u, D2.out.setA _, (KT.set D2.out.ins _).own OW2.out rfl⟩, Touch.of_new (T2.out.trans (Touch.setCell (F := fun j => (j = R ∨ j = X) ∨ w.heap.size ≤ j) (a := ⟨X, 1, none⟩) (Or.inl (Or.inr rfl)) _))⟩

theorem say_bad {e : Int} (he : e ≠ 0) (s : ByteArray × Int) : (sayM true e s).2 ≠ 0 := by
  rw [say_true]
  unfold bad1
  split <;> assumption
set_option maxRecDepth 100000 in
set_option maxHeartbeats 4000000 in
theorem ibs_4x (w : World) (R X : Nat) (t : ByteArray) (s : ByteArray × Int) (op : Nat) (h : DuI w R X t s op 0 0 (.slice none 0 0)) (hn : 16 < (numM s).1) :
    Calls Try.prog 108 #[.pointer (some ⟨R, 0, none⟩), .pointer (some ⟨X, 0, none⟩), .int .i64 4] w fun r w' => r = .returned (.tuple #[]) ∧
      DuI w' R X t (numM (sayM true 2 (numM s).2)).2 op (numM (sayM true 2 (numM s).2)).1 0 (.slice none 0 0) ∧ ToD R X w w' := by
  have H0 := hid (dplain h)
  generalize numM s = q at *
  obtain ⟨n0, S1⟩ := q
  simp only at H0 hn ⊢
  have hb := say_bad (e := 2) (by decide) S1
  have HF := hid (fun wx (hx : DuI wx R X t S1 op 0 0 (.slice none 0 0)) => dfail 2 hx)
  generalize sayM true 2 S1 = s2 at *
  have hb2 : (s2.2 == 0) = false := by simpa using hb
  have hn0 : (0 : Int) < n0 := by omega
  clear h hb
  go_enter Try.func108, Try.ntmps108
  go_wp2_with fail
  refine H0.out.mono ?_
  rintro r0 w1 ⟨rfl, g1, g2⟩
  have D1 := hid (And.intro g1 g2)
  clear g1 g2
  go_wp2_with fail
  refine (HF.out _ D1.out.1).mono ?_
  rintro r1 w2 ⟨rfl, g1, g2⟩
  have DI := hid g1
  have TC := hid (D1.out.2.trans g2)
  clear g1 g2
  go_wp2_with fail
  go_loopw [8] (fun i wr => i = .int .i64 0 ∧ Hid (DuI wr R X t s2 op 0 0 (.slice none 0 0)) ∧ Hid (ToD R X w wr)) (fun _ _ => 0)
  case atStart => exact ⟨rfl, DI, TC⟩
  case round =>
    obtain ⟨rfl, DI, TC⟩ := hrel
    obtain ⟨ar, y1, y2, y3⟩ := DI.out.rd
    have yb := y3.cell (i := 2) rfl
    clear y1 y2 y3
    have HP := hid (dplain DI.out)
    go_wp2_with fail
    clear yb
    refine HP.out.mono ?_
    rintro r2 w3 ⟨rfl, g1, g2⟩
    have bf := g1.ins.free
    have ba := g1.ins.cell (i := 1) rfl
    have D2 := hid (And.intro g1 g2)
    clear g1 g2
    go_wp2_with fail
    go_end0
    exact ⟨rfl, D2.out.1.setA _, (TC.out.trans D2.out.2).trans (ToD.put _ _ _)⟩
end Go.Proofs.Ytomaiolhaenmhaa
/-
  INSTRUCTIONS: what stands beside an instruction, read by the program: all kinds in one. Conditions: lengths in the form's reach.
-/
namespace Go.Proofs.Ytomaiolhaenmhaa
open Go.RowKit Go.Lib

/-- what stands beside an instruction: two numbers, a list; and what is left -/
def besM (k : Nat) (s : ByteArray × Int) : (Int × Int × List Int) × (ByteArray × Int) :=
  match k with
  | 2 => (((octM s).1, 0, []), sayM (okK (octM s).1) 6 (octM s).2)
  | 3 => (((numM s).1, 0, []), (numM s).2)
  | 4 => (((numM (takeM (numM s).1.toNat (sayM (decide (16 < (numM s).1)) 2 (numM s).2)).2).1, 0, (takeM (numM s).1.toNat (sayM (decide (16 < (numM s).1)) 2 (numM s).2)).1), (numM (takeM (numM s).1.toNat (sayM (decide (16 < (numM s).1)) 2 (numM s).2)).2).2)
  | 5 => (((numM s).1, 0, []), nogM (numM s).2)
  | 6 => (((numM s).1, (numM (numM s).2).1, []), (numM (numM s).2).2)
  | 7 => ((0, 0, []), nogM s)
  | 8 => (((sgnM 32 s).1, 0, []), (sgnM 32 s).2)
  | 9 => (((sgnM 64 s).1, 0, []), (sgnM 64 s).2)
  | _ => ((0, 0, []), s)
theorem own_nil0 (w : World) (H : Nat) : OwnI w H .i64 2 (.slice none 0 0) [] := OwnI.nil _ _ _ _
theorem ibs_any (w : World) (R X : Nat) (t : ByteArray) (s : ByteArray × Int) (op k : Nat) (hk : 1 ≤ k ∧ k ≤ 9) (h : DuI w R X t s op 0 0 (.slice none 0 0)) (h0 : s.2 = 0) :
    Calls Try.prog 108 #[.pointer (some ⟨R, 0, none⟩), .pointer (some ⟨X, 0, none⟩), .int .i64 k] w fun r w' => r = .returned (.tuple #[]) ∧
      (∃ u, DuI w' R X t (besM k s).2 op (besM k s).1.1 (besM k s).1.2.1 u ∧ OwnI w' w.heap.size .i64 2 u (besM k s).1.2.2) ∧ ToD R X w w' := by
  rcases (by omega : k = 1 ∨ k = 2 ∨ k = 3 ∨ k = 4 ∨ k = 5 ∨ k = 6 ∨ k = 7 ∨ k = 8 ∨ k = 9) with rfl | rfl | rfl | rfl | rfl | rfl | rfl | rfl | rfl
  · exact (ibs_1 w R X t s op _ h).mono (fun _ _ ⟨e, g, ht⟩ => ⟨e, ⟨_, g, own_nil0 _ _⟩, ht⟩)
  · exact (ibs_2 w R X t s op _ h).mono (fun _ _ ⟨e, g, ht⟩ => ⟨e, ⟨_, g, own_nil0 _ _⟩, ht⟩)
  · exact (ibs_3 w R X t s op _ h).mono (fun _ _ ⟨e, g, ht⟩ => ⟨e, ⟨_, g, own_nil0 _ _⟩, ht⟩)
  · unfold besM
    simp only
    by_cases hn : 16 < (numM s).1
    · rw [decide_eq_true hn, take_bad _ _ (say_bad (by decide) _)]
      exact (ibs_4x w R X t s op h hn).mono (fun _ _ ⟨e, g, ht⟩ => ⟨e, ⟨_, g, own_nil0 _ _⟩, ht⟩)
    · rw [decide_eq_false hn, say_false]
      exact ibs_4 w R X t s op h (by omega)
  · exact (ibs_5 w R X t s op _ h).mono (fun _ _ ⟨e, g, ht⟩ => ⟨e, ⟨_, g, own_nil0 _ _⟩, ht⟩)
  · exact (ibs_6 w R X t s op _ h).mono (fun _ _ ⟨e, g, ht⟩ => ⟨e, ⟨_, g, own_nil0 _ _⟩, ht⟩)
  · exact (ibs_7 w R X t s op _ h).mono (fun _ _ ⟨e, g, ht⟩ => ⟨e, ⟨_, g, own_nil0 _ _⟩, ht⟩)
  · exact (ibs_8 w R X t s op _ h h0).mono (fun _ _ ⟨e, g, ht⟩ => ⟨e, ⟨_, g, own_nil0 _ _⟩, ht⟩)
  · exact (ibs_9 w R X t s op _ h h0).mono (fun _ _ ⟨e, g, ht⟩ => ⟨e, ⟨_, g, own_nil0 _ _⟩, ht⟩)
end Go.Proofs.Ytomaiolhaenmhaa
/-
  INSTRUCTIONS: the reference's Read: its cursor and its instruction, and what one letter of the form does. Conditions: lengths in the form's reach.
-/
namespace Go.Proofs.Ytomaiolhaenmhaa
open Go.RowKit Go.Lib

/-- the cursor at block R, s left; the instruction at block X -/
structure DuC (w : World) (R X : Nat) (all : Int) (s : ByteArray × Int) (op : Nat) (A B : Int) (u : Value) : Prop where
  cu : CuB w R all s
  ins : Blk w X 90 [.int .u8 op, .int .i64 A, .int .i64 B, u]
  ne : R ≠ X
  sz : (s.1.size : Int) ≤ all ∧ all ≤ 140737488351232
theorem octM_size (s : ByteArray × Int) : (octM s).2.1.size ≤ s.1.size := by
  unfold octM
  split
  · exact Nat.le_refl _
  · split
    · simp only [ByteArray.size_extract]; omega
    · exact Nat.le_refl _
theorem say_fst (is : Bool) (e : Int) (s : ByteArray × Int) : (sayM is e s).1 = s.1 := by unfold sayM; split <;> rfl
section
variable {w : World} {R X : Nat} {all : Int} {s : ByteArray × Int} {op : Nat} {A B : Int} {u : Value}
theorem DuC.setA (h : DuC w R X all s op A B u) (C : Int) : DuC (w.setCell ⟨X, 1, none⟩ (.int .i64 C)) R X all s op C B u := ⟨h.cu.other (fun g => h.ne g.symm) _, h.ins.set 1 _, h.ne, h.sz⟩
theorem DuC.setB (h : DuC w R X all s op A B u) (C : Int) : DuC (w.setCell ⟨X, 2, none⟩ (.int .i64 C)) R X all s op A C u := ⟨h.cu.other (fun g => h.ne g.symm) _, h.ins.set 2 _, h.ne, h.sz⟩
theorem DuC.setT (h : DuC w R X all s op A B u) (v : Value) : DuC (w.setCell ⟨X, 3, none⟩ v) R X all s op A B v := ⟨h.cu.other (fun g => h.ne g.symm) _, h.ins.set 3 _, h.ne, h.sz⟩
theorem DuC.drew (h : DuC w R X all s op A B u) : DuC w.drew R X all s op A B u := ⟨h.cu, h.ins, h.ne, h.sz⟩
theorem DuC.kt {w' : World} (h : DuC w R X all s op A B u) (k : KT 2 w w') : DuC w' R X all s op A B u := ⟨k.blk h.cu rfl, k.blk h.ins rfl, h.ne, h.sz⟩
theorem DuC.lt (h : DuC w R X all s op A B u) : R < w.heap.size ∧ X < w.heap.size := ⟨h.cu.lt, h.ins.lt⟩
theorem DuC.okS (h : DuC w R X all s op A B u) : okSc s := by have := h.sz; unfold okSc; omega
theorem DuC.same {w' : World} (h : DuC w R X all s op A B u) (hR : w'.heap[R]? = w.heap[R]?) (hX : w'.heap[X]? = w.heap[X]?) : DuC w' R X all s op A B u := ⟨h.cu.same hR, h.ins.same hX, h.ne, h.sz⟩
theorem DuC.below {w' : World} (h : DuC w R X all s op A B u) (hb : Below w.heap.size w w') : DuC w' R X all s op A B u := ⟨h.cu.below hb, h.ins.below hb, h.ne, h.sz⟩
theorem DuC.next {w' : World} {s' : ByteArray × Int} (h : DuC w R X all s op A B u) (g : CuB w' R all s') (hs : s'.1.size ≤ s.1.size) (ht : ToC R w w') : DuC w' R X all s' op A B u :=
  ⟨g, h.ins.touch ht (fun e => h.ne e.symm), h.ne, by have := h.sz; omega⟩
theorem cnumD (h : DuC w R X all s op A B u) :
    Calls Try.prog 113 #[.pointer (some ⟨R, 0, none⟩)] w fun r w' => r = .returned (.int .i64 (numM s).1) ∧ DuC w' R X all (numM s).2 op A B u ∧ ToD R X w w' :=
  (cnum_any w R all s h.cu h.okS).mono (fun _ _ ⟨e, g, ht⟩ => ⟨e, h.next g (numM_facts s).2.2.1 ht, .of ht⟩)
theorem csgnD (bits : Nat) (hb : bits = 32 ∨ bits = 64) (h : DuC w R X all s op A B u) :
    Calls Try.prog 114 #[.pointer (some ⟨R, 0, none⟩), .int .i64 bits] w fun r w' => r = .returned (.int .i64 (sgnM bits s).1) ∧ DuC w' R X all (sgnM bits s).2 op A B u ∧ ToD R X w w' :=
  (csigned_any w R all s bits hb h.cu h.okS).mono (fun _ _ ⟨e, g, ht⟩ => ⟨e, h.next g (sgnM_facts hb s).2.2 ht, .of ht⟩)
theorem coctD (h : DuC w R X all s op A B u) :
    Calls Try.prog 110 #[.pointer (some ⟨R, 0, none⟩)] w fun r w' => r = .returned (.int .i64 (octM s).1) ∧ DuC w' R X all (octM s).2 op A B u ∧ ToD R X w w' :=
  (coctet_any w R all s h.cu h.okS).mono (fun _ _ ⟨e, g, ht⟩ => ⟨e, h.next g (octM_size s) ht, .of ht⟩)
theorem csayD (is : Bool) (e : Int) (h : DuC w R X all s op A B u) :
    Calls Try.prog 112 #[.pointer (some ⟨R, 0, none⟩), .bool is, .int .i64 e] w fun r w' => r = .returned (.tuple #[]) ∧ DuC w' R X all (sayM is e s) op A B u ∧ ToD R X w w' :=
  (csay_any w R all s is e h.cu).mono (fun _ _ ⟨e, g, ht⟩ => ⟨e, h.next g (by rw [say_fst]; exact Nat.le_refl _) ht, .of ht⟩)
end

abbrev FQ := (Int × Int × List Int) × (ByteArray × Int)
/-- the letter t: how many, the list, the last -/
def frmT (q : FQ) : FQ :=
  (((numM (takeM ((numM q.2).1.toNat - q.1.2.2.length) (sayM (decide (16 < (numM q.2).1)) 2 (numM q.2).2)).2).1, q.1.2.1, q.1.2.2 ++ (takeM ((numM q.2).1.toNat - q.1.2.2.length) (sayM (decide (16 < (numM q.2).1)) 2 (numM q.2).2)).1),
    (numM (takeM ((numM q.2).1.toNat - q.1.2.2.length) (sayM (decide (16 < (numM q.2).1)) 2 (numM q.2).2)).2).2)
/-- what one letter of the form does -/
def frm1 (c : UInt8) (q : FQ) : FQ :=
  if c = 107 then (((octM q.2).1, q.1.2.1, q.1.2.2), sayM (okK (octM q.2).1) 6 (octM q.2).2)
  else if c = 97 then (((numM q.2).1, q.1.2.1, q.1.2.2), (numM q.2).2)
  else if c = 98 then ((q.1.1, (numM q.2).1, q.1.2.2), (numM q.2).2)
  else if c = 122 then (q.1, nogM q.2)
  else if c = 99 then (((sgnM 32 q.2).1, q.1.2.1, q.1.2.2), (sgnM 32 q.2).2)
  else if c = 100 then (((sgnM 64 q.2).1, q.1.2.1, q.1.2.2), (sgnM 64 q.2).2)
  else if c = 116 then frmT q
  else q
def frmL (l : List UInt8) (q : FQ) : FQ := l.foldl (fun q c => frm1 c q) q
theorem frm_next {l : List UInt8} {k : Nat} (h : k < l.length) (q : FQ) : frmL (l.drop k) q = frmL (l.drop (k + 1)) (frm1 l[k] q) := by
  unfold frmL
  rw [List.drop_eq_getElem_cons h]
  rfl
theorem num_keep {s : ByteArray × Int} (h : s.2 ≠ 0) : (numM s).2 = s := by unfold numM; split; rfl; contradiction
theorem sgn_keep {b : Nat} {s : ByteArray × Int} (h : s.2 ≠ 0) : (sgnM b s).2 = s := by unfold sgnM; split; rfl; contradiction
theorem oct_keep {s : ByteArray × Int} (h : s.2 ≠ 0) : (octM s).2 = s := by unfold octM; rw [if_pos h]
theorem frm1_keep (c : UInt8) (q : FQ) (h : q.2.2 ≠ 0) : (frm1 c q).2 = q.2 := by
  unfold frm1
  split
  · simp only [oct_keep h]; exact say_same h
  split
  · simp only [num_keep h]
  split
  · simp only [num_keep h]
  split
  · simp only [nogM, oct_keep h]; exact say_same h
  split
  · simp only [sgn_keep h]
  split
  · simp only [sgn_keep h]
  split
  · simp only [frmT, num_keep h]
    rw [say_same h, take_bad _ _ h]
    exact num_keep h
  · rfl
theorem frmL_keep (l : List UInt8) (q : FQ) (h : q.2.2 ≠ 0) : (frmL l q).2 = q.2 := by
  induction l generalizing q with
  | nil => rfl
  | cons c l ih =>
    have e := frm1_keep c q h
    show (frmL l (frm1 c q)).2 = q.2
    rw [ih _ (by rw [e]; exact h), e]
theorem take_len (n : Nat) (s : ByteArray × Int) : (takeM n s).1.length ≤ n := by
  induction n generalizing s with
  | zero => simp [takeM]
  | succ n ih =>
    unfold takeM
    split
    · simp
    · simp only [List.length_cons]; have := ih (numM s).2; omega
/-- the form of a kind reads what stands beside it -/
theorem frm_bes (k : Nat) (hk : 1 ≤ k ∧ k ≤ 9) (s : ByteArray × Int) : frmL (([[63], [], [107], [97], [116], [97, 122], [97, 98], [122], [99], [100]] : List (List UInt8)).getD k []) ((0, 0, []), s) = besM k s := by
  rcases (by omega : k = 1 ∨ k = 2 ∨ k = 3 ∨ k = 4 ∨ k = 5 ∨ k = 6 ∨ k = 7 ∨ k = 8 ∨ k = 9) with rfl | rfl | rfl | rfl | rfl | rfl | rfl | rfl | rfl
  all_goals rfl
end Go.Proofs.Ytomaiolhaenmhaa
/-
  ROWS OF STRUCTS AS LISTS OF LISTS OF CELLS, for SameAll. No condition.
-/
namespace Go.Proofs.Ytomaiolhaenmhaa
open Go.RowKit Go.Lib

theorem sm_open {s : Nat} {w : World} {v : Value} {css : List (List Value)} (hs : 0 < s) (hl : ∀ c ∈ css, c.length = s) (h : Sl w v css.length css.flatten) :
    (∃ ao cap, v = .slice ao 0 cap ∧ css.length = 0) ∨ ∃ b off cap, v = .slice (some ⟨b, off, none⟩) css.length cap ∧ 0 < css.length ∧ css.length ≤ cap ∧ cap ≤ 9223372036854775807 ∧ At w b off css.flatten := by
  obtain ⟨ao, cap, rfl, h1, h2, h3, h4⟩ := h
  by_cases h0 : css.length = 0
  · exact .inl ⟨ao, cap, by rw [h0], h0⟩
  · rcases h4 with h4 | ⟨b, off, rfl, hat⟩
    · have := flatten_len css hl
      rw [h4] at this
      have h5 : 1 * 1 ≤ css.length * s := Nat.mul_le_mul (by omega) hs
      simp at this
      omega
    · exact .inr ⟨b, off, cap, rfl, by omega, h1, h2, hat⟩
theorem sm_at {s k f : Nat} {w wr : World} {b off : Nat} {css : List (List Value)} {c : List Value} {v : Value} (h : At w b off css.flatten) (hb : Below w.heap.size w wr) (hk : k < css.length) (hl : ∀ c ∈ css, c.length = s) (hc : css[k] = c) (hv : c[f]? = some v) : wr.cell? ⟨b, off + k * s + f, none⟩ = some v := by
  have hf : f < s := by
    have h1 := hl _ (List.getElem_mem hk)
    rw [hc] at h1
    rcases Nat.lt_or_ge f c.length with h | h
    · omega
    · rw [List.getElem?_eq_none h] at hv; cases hv
  have h2 := flatten_get css hl k f hf hk
  rw [hc, hv] at h2
  have hlt : k * s + f < css.flatten.length := by
    rcases Nat.lt_or_ge (k * s + f) css.flatten.length with h | h
    · exact h
    · rw [List.getElem?_eq_none h] at h2; cases h2
  have h3 := (h.below hb) (k * s + f) hlt
  rw [List.getElem?_eq_getElem hlt] at h2
  rw [← Nat.add_assoc] at h3
  rw [h3, h2]
theorem sm_split2 {c : List Value} (h : c.length = 2) : ∃ a0 a1, c = [a0, a1] := by
  match c, h with
  | [a, b], _ => exact ⟨_, _, rfl⟩
theorem sm_split3 {c : List Value} (h : c.length = 3) : ∃ a0 a1 a2, c = [a0, a1, a2] := by
  match c, h with
  | [a, b, d], _ => exact ⟨_, _, _, rfl⟩
theorem sm_split4 {c : List Value} (h : c.length = 4) : ∃ a0 a1 a2 a3, c = [a0, a1, a2, a3] := by
  match c, h with
  | [a, b, d, e], _ => exact ⟨_, _, _, _, rfl⟩
theorem below_dr {W w : World} {B : Nat} (h : Below B W w) : Below B W w.drew := drew_bel' (n := 1) h
end Go.Proofs.Ytomaiolhaenmhaa
