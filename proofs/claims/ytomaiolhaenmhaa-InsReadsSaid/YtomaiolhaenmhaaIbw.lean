/-
  INSTRUCTIONS: the program's reader, the ways of a table of jumps. Conditions: lengths in the form's reach.
-/
import Derived.Test.YtomaiolhaenmhaaIbs
import Derived.Test.YtomaiolhaenmhaaKt
import Derived.Deep.RegionLaw
namespace Go.Proofs.Ytomaiolhaenmhaa
open Go.RowKit Go.Lib
attribute [local go_sem ↓] Go.wp_at_zero Go.wp_at_succ

theorem elem_i64v : Elem Try.prog 88 2 (.int .i64 0) 1 8 := ⟨Try.underlying88, by kernel_rfl, rfl, by decide⟩
/-- so many numbers, till something is wrong -/
def takeM : Nat → ByteArray × Int → List Int × ByteArray × Int
  | 0, s => ([], s)
  | n + 1, s => if s.2 ≠ 0 then ([], s) else ((numM s).1 :: (takeM n (numM s).2).1, (takeM n (numM s).2).2)
theorem take_bad (n : Nat) (s : ByteArray × Int) (h : s.2 ≠ 0) : takeM n s = ([], s) := by
  cases n with
  | zero => rfl
  | succ n => exact if_pos h
theorem take_next (n : Nat) (s : ByteArray × Int) (h : s.2 = 0) : takeM (n + 1) s = ((numM s).1 :: (takeM n (numM s).2).1, (takeM n (numM s).2).2) := if_neg (fun g => g h)
section
variable {w : World} {R X : Nat} {t : ByteArray} {s : ByteArray × Int} {op : Nat} {A B : Int} {u : Value}
theorem DuI.setT (h : DuI w R X t s op A B u) (v : Value) : DuI (w.setCell ⟨X, 3, none⟩ v) R X t s op A B v := by
  obtain ⟨a, h1, h2, h3⟩ := h.rd
  exact ⟨⟨a, h1, h2, h3.other (fun g => h.ne g.symm) _⟩, h.ins.set 3 _, h.ne, h.sz⟩
theorem DuI.drew (h : DuI w R X t s op A B u) : DuI w.drew R X t s op A B u := ⟨h.rd, h.ins, h.ne, h.sz⟩
theorem DuI.kt {w' : World} (h : DuI w R X t s op A B u) (k : KT 2 w w') : DuI w' R X t s op A B u := by
  obtain ⟨a, h1, h2, h3⟩ := h.rd
  exact ⟨⟨a, h1, h2, k.blk h3 rfl⟩, k.blk h.ins rfl, h.ne, h.sz⟩
theorem DuI.lt (h : DuI w R X t s op A B u) : R < w.heap.size ∧ X < w.heap.size := by
  obtain ⟨a, h1, h2, h3⟩ := h.rd
  exact ⟨h3.lt, h.ins.lt⟩
theorem own_tod {w' : World} {H : Nat} {v : Value} {xs : List Int} (h : OwnI w H .i64 2 v xs) (ht : ToD R X w w') (hR : R < H) (hX : X < H) : OwnI w' H .i64 2 v xs :=
  own_touch h ht (fun k hk g => by
    have := (World.ownsRow.lt h k hk).1
    omega)
end
set_option maxRecDepth 100000 in
set_option maxHeartbeats 4000000 in
theorem ibs_4 (w : World) (R X : Nat) (t : ByteArray) (s : ByteArray × Int) (op : Nat) (h : DuI w R X t s op 0 0 (.slice none 0 0)) (hn : (numM s).1 ≤ 16) :
    Calls Try.prog 108 #[.pointer (some ⟨R, 0, none⟩), .pointer (some ⟨X, 0, none⟩), .int .i64 4] w fun r w' => r = .returned (.tuple #[]) ∧
      (∃ u, DuI w' R X t (numM (takeM (numM s).1.toNat (numM s).2).2).2 op (numM (takeM (numM s).1.toNat (numM s).2).2).1 0 u ∧ OwnI w' w.heap.size .i64 2 u (takeM (numM s).1.toNat (numM s).2).1) ∧ ToD R X w w' := by
  have hlt := h.lt
  have H0 := hid (dplain h)
  have hnf := (numM_facts s).1
  generalize numM s = q at *
  obtain ⟨n0, S1⟩ := q
  simp only at H0 hnf hn ⊢
  obtain ⟨N, rfl⟩ := Int.eq_ofNat_of_zero_le hnf
  rw [Int.toNat_natCast]
  have hN : N ≤ 16 := by omega
  clear h hnf
  go_enter Try.func108, Try.ntmps108
  go_wp2_with fail
  refine H0.out.mono ?_
  rintro r0 w1 ⟨rfl, g1, g2⟩
  have DI := hid g1
  have TC := hid (show Touch (fun j => (j = R ∨ j = X) ∨ w.heap.size ≤ j) w w1 from g2.mono (fun _ _ g => Or.inl g))
  have OW : Hid (OwnI w1 w.heap.size .i64 2 (.slice none 0 0) []) := hid (OwnI.nil _ _ _ _)
  clear g1 g2
  go_wp2_with fail
  go_loopw [8] (fun i wr => ∃ (k : Nat) (u : Value) (xs : List Int) (sk : ByteArray × Int), k ≤ N ∧ i = .int .i64 k ∧ Hid (xs.length = k) ∧ Hid (DuI wr R X t sk op 0 0 u) ∧ Hid (OwnI wr w.heap.size .i64 2 u xs) ∧ Hid (takeM N S1 = (xs ++ (takeM (N - k) sk).1, (takeM (N - k) sk).2)) ∧ Hid (Touch (fun j => (j = R ∨ j = X) ∨ w.heap.size ≤ j) w wr)) (fun i _ => N - (RowKit.intOf i).toNat)
  case atStart => exact ⟨0, _, [], S1, Nat.zero_le _, rfl, hid rfl, DI, OW, hid rfl, TC⟩
  case round =>
    obtain ⟨k, u, xs, sk, hk, rfl, HL, DI, OW, HT, TC⟩ := hrel
    have hfree := DI.out.ins.free
    have y0 := DI.out.rd
    obtain ⟨ar, y1, y2, y3⟩ := y0
    have yb := y3.cell (i := 2) rfl
    clear y1 y2 y3
    by_cases hb : sk.2 = 0
    · by_cases hlt1 : k < N
      · have HSG := hid (dplain DI.out.drew)
        have HST := hid (show takeM N S1 = ((xs ++ [(numM sk).1]) ++ (takeM (N - (k + 1)) (numM sk).2).1, (takeM (N - (k + 1)) (numM sk).2).2) by
          rw [HT.out, show N - k = (N - (k + 1)) + 1 by omega, take_next _ _ hb, List.append_assoc]; rfl)
        generalize numM sk = z at *
        obtain ⟨zv, zs⟩ := z
        simp only at HSG HST
        have hb2 : (sk.2 == 0) = true := by rw [hb]; rfl
        have hd1 : decide ((k : Int) < (N : Int)) = true := decide_eq_true (by omega)
        have x1 : wr.drew.cell? ⟨X, 3, none⟩ = some u := DI.out.drew.ins.cell (i := 3) rfl
        have x1f : wr.drew.frozen? ⟨X, 3, none⟩ = false := DI.out.drew.ins.free 3
        have hsz := TC.out.size
        have hw1 : wrap64 ((k : Int) + 1) = ((k + 1 : Nat) : Int) := by unfold wrap64; omega
        have hlx := HL.out
        have hl1 : xs.length + 1 ≤ 17 := by omega
        clear hb hlx
        go_wp2_with fail
        go_region_law (first | (go_simp; go_at_call 162; go_loud ((with_reducible refine HSG.out.mono ?_); rintro r w3 ⟨rfl, g1, g2⟩; have OW3 := hid (own_tod (w := wr.drew) OW.out g2 hlt.1 hlt.2); have TC3 := hid ((TC.out.drew1).trans (g2.mono (fun _ _ g => Or.inl g))); have SZ3 := hid TC3.out.size; have c1 := g1.ins.cell (i := 3) rfl; have c1a := (fun o => cell_alloc o c1); have D3 := hid g1; clear g1 g2)) | (refine step_one1 elem_i64v (cs := [.int .i64 zv]) (by rfl) _ _ (by rfl) (by rfl) (by rfl) rfl OW3.out (by rfl) (by intro c hc; simp at hc; subst hc; rfl) (by omega) (by omega) SZ3.out ?_; intro v' w4 ho hb hg; obtain ⟨ao2, cap2, rfl, _⟩ := own_sl ho; have K4 := hid (KT.grown hg.1 OW3.out); have D4 := hid (D3.out.kt K4.out); have z1 := D4.out.ins.cell (i := 3) rfl; have zf := D4.out.ins.free 3; have T4 := hid (TC3.out.trans (Touch.grown hg.1 (fun j e => Or.inr (World.ownsRow.lt OW3.out j e).1))); have HG := hid ho; clear ho hb hg))
        all_goals
          go_wp2_with fail
          go_roundw
          case rel =>
            refine ⟨k + 1, .slice ao2 (xs.length + 1) cap2, xs ++ [zv], zs, by omega, by go_num, hid (by rw [List.length_append, HL.out]; rfl), hid (D4.out.setT _), hid ?_, HST, hid (T4.out.trans (Touch.setCell (F := fun j => (j = R ∨ j = X) ∨ w.heap.size ≤ j) (a := ⟨X, 3, none⟩) (Or.inl (Or.inr rfl)) _))⟩
            show World.ownsRow _ _ _ _ _ (xs ++ [zv]).length ((xs ++ [zv]).map _)
            rw [List.length_append, List.map_append]
            exact (KT.set D4.out.ins _).own HG.out rfl
          case measure => simp [RowKit.intOf]; omega
      · obtain rfl : k = N := by omega
        have HE := hid (show takeM k S1 = (xs, sk) by rw [HT.out, Nat.sub_self]; simp [takeM])
        have hd1 : decide ((k : Int) < (k : Int)) = false := decide_eq_false (by omega)
        have HP := hid (dplain DI.out)
        clear hfree yb
        go_wp2_with fail
        refine HP.out.mono ?_
        rintro r2 w2 ⟨rfl, g1, g2⟩
        have bf := g1.ins.free
        have ba := g1.ins.cell (i := 1) rfl
        have OW2 := hid (own_tod OW.out g2 hlt.1 hlt.2)
        have T2 := hid (TC.out.trans (g2.mono (fun _ _ g => Or.inl g)))
        have D2 := hid g1
        clear g1 g2
        go_wp2_with fail
        go_end0
        rw [HE.out]
        exact ⟨rfl, ⟨u, D2.out.setA _, (KT.set D2.out.ins _).own OW2.out rfl⟩, Touch.of_new (T2.out.trans (Touch.setCell (F := fun j => (j = R ∨ j = X) ∨ w.heap.size ≤ j) (a := ⟨X, 1, none⟩) (Or.inl (Or.inr rfl)) _))⟩
    · have HE := hid (show takeM N S1 = (xs, sk) by rw [HT.out, take_bad _ _ hb]; simp)
      have hb2 : (sk.2 == 0) = false := by simpa using hb
      clear hb
      by_cases g : k < N
      · have hd1 : decide ((k : Int) < (N : Int)) = true := decide_eq_true (by omega)
        have HP := hid (dplain DI.out)
        go_wp2_with fail
        clear hfree yb
        refine HP.out.mono ?_
        rintro r2 w2 ⟨rfl, g1, g2⟩
        have bf := g1.ins.free
        have ba := g1.ins.cell (i := 1) rfl
        have OW2 := hid (own_tod OW.out g2 hlt.1 hlt.2)
        have T2 := hid (TC.out.trans (g2.mono (fun _ _ g => Or.inl g)))
        have D2 := hid g1
        clear g1 g2
        go_wp2_with fail
        go_end0
        rw [HE.out]
        exact ⟨rfl, ⟨u, D2.out.setA _, (KT.set D2.out.ins _).own OW2.out rfl⟩, Touch.of_new (T2.out.trans (Touch.setCell (F := fun j => (j = R ∨ j = X) ∨ w.heap.size ≤ j) (a := ⟨X, 1, none⟩) (Or.inl (Or.inr rfl)) _))⟩
      · have hd1 : decide ((k : Int) < (N : Int)) = false := decide_eq_false (by omega)
        have HP := hid (dplain DI.out)
        go_wp2_with fail
        clear hfree yb
        refine HP.out.mono ?_
        rintro r2 w2 ⟨rfl, g1, g2⟩
        have bf := g1.ins.free
        have ba := g1.ins.cell (i := 1) rfl
        have OW2 := hid (own_tod OW.out g2 hlt.1 hlt.2)
        have T2 := hid (TC.out.trans (g2.mono (fun _ _ g => Or.inl g)))
        have D2 := hid g1
        clear g1 g2
        go_wp2_with fail
        go_end0
        rw [HE.out]
        exact ⟨rfl, ⟨u, D2.out.setA _, (KT.set D2.out.ins _).own OW2.out rfl⟩, Touch.of_new (T2.out.trans (Touch.setCell (F := fun j => (j = R ∨ j = X) ∨ w.heap.size ≤ j) (a := ⟨X, 1, none⟩) (Or.inl (Or.inr rfl)) _))⟩

theorem say_bad {e : Int} (he : e ≠ 0) (s : ByteArray × Int) : (sayM true e s).2 ≠ 0 := by
  rw [say_true]
  unfold bad1
  split <;> assumption
set_option maxRecDepth 100000 in
set_option maxHeartbeats 4000000 in
theorem ibs_4x (w : World) (R X : Nat) (t : ByteArray) (s : ByteArray × Int) (op : Nat) (h : DuI w R X t s op 0 0 (.slice none 0 0)) (hn : 16 < (numM s).1) :
    Calls Try.prog 108 #[.pointer (some ⟨R, 0, none⟩), .pointer (some ⟨X, 0, none⟩), .int .i64 4] w fun r w' => r = .returned (.tuple #[]) ∧
      DuI w' R X t (numM (sayM true 2 (numM s).2)).2 op (numM (sayM true 2 (numM s).2)).1 0 (.slice none 0 0) ∧ ToD R X w w' := by
  have H0 := hid (dplain h)
  generalize numM s = q at *
  obtain ⟨n0, S1⟩ := q
  simp only at H0 hn ⊢
  have hb := say_bad (e := 2) (by decide) S1
  have HF := hid (fun wx (hx : DuI wx R X t S1 op 0 0 (.slice none 0 0)) => dfail 2 hx)
  generalize sayM true 2 S1 = s2 at *
  have hb2 : (s2.2 == 0) = false := by simpa using hb
  have hn0 : (0 : Int) < n0 := by omega
  clear h hb
  go_enter Try.func108, Try.ntmps108
  go_wp2_with fail
  refine H0.out.mono ?_
  rintro r0 w1 ⟨rfl, g1, g2⟩
  have D1 := hid (And.intro g1 g2)
  clear g1 g2
  go_wp2_with fail
  refine (HF.out _ D1.out.1).mono ?_
  rintro r1 w2 ⟨rfl, g1, g2⟩
  have DI := hid g1
  have TC := hid (D1.out.2.trans g2)
  clear g1 g2
  go_wp2_with fail
  go_loopw [8] (fun i wr => i = .int .i64 0 ∧ Hid (DuI wr R X t s2 op 0 0 (.slice none 0 0)) ∧ Hid (ToD R X w wr)) (fun _ _ => 0)
  case atStart => exact ⟨rfl, DI, TC⟩
  case round =>
    obtain ⟨rfl, DI, TC⟩ := hrel
    obtain ⟨ar, y1, y2, y3⟩ := DI.out.rd
    have yb := y3.cell (i := 2) rfl
    clear y1 y2 y3
    have HP := hid (dplain DI.out)
    go_wp2_with fail
    clear yb
    refine HP.out.mono ?_
    rintro r2 w3 ⟨rfl, g1, g2⟩
    have bf := g1.ins.free
    have ba := g1.ins.cell (i := 1) rfl
    have D2 := hid (And.intro g1 g2)
    clear g1 g2
    go_wp2_with fail
    go_end0
    exact ⟨rfl, D2.out.1.setA _, (TC.out.trans D2.out.2).trans (ToD.put _ _ _)⟩
end Go.Proofs.Ytomaiolhaenmhaa
