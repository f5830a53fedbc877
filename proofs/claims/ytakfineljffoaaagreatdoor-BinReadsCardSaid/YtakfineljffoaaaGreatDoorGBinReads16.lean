/-
  INSTRUCTIONS: the program's reader, the ways of a table of jumps. Conditions: lengths in the form's reach.
-/
import Derived.Test.YtakfineljffoaaaGreatDoorGBinReads2
import Derived.Test.YtakfineljffoaaaGreatDoorGBinReads8
import Derived.Test.YtakfineljffoaaaGreatDoorGBinReads14
import Derived.Test.YtakfineljffoaaaGreatDoorGBinReads15
import Derived.Deep.RegionLaw
namespace Go.Proofs.YtakfineljffoaaaGreatDoor
open Go.RowKit Go.Lib
attribute [local go_sem ↓] Go.wp_at_zero Go.wp_at_succ

theorem elem_i64v : Elem Tryz.prog 95 2 (.int .i64 0) 1 8 := ⟨Tryz.underlying95, by kernel_rfl, rfl, by decide⟩
/-- so many numbers, till something is wrong -/
def takeM : Nat → ByteArray × Int → List Int × ByteArray × Int
  | 0, s => ([], s)
  | n + 1, s => if s.2 ≠ 0 then ([], s) else ((numM s).1 :: (takeM n (numM s).2).1, (takeM n (numM s).2).2)
theorem take_bad (n : Nat) (s : ByteArray × Int) (h : s.2 ≠ 0) : takeM n s = ([], s) := by
  cases n with
  | zero => rfl
  | succ n => exact if_pos h
theorem take_next (n : Nat) (s : ByteArray × Int) (h : s.2 = 0) : takeM (n + 1) s = ((numM s).1 :: (takeM n (numM s).2).1, (takeM n (numM s).2).2) := if_neg (fun g => g h)
section
variable {w : World} {R X : Nat} {t : ByteArray} {s : ByteArray × Int} {op : Nat} {A B : Int} {u : Value}
theorem DuI.setT (h : DuI w R X t s op A B u) (v : Value) : DuI (w.setCell ⟨X, 3, none⟩ v) R X t s op A B v := by
  obtain ⟨a, h1, h2, h3⟩ := h.rd
  exact ⟨⟨a, h1, h2, h3.other (fun g => h.ne g.symm) _⟩, h.ins.set 3 _, h.ne, h.sz⟩
theorem DuI.drew (h : DuI w R X t s op A B u) : DuI w.drew R X t s op A B u := ⟨h.rd, h.ins, h.ne, h.sz⟩
theorem DuI.kt {w' : World} (h : DuI w R X t s op A B u) (k : KT 2 w w') : DuI w' R X t s op A B u := by
  obtain ⟨a, h1, h2, h3⟩ := h.rd
  exact ⟨⟨a, h1, h2, k.blk h3 rfl⟩, k.blk h.ins rfl, h.ne, h.sz⟩
theorem DuI.lt (h : DuI w R X t s op A B u) : R < w.heap.size ∧ X < w.heap.size := by
  obtain ⟨a, h1, h2, h3⟩ := h.rd
  exact ⟨h3.lt, h.ins.lt⟩
theorem own_tod {w' : World} {H : Nat} {v : Value} {xs : List Int} (h : OwnI w H .i64 2 v xs) (ht : ToD R X w w') (hR : R < H) (hX : X < H) : OwnI w' H .i64 2 v xs :=
  own_touch h ht (fun k hk g => by
    have := (World.ownsRow.lt h k hk).1
    omega)
end
set_option maxRecDepth 100000 in
set_option maxHeartbeats 4000000 in
theorem ibs_4 (w : World) (R X : Nat) (t : ByteArray) (s : ByteArray × Int) (op : Nat) (h : DuI w R X t s op 0 0 (.slice none 0 0)) (hn : (numM s).1 ≤ 16) :
    Calls Tryz.prog 153 #[.pointer (some ⟨R, 0, none⟩), .pointer (some ⟨X, 0, none⟩), .int .i64 4] w fun r w' => r = .returned (.tuple #[]) ∧
      (∃ u, DuI w' R X t (numM (takeM (numM s).1.toNat (numM s).2).2).2 op (numM (takeM (numM s).1.toNat (numM s).2).2).1 0 u ∧ OwnI w' w.heap.size .i64 2 u (takeM (numM s).1.toNat (numM s).2).1) ∧ ToD R X w w' := by
  have hlt := h.lt
  have H0 := hid (dplain h)
  have hnf := (numM_facts s).1
  generalize numM s = q at *
  obtain ⟨n0, S1⟩ := q
  simp only at H0 hnf hn ⊢
  obtain ⟨N, rfl⟩ := Int.eq_ofNat_of_zero_le hnf
  rw [Int.toNat_natCast]
  have hN : N ≤ 16 := by omega
  clear h hnf
  go_enter Tryz.func153, Tryz.ntmps153
  go_wp2_with fail
  refine H0.out.mono ?_
  rintro r0 w1 ⟨rfl, g1, g2⟩
  have DI := hid g1
  have TC := hid (show Touch (fun j => (j = R ∨ j = X) ∨ w.heap.size ≤ j) w w1 from g2.mono (fun _ _ g => Or.inl g))
  have OW : Hid (OwnI w1 w.heap.size .i64 2 (.slice none 0 0) []) := hid (OwnI.nil _ _ _ _)
  clear g1 g2
  go_wp2_with fail
  go_loopw [8] (fun i wr => ∃ (k : Nat) (u : Value) (xs : List Int) (sk : ByteArray × Int), k ≤ N ∧ i = .int .i64 k ∧ Hid (xs.length = k) ∧ Hid (DuI wr R X t sk op 0 0 u) ∧ Hid (OwnI wr w.heap.size .i64 2 u xs) ∧ Hid (takeM N S1 = (xs ++ (takeM (N - k) sk).1, (takeM (N - k) sk).2)) ∧ Hid (Touch (fun j => (j = R ∨ j = X) ∨ w.heap.size ≤ j) w wr)) (fun i _ => N - (RowKit.intOf i).toNat)
  case atStart => exact ⟨0, _, [], S1, Nat.zero_le _, rfl, hid rfl, DI, OW, hid rfl, TC⟩
  case round =>
    obtain ⟨k, u, xs, sk, hk, rfl, HL, DI, OW, HT, TC⟩ := hrel
    have hfree := DI.out.ins.free
    have y0 := DI.out.rd
    obtain ⟨ar, y1, y2, y3⟩ := y0
    have yb := y3.cell (i := 2) rfl
    clear y1 y2 y3
    by_cases hb : sk.2 = 0
    · by_cases hlt1 : k < N
      · have HSG := hid (dplain DI.out.drew)
        have HST := hid (show takeM N S1 = ((xs ++ [(numM sk).1]) ++ (takeM (N - (k + 1)) (numM sk).2).1, (takeM (N - (k + 1)) (numM sk).2).2) by
          rw [HT.out, show N - k = (N - (k + 1)) + 1 by omega, take_next _ _ hb, List.append_assoc]; rfl)
        generalize numM sk = z at *
        obtain ⟨zv, zs⟩ := z
        simp only at HSG HST
        have hb2 : (sk.2 == 0) = true := by rw [hb]; rfl
        have hd1 : decide ((k : Int) < (N : Int)) = true := decide_eq_true (by omega)
        have x1 : wr.drew.cell? ⟨X, 3, none⟩ = some u := DI.out.drew.ins.cell (i := 3) rfl
        have x1f : wr.drew.frozen? ⟨X, 3, none⟩ = false := DI.out.drew.ins.free 3
        have hsz := TC.out.size
        have hw1 : wrap64 ((k : Int) + 1) = ((k + 1 : Nat) : Int) := by unfold wrap64; omega
        have hlx := HL.out
        have hl1 : xs.length + 1 ≤ 17 := by omega
        clear hb hlx
        go_wp2_with fail
        go_region_law (first | (go_simp; go_at_call 163; go_loud ((with_reducible refine HSG.out.mono ?_); rintro r w3 ⟨rfl, g1, g2⟩; have OW3 := hid (own_tod (w := wr.drew) OW.out g2 hlt.1 hlt.2); have TC3 := hid ((TC.out.drew1).trans (g2.mono (fun _ _ g => Or.inl g))); have SZ3 := hid TC3.out.size; have c1 := g1.ins.cell (i := 3) rfl; have c1a := (fun o => cell_alloc o c1); have D3 := hid g1; clear g1 g2)) | (refine step_one1 elem_i64v (cs := [.int .i64 zv]) (by rfl) _ _ (by rfl) (by rfl) (by rfl) rfl OW3.out (by rfl) (by intro c hc; simp at hc; subst hc; rfl) (by omega) (by omega) SZ3.out ?_; intro v' w4 ho hb hg; obtain ⟨ao2, cap2, rfl, _⟩ := own_sl ho; have K4 := hid (KT.grown hg.1 OW3.out); have D4 := hid (D3.out.kt K4.out); have z1 := D4.out.ins.cell (i := 3) rfl; have zf := D4.out.ins.free 3; have T4 := hid (TC3.out.trans (Touch.grown hg.1 (fun j e => Or.inr (World.ownsRow.lt OW3.out j e).1))); have HG := hid ho; clear ho hb hg))
        all_goals
          go_wp2_with fail
          go_roundw
          case rel =>
            refine ⟨k + 1, .slice ao2 (xs.length + 1) cap2, xs ++ [zv], zs, by omega, by go_num, hid (by rw [List.length_append, HL.out]; rfl), hid (D4.out.setT _), hid ?_, HST, hid (T4.out.trans (Touch.setCell (F := fun j => (j = R ∨ j = X) ∨ w.heap.size ≤ j) (a := ⟨X, 3, none⟩) (Or.inl (Or.inr rfl)) _))⟩
            show World.ownsRow _ _ _ _ _ (xs ++ [zv]).length ((xs ++ [zv]).map _)
            rw [List.length_append, List.map_append]
            exact (KT.set D4.out.ins _).own HG.out rfl
          case measure => simp [RowKit.intOf]; omega
      · obtain rfl : k = N := by omega
        have HE := hid (show takeM k S1 = (xs, sk) by rw [HT.out, Nat.sub_self]; simp [takeM])
        have hd1 : decide ((k : Int) < (k : Int)) = false := decide_eq_false (by omega)
        have HP := hid (dplain DI.out)
        clear hfree yb
        go_wp2_with fail
        refine HP.out.mono ?_
        rintro r2 w2 ⟨rfl, g1, g2⟩
        have bf := g1.ins.free
        have ba := g1.ins.cell (i := 1) rfl
        have OW2 := hid (own_tod OW.out g2 hlt.1 hlt.2)
        have T2 := hid (TC.out.trans (g2.mono (fun _ _ g => Or.inl g)))
        have D2 := hid g1
        clear g1 g2
        go_wp2_with fail
        go_end0
        rw [HE.out]
        exact ⟨rfl, ⟨u, D2.out.setA _, (KT.set D2.out.ins _).own OW2.out rfl⟩, Touch.of_new (T2.out.trans (Touch.setCell (F := fun j => (j = R ∨ j = X) ∨ w.heap.size ≤ j) (a := ⟨X, 1, none⟩) (Or.inl (Or.inr rfl)) _))⟩
    · have HE := hid (show takeM N S1 = (xs, sk) by rw [HT.out, take_bad _ _ hb]; simp)
      have hb2 : (sk.2 == 0) = false := by simpa using hb
      clear hb
      by_cases g : k < N
      · have hd1 : decide ((k : Int) < (N : Int)) = true := decide_eq_true (by omega)
        have HP := hid (dplain DI.out)
        go_wp2_with fail
        clear hfree yb
        refine HP.out.mono ?_
        rintro r2 w2 ⟨rfl, g1, g2⟩
        have bf := g1.ins.free
        have ba := g1.ins.cell (i := 1) rfl
        have OW2 := hid (own_tod OW.out g2 hlt.1 hlt.2)
        have T2 := hid (TC.out.trans (g2.mono (fun _ _ g => Or.inl g)))
        have D2 := hid g1
        clear g1 g2
        go_wp2_with fail
        go_end0
        rw [HE.out]
        exact ⟨rfl, ⟨u, D2.out.setA _, (KT.set D2.out.ins _).own OW2.out rfl⟩, Touch.of_new (T2.out.trans (Touch.setCell (F := fun j => (j = R ∨ j = X) ∨ w.heap.size ≤ j) (a := ⟨X, 1, none⟩) (Or.inl (Or.inr rfl)) _))⟩
      · have hd1 : decide ((k : Int) < (N : Int)) = false := decide_eq_false (by omega)
        have HP := hid (dplain DI.out)
        go_wp2_with fail
        clear hfree yb
        refine HP.out.mono ?_
        rintro r2 w2 ⟨rfl, g1, g2⟩
        have bf := g1.ins.free
        have ba := g1.ins.cell (i := 1) rfl
        have OW2 := hid (own_tod OW.out g2 hlt.1 hlt.2)
        have T2 := hid (TC.out.trans (g2.mono (fun _ _ g => Or.inl g)))
        have D2 := hid g1
        clear g1 g2
        go_wp2_with fail
        go_end0
        rw [HE.out]
        exact ⟨rfl, ⟨u, D2.out.setA _, (KT.set D2.out.ins _).own OW2.out rfl⟩, Touch.of_new (T2.out.trans (Touch.setCell (F := fun j => (j = R ∨ j = X) ∨ w.heap.size ≤ j) (a := ⟨X, 1, none⟩) (Or.inl (Or.inr rfl)) _))⟩

theorem say_bad {e : Int} (he : e ≠ 0) (s : ByteArray × Int) : (sayM true e s).2 ≠ 0 := by
  rw [say_true]
  unfold bad1
  split <;> assumption
set_option maxRecDepth 100000 in
set_option maxHeartbeats 4000000 in
theorem ibs_4x (w : World) (R X : Nat) (t : ByteArray) (s : ByteArray × Int) (op : Nat) (h : DuI w R X t s op 0 0 (.slice none 0 0)) (hn : 16 < (numM s).1) :
    Calls Tryz.prog 153 #[.pointer (some ⟨R, 0, none⟩), .pointer (some ⟨X, 0, none⟩), .int .i64 4] w fun r w' => r = .returned (.tuple #[]) ∧
      DuI w' R X t (numM (sayM true 2 (numM s).2)).2 op (numM (sayM true 2 (numM s).2)).1 0 (.slice none 0 0) ∧ ToD R X w w' := by
  have H0 := hid (dplain h)
  generalize numM s = q at *
  obtain ⟨n0, S1⟩ := q
  simp only at H0 hn ⊢
  have hb := say_bad (e := 2) (by decide) S1
  have HF := hid (fun wx (hx : DuI wx R X t S1 op 0 0 (.slice none 0 0)) => dfail 2 hx)
  generalize sayM true 2 S1 = s2 at *
  have hb2 : (s2.2 == 0) = false := by simpa using hb
  have hn0 : (0 : Int) < n0 := by omega
  clear h hb
  go_enter Tryz.func153, Tryz.ntmps153
  go_wp2_with fail
  refine H0.out.mono ?_
  rintro r0 w1 ⟨rfl, g1, g2⟩
  have D1 := hid (And.intro g1 g2)
  clear g1 g2
  go_wp2_with fail
  refine (HF.out _ D1.out.1).mono ?_
  rintro r1 w2 ⟨rfl, g1, g2⟩
  have DI := hid g1
  have TC := hid (D1.out.2.trans g2)
  clear g1 g2
  go_wp2_with fail
  go_loopw [8] (fun i wr => i = .int .i64 0 ∧ Hid (DuI wr R X t s2 op 0 0 (.slice none 0 0)) ∧ Hid (ToD R X w wr)) (fun _ _ => 0)
  case atStart => exact ⟨rfl, DI, TC⟩
  case round =>
    obtain ⟨rfl, DI, TC⟩ := hrel
    obtain ⟨ar, y1, y2, y3⟩ := DI.out.rd
    have yb := y3.cell (i := 2) rfl
    clear y1 y2 y3
    have HP := hid (dplain DI.out)
    go_wp2_with fail
    clear yb
    refine HP.out.mono ?_
    rintro r2 w3 ⟨rfl, g1, g2⟩
    have bf := g1.ins.free
    have ba := g1.ins.cell (i := 1) rfl
    have D2 := hid (And.intro g1 g2)
    clear g1 g2
    go_wp2_with fail
    go_end0
    exact ⟨rfl, D2.out.1.setA _, (TC.out.trans D2.out.2).trans (ToD.put _ _ _)⟩
end Go.Proofs.YtakfineljffoaaaGreatDoor
namespace Go.Proofs.YtakfineljffoaaaGreatDoor
open Go.RowKit Go.Lib

def failB (is : Bool) (e b : Int) : Int := if is = true ∧ b = 0 then e else b
theorem encS_length (f : Nat) : ∀ n : Int, (encS f n).length ≤ f + 1 := by
  induction f with
  | zero => intro n; simp [encS]
  | succ f ih =>
    intro n
    rw [encS]
    split
    · simp
    · have := ih (n / 128); simp; omega
/-- a number as a count without sign -/
def u64of (n : Int) : Nat := (n % 18446744073709551616).toNat
theorem u64of_lt (n : Int) : u64of n < 18446744073709551616 := by unfold u64of; omega
theorem u64of_wrap (n : Int) : IntKind.u64.wrap n = (u64of n : Int) := by rw [IntKind.wrap_u64]; unfold u64of; omega
theorem u64of_nat (n : Nat) (h : n < 18446744073709551616) : u64of (n : Int) = n := by unfold u64of; omega
def encN (n : Int) : List UInt8 := encU 9 (u64of n)
def idxBad (n : Int) : Bool := decide (n < 0 ∨ 4294967295 < n)
theorem idx_cases (n : Int) : (n < 0 ∧ idxBad n = true) ∨ (0 ≤ n ∧ 4294967295 < n ∧ idxBad n = true) ∨ (0 ≤ n ∧ n ≤ 4294967295 ∧ decide (n < 0) = false ∧ decide (4294967295 < n) = false ∧ idxBad n = false) := by
  unfold idxBad
  by_cases h : n < 0
  · exact .inl ⟨h, decide_eq_true (.inl h)⟩
  by_cases h2 : 4294967295 < n
  · exact .inr (.inl ⟨by omega, h2, decide_eq_true (.inr h2)⟩)
  · exact .inr (.inr ⟨by omega, by omega, decide_eq_false (by omega), decide_eq_false (by omega), decide_eq_false (by omega)⟩)
/-- the first fault, or 0 -/
def firstF : List Int → Int
  | [] => 0
  | x :: _ => x
def flt (is : Bool) (e : Int) : List Int := if is = true then [e] else []
theorem firstF_add {L : List Int} (h : ∀ x ∈ L, x ≠ 0) (is : Bool) (e : Int) : failB is e (firstF L) = firstF (L ++ flt is e) := by
  cases L with
  | nil => cases is <;> rfl
  | cons x r =>
    have := h x (by simp)
    show failB is e x = x
    unfold failB
    rw [if_neg (fun h => this h.2)]
theorem flt_ok {is : Bool} {e : Int} (h : e ≠ 0) : ∀ x ∈ flt is e, x ≠ 0 := by
  intro x hx
  cases is
  · cases hx
  · simp [flt] at hx; subst hx; exact h
theorem app_ok {a b : List Int} (ha : ∀ x ∈ a, x ≠ 0) (hb : ∀ x ∈ b, x ≠ 0) : ∀ x ∈ a ++ b, x ≠ 0 := by
  intro x hx
  rcases List.mem_append.1 hx with h | h
  · exact ha x h
  · exact hb x h
theorem firstF_zero {L : List Int} (h : ∀ x ∈ L, x ≠ 0) : firstF L = 0 ↔ L = [] := by
  cases L with
  | nil => simp [firstF]
  | cons x r => have := h x (by simp); simp [firstF, this]
theorem firstF_prefix {L M : List Int} (hL : L ≠ []) : firstF (L ++ M) = firstF L := by
  cases L with
  | nil => exact absurd rfl hL
  | cons x r => rfl
def valO (zs : List Int) : List UInt8 := encN zs.length ++ zs.flatMap (encS 9)
def atBad (n : Int) : Bool := decide (n < -2147483648 ∨ 2147483647 < n)
def i64L (zs : List Int) : Prop := ∀ z ∈ zs, -9223372036854775808 ≤ z ∧ z ≤ 9223372036854775807
theorem flatten_get {s : Nat} (css : List (List Value)) (hs : ∀ c ∈ css, c.length = s) : ∀ (j f : Nat) (_ : f < s) (h : j < css.length), css.flatten[j * s + f]? = (css[j])[f]? := by
  induction css with
  | nil => intro j f _ h; simp at h
  | cons c r ih =>
    intro j f hf h
    have hc := hs c (by simp)
    rw [List.flatten_cons]
    cases j with
    | zero => rw [List.getElem?_append_left (by omega)]; simp
    | succ j =>
      rw [List.getElem?_append_right (by rw [hc, Nat.succ_mul]; omega), hc, show (j + 1) * s + f - s = j * s + f by rw [Nat.succ_mul]; omega, ih (fun c hc => hs c (by simp [hc])) j f hf (by simpa using h)]
      simp
theorem flatten_len {s : Nat} (css : List (List Value)) (hs : ∀ c ∈ css, c.length = s) : css.flatten.length = css.length * s := by
  induction css with
  | nil => simp
  | cons c r ih => rw [List.flatten_cons, List.length_append, ih (fun c hc => hs c (by simp [hc])), hs c (by simp), List.length_cons, Nat.succ_mul]; omega
theorem at_form (n : Int) : (n != wrap64 (wrap32 n)) = atBad n := by
  unfold atBad wrap64 wrap32
  by_cases h : n < -2147483648 ∨ 2147483647 < n
  · rw [decide_eq_true h]; simp; omega
  · rw [decide_eq_false h]; simp; omega
theorem flatMap_ok {α : Type} {f : α → List Int} (h : ∀ a, ∀ x ∈ f a, x ≠ 0) (l : List α) : ∀ x ∈ l.flatMap f, x ≠ 0 := by
  intro x hx
  obtain ⟨a, _, ha⟩ := List.mem_flatMap.1 hx
  exact h a x ha
theorem two_flt (L : List Int) (p q : Bool) : firstF (L ++ flt p 2 ++ flt q 2) = firstF (L ++ flt (p || q) 2) := by
  cases L <;> cases p <;> cases q <;> rfl
theorem Blk.under2 {w w' : World} {b B : Nat} {ty : TypeId} {cs : List Value} (h : Blk w b ty cs) (hb : Below B w w') (hlt : b < B) : Blk w' b ty cs := by
  unfold Blk
  rw [hb.block b hlt]; exact h
/-- integers that stay while nothing below base turns -/
def IntsB (w : World) (base : Nat) (v : Value) (zs : List Int) : Prop := ∀ w', Below base w w' → Ints w' .i64 v zs
theorem IntsB.mono {w w' : World} {base : Nat} {v : Value} {zs : List Int} (h : IntsB w base v zs) (hb : Below base w w') : IntsB w' base v zs := fun w2 h2 => h w2 (hb.trans h2)
end Go.Proofs.YtakfineljffoaaaGreatDoor
namespace Go.Proofs.YtakfineljffoaaaGreatDoor
open Go.RowKit Go.Lib

theorem sm_open {s : Nat} {w : World} {v : Value} {css : List (List Value)} (hs : 0 < s) (hl : ∀ c ∈ css, c.length = s) (h : Sl w v css.length css.flatten) :
    (∃ ao cap, v = .slice ao 0 cap ∧ css.length = 0) ∨ ∃ b off cap, v = .slice (some ⟨b, off, none⟩) css.length cap ∧ 0 < css.length ∧ css.length ≤ cap ∧ cap ≤ 9223372036854775807 ∧ At w b off css.flatten := by
  obtain ⟨ao, cap, rfl, h1, h2, h3, h4⟩ := h
  by_cases h0 : css.length = 0
  · exact .inl ⟨ao, cap, by rw [h0], h0⟩
  · rcases h4 with h4 | ⟨b, off, rfl, hat⟩
    · have := flatten_len css hl
      rw [h4] at this
      have h5 : 1 * 1 ≤ css.length * s := Nat.mul_le_mul (by omega) hs
      simp at this
      omega
    · exact .inr ⟨b, off, cap, rfl, by omega, h1, h2, hat⟩
theorem sm_at {s k f : Nat} {w wr : World} {b off : Nat} {css : List (List Value)} {c : List Value} {v : Value} (h : At w b off css.flatten) (hb : Below w.heap.size w wr) (hk : k < css.length) (hl : ∀ c ∈ css, c.length = s) (hc : css[k] = c) (hv : c[f]? = some v) : wr.cell? ⟨b, off + k * s + f, none⟩ = some v := by
  have hf : f < s := by
    have h1 := hl _ (List.getElem_mem hk)
    rw [hc] at h1
    rcases Nat.lt_or_ge f c.length with h | h
    · omega
    · rw [List.getElem?_eq_none h] at hv; cases hv
  have h2 := flatten_get css hl k f hf hk
  rw [hc, hv] at h2
  have hlt : k * s + f < css.flatten.length := by
    rcases Nat.lt_or_ge (k * s + f) css.flatten.length with h | h
    · exact h
    · rw [List.getElem?_eq_none h] at h2; cases h2
  have h3 := (h.below hb) (k * s + f) hlt
  rw [List.getElem?_eq_getElem hlt] at h2
  rw [← Nat.add_assoc] at h3
  rw [h3, h2]
theorem sm_split2 {c : List Value} (h : c.length = 2) : ∃ a0 a1, c = [a0, a1] := by
  match c, h with
  | [a, b], _ => exact ⟨_, _, rfl⟩
theorem sm_split3 {c : List Value} (h : c.length = 3) : ∃ a0 a1 a2, c = [a0, a1, a2] := by
  match c, h with
  | [a, b, d], _ => exact ⟨_, _, _, rfl⟩
theorem sm_split4 {c : List Value} (h : c.length = 4) : ∃ a0 a1 a2 a3, c = [a0, a1, a2, a3] := by
  match c, h with
  | [a, b, d, e], _ => exact ⟨_, _, _, _, rfl⟩
theorem below_dr {W w : World} {B : Nat} (h : Below B W w) : Below B W w.drew := drew_bel' (n := 1) h
end Go.Proofs.YtakfineljffoaaaGreatDoor
namespace Go.Proofs.YtakfineljffoaaaGreatDoor
open Go.RowKit
set_option maxRecDepth 100000

abbrev D_s_int64 : Type := List Int
def R_s_int64 (W : World) : List Value → D_s_int64 → Prop := sliceR W 1 8 (intR .i64)
def b_s_int64 (ys : D_s_int64) : Nat := (ys.map (fun _ => 1)).sum + 1
theorem dec_s_int64 {W : World} : DecT W 95 1 (R_s_int64 W) b_s_int64 := dec_slice Tryz.underlying95 (dec_int Tryz.underlying2) (by kernel_rfl) (by decide) (by kernel_rfl)

abbrev D_api_Ins : Type := Int × Int × Int × D_s_int64 × Unit
def R_api_Ins (W : World) : List Value → D_api_Ins → Prop := (pairR (intR .u8) (pairR (intR .i64) (pairR (intR .i64) (pairR (R_s_int64 W) nilR))))
def c_api_Ins (y : D_api_Ins) : Nat := (fun y => (fun _ => 1) y.1 + (fun y => (fun _ => 1) y.1 + (fun y => (fun _ => 1) y.1 + (fun y => b_s_int64 y.1 + (fun _ : Unit => 0) y.2) y.2) y.2) y.2) y
def b_api_Ins (y : D_api_Ins) : Nat := c_api_Ins y + 1
theorem dec_api_Ins {W : World} : DecT W 97 4 (R_api_Ins W) b_api_Ins := by
  refine dec_struct (R := R_api_Ins W) (bk := c_api_Ins) Tryz.underlying97 ?_ (by kernel_rfl)
  refine decfs_cons (s1 := 1) (s2 := 3) (R1 := (intR .u8)) (b1 := (fun _ => 1)) (R2 := (pairR (intR .i64) (pairR (intR .i64) (pairR (R_s_int64 W) nilR)))) (b2 := (fun y => (fun _ => 1) y.1 + (fun y => (fun _ => 1) y.1 + (fun y => b_s_int64 y.1 + (fun _ : Unit => 0) y.2) y.2) y.2)) ?_ ?_ rfl (by kernel_rfl)
  · exact dec_int Tryz.underlying5
  refine decfs_cons (s1 := 1) (s2 := 2) (R1 := (intR .i64)) (b1 := (fun _ => 1)) (R2 := (pairR (intR .i64) (pairR (R_s_int64 W) nilR))) (b2 := (fun y => (fun _ => 1) y.1 + (fun y => b_s_int64 y.1 + (fun _ : Unit => 0) y.2) y.2)) ?_ ?_ rfl (by kernel_rfl)
  · exact dec_int Tryz.underlying2
  refine decfs_cons (s1 := 1) (s2 := 1) (R1 := (intR .i64)) (b1 := (fun _ => 1)) (R2 := (pairR (R_s_int64 W) nilR)) (b2 := (fun y => b_s_int64 y.1 + (fun _ : Unit => 0) y.2)) ?_ ?_ rfl (by kernel_rfl)
  · exact dec_int Tryz.underlying2
  refine decfs_cons (s1 := 1) (s2 := 0) (R1 := (R_s_int64 W)) (b1 := b_s_int64) (R2 := nilR) (b2 := (fun _ : Unit => 0)) ?_ ?_ rfl (by kernel_rfl)
  · exact dec_s_int64
  exact decfs_nil

abbrev D_s_api_Ins : Type := List D_api_Ins
def R_s_api_Ins (W : World) : List Value → D_s_api_Ins → Prop := sliceR W 4 48 (R_api_Ins W)
def b_s_api_Ins (ys : D_s_api_Ins) : Nat := (ys.map b_api_Ins).sum + 1
theorem dec_s_api_Ins {W : World} : DecT W 36 1 (R_s_api_Ins W) b_s_api_Ins := dec_slice Tryz.underlying36 dec_api_Ins (by kernel_rfl) (by decide) (by kernel_rfl)

end Go.Proofs.YtakfineljffoaaaGreatDoor
