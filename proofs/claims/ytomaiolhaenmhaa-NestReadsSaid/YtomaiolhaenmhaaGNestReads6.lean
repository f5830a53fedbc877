/-
  THE REFERENCE's CURSOR: octet. Conditions: lengths in the form's reach.
-/
import Derived.Test.YtomaiolhaenmhaaGNestReads5
namespace Go.Proofs.Ytomaiolhaenmhaa
open Go.RowKit Go.Lib
attribute [local go_sem ↓] Go.wp_at_zero Go.wp_at_succ

theorem say_same {is : Bool} {e : Int} {s : ByteArray × Int} (h : s.2 ≠ 0) : sayM is e s = s := if_neg (fun g => h g.2)
set_option maxRecDepth 100000 in
set_option maxHeartbeats 1000000 in
theorem coctet_any (w : World) (B : Nat) (all : Int) (s : ByteArray × Int) (h : CuB w B all s) (hs : okSc s) :
    Calls Try.prog 110 #[.pointer (some ⟨B, 0, none⟩)] w fun r w' => r = .returned (.int .i64 (octM s).1) ∧ CuB w' B all (octM s).2 ∧ ToC B w w' := by
  have HS := hid (fun is => csay_any w B all s is 3 h)
  obtain ⟨rest, bad⟩ := s
  unfold okSc at hs
  unfold octM
  simp only at hs HS ⊢
  have b0 := h.cell (i := 0) rfl
  clear h
  by_cases hb : bad ≠ 0
  · rw [if_pos hb]
    have hb2 : (bad != 0) = true := by simpa using hb
    have HS2 := hid (fun is => by have := HS.out is; rw [say_same (s := (rest, bad)) hb] at this; exact this)
    clear hb HS
    go_enter Try.func110, Try.ntmps110
    go_wp2_with fail
    refine (HS2.out _).mono ?_
    rintro r w1 ⟨rfl, h1, h2⟩
    have c2 := h1.cell (i := 2) rfl
    have HX := hid (And.intro h1 h2)
    clear h1 h2
    go_wp2_with fail
    go_ret
    exact ⟨rfl, HX.out.1, HX.out.2⟩
  · rw [if_neg hb]
    have hb0 : bad = 0 := Classical.byContradiction hb
    subst hb0
    clear hb
    by_cases hz : 0 < rest.size
    · rw [dif_pos hz]
      have hne : (rest.toList == []) = false := by
        rw [ByteArray.toList_eq]
        obtain ⟨⟨l⟩⟩ := rest
        cases l with
        | nil => exact absurd hz (by decide)
        | cons a r => rfl
      have HS2 := hid (show Calls Try.prog 112 #[.pointer (some ⟨B, 0, none⟩), .bool false, .int .i64 3] w fun r w' => r = .returned (.tuple #[]) ∧ CuB w' B all (rest, 0) ∧ ToC B w w' from HS.out false)
      have RI := fun wx => (run_index_string wx 9 rest .i64 (0 : Int) Try.underlying9).trans (dif_pos (show (0 : Int) ≤ 0 ∧ (0 : Int) < (rest.size : Int) from ⟨Int.le_refl _, by omega⟩))
      simp only [Int.toNat_zero] at RI
      have hv : (rest[0]'hz).toNat < 256 := UInt8.toNat_lt _
      have hk1 : (1 : Int) ≤ (rest.size : Int) := by omega
      have hx : ¬ (9223372036854775807 < rest.size) := by omega
      generalize (rest[0]'hz).toNat = V at *
      have hw : wrap64 (V : Int) = V := by unfold wrap64; omega
      have hwi : IntKind.i64.wrap (V : Int) = V := IntWalk.i64_in _ (by omega)
      clear HS hz hv
      go_enter Try.func110, Try.ntmps110
      go_wp2_with fail
      refine HS2.out.mono ?_
      rintro r w1 ⟨rfl, h1, h2⟩
      have c0 := h1.cell (i := 0) rfl
      have c2 := h1.cell (i := 2) rfl
      have cf := h1.free 0
      have HX := hid (And.intro (h1.set 0 (.string (rest.extract 1 rest.size))) h2)
      clear h1 h2
      go_wp2_with fail
      go_ret
      exact ⟨rfl, HX.out.1, HX.out.2.trans (Touch.setCell (F := fun j => j = B) (a := ⟨B, 0, none⟩) rfl _)⟩
    · rw [dif_neg hz]
      have hne : (rest.toList == []) = true := by
        rw [ByteArray.toList_eq]
        obtain ⟨⟨l⟩⟩ := rest
        cases l with
        | nil => rfl
        | cons a r => exact absurd (Nat.succ_pos _) hz
      have HS2 := hid (show Calls Try.prog 112 #[.pointer (some ⟨B, 0, none⟩), .bool true, .int .i64 3] w fun r w' => r = .returned (.tuple #[]) ∧ CuB w' B all (rest, 3) ∧ ToC B w w' from HS.out true)
      clear HS hz
      go_enter Try.func110, Try.ntmps110
      go_wp2_with fail
      refine HS2.out.mono ?_
      rintro r w1 ⟨rfl, h1, h2⟩
      have c2 := h1.cell (i := 2) rfl
      have HX := hid (And.intro h1 h2)
      clear h1 h2
      go_wp2_with fail
      go_ret
      exact ⟨rfl, HX.out.1, HX.out.2⟩
end Go.Proofs.Ytomaiolhaenmhaa
/-
  INSTRUCTIONS: the program's reader, what stands beside an instruction: every kind but one (ways). Conditions: lengths in the form's reach.
-/
namespace Go.Proofs.Ytomaiolhaenmhaa
open Go.RowKit Go.Lib
attribute [local go_sem ↓] Go.wp_at_zero Go.wp_at_succ

/-- the reader at block R, of text t, with s left; the instruction at block X -/
structure DuI (w : World) (R X : Nat) (t : ByteArray) (s : ByteArray × Int) (op : Nat) (A B : Int) (u : Value) : Prop where
  rd : ∃ a, a ≤ t.size ∧ s.1 = left t a ∧ IrB w R t a s.2
  ins : Blk w X 90 [.int .u8 op, .int .i64 A, .int .i64 B, u]
  ne : R ≠ X
  sz : t.size ≤ 140737488351232
abbrev ToD (R X : Nat) (w w' : World) : Prop := Touch (fun k => k = R ∨ k = X) w w'
section
variable {w : World} {R X : Nat} {t : ByteArray} {s : ByteArray × Int} {op : Nat} {A B : Int} {u : Value}
theorem DuI.setA (h : DuI w R X t s op A B u) (C : Int) : DuI (w.setCell ⟨X, 1, none⟩ (.int .i64 C)) R X t s op C B u := by
  obtain ⟨a, h1, h2, h3⟩ := h.rd
  exact ⟨⟨a, h1, h2, h3.other (fun g => h.ne g.symm) _⟩, h.ins.set 1 _, h.ne, h.sz⟩
theorem DuI.setB (h : DuI w R X t s op A B u) (C : Int) : DuI (w.setCell ⟨X, 2, none⟩ (.int .i64 C)) R X t s op A C u := by
  obtain ⟨a, h1, h2, h3⟩ := h.rd
  exact ⟨⟨a, h1, h2, h3.other (fun g => h.ne g.symm) _⟩, h.ins.set 2 _, h.ne, h.sz⟩
theorem DuI.next {w' : World} {s' : ByteArray × Int} (h : DuI w R X t s op A B u) (g : ∃ a', a' ≤ t.size ∧ s'.1 = left t a' ∧ IrB w' R t a' s'.2) (ht : ToI R w w') : DuI w' R X t s' op A B u :=
  ⟨g, h.ins.touch ht (fun e => h.ne e.symm), h.ne, h.sz⟩
theorem ToD.of {w' : World} (h : ToI R w w') : ToD R X w w' := h.mono (fun _ _ g => Or.inl g)
theorem ToD.put (w : World) (i : Nat) (v : Value) : ToD R X w (w.setCell ⟨X, i, none⟩ v) := Touch.setCell (a := ⟨X, i, none⟩) (Or.inr rfl) v
theorem dplain (h : DuI w R X t s op A B u) :
    Calls Try.prog 162 #[.pointer (some ⟨R, 0, none⟩)] w fun r w' => r = .returned (.int .i64 (numM s).1) ∧ DuI w' R X t (numM s).2 op A B u ∧ ToD R X w w' := by
  obtain ⟨a, h1, h2, h3⟩ := h.rd
  have k := iplain_any w R t a s.2 h3 h1 h.sz
  rw [← h2] at k
  exact k.mono (fun _ _ ⟨e, g, ht⟩ => ⟨e, h.next g ht, .of ht⟩)
theorem dsigned (bits : Nat) (hb : bits = 32 ∨ bits = 64) (h : DuI w R X t s op A B u) (h0 : s.2 = 0) :
    Calls Try.prog 164 #[.pointer (some ⟨R, 0, none⟩), .int .i64 bits] w fun r w' => r = .returned (.int .i64 (sgnM bits s).1) ∧ DuI w' R X t (sgnM bits s).2 op A B u ∧ ToD R X w w' := by
  obtain ⟨a, h1, h2, h3⟩ := h.rd
  rw [h0] at h3
  have k := isigned_any w R t a bits hb h3 h1 h.sz
  rw [← h2, show (s.1, (0 : Int)) = s by rw [← h0]] at k
  exact k.mono (fun _ _ ⟨e, g, ht⟩ => ⟨e, h.next g ht, .of ht⟩)
theorem doctet (h : DuI w R X t s op A B u) :
    Calls Try.prog 105 #[.pointer (some ⟨R, 0, none⟩)] w fun r w' => r = .returned (.int .u8 (octM s).1) ∧ DuI w' R X t (octM s).2 op A B u ∧ ToD R X w w' := by
  obtain ⟨a, h1, h2, h3⟩ := h.rd
  have k := ioctet_any w R t a s.2 h3 h1 h.sz
  rw [← h2] at k
  exact k.mono (fun _ _ ⟨e, g, ht⟩ => ⟨e, h.next g ht, .of ht⟩)
theorem dnought (h : DuI w R X t s op A B u) :
    Calls Try.prog 163 #[.pointer (some ⟨R, 0, none⟩)] w fun r w' => r = .returned (.tuple #[]) ∧ DuI w' R X t (nogM s) op A B u ∧ ToD R X w w' := by
  obtain ⟨a, h1, h2, h3⟩ := h.rd
  have k := inought_any w R t a s.2 h3 h1 h.sz
  rw [← h2] at k
  exact k.mono (fun _ _ ⟨e, g, ht⟩ => ⟨e, h.next g ht, .of ht⟩)
theorem say_true (e : Int) (s : ByteArray × Int) : sayM true e s = (s.1, bad1 e s.2) := by
  unfold sayM bad1
  simp only [true_and]
  split <;> rfl
theorem dfail (e : Int) (h : DuI w R X t s op A B u) :
    Calls Try.prog 107 #[.pointer (some ⟨R, 0, none⟩), .int .i64 e] w fun r w' => r = .returned (.tuple #[]) ∧ DuI w' R X t (sayM true e s) op A B u ∧ ToD R X w w' := by
  obtain ⟨a, h1, h2, h3⟩ := h.rd
  rw [say_true]
  exact (ifail_any w R t a s.2 e h3).mono (fun _ _ ⟨e, g, ht⟩ => ⟨e, h.next ⟨a, h1, h2, g⟩ ht, .of ht⟩)
end
/-- block: the letter is a kind or none -/
def okK (n : Nat) : Bool := n != 64 && (n != 127 && n != 126)

set_option maxRecDepth 100000 in
set_option maxHeartbeats 1000000 in
theorem ibs_1 (w : World) (R X : Nat) (t : ByteArray) (s : ByteArray × Int) (op : Nat) (u : Value) (h : DuI w R X t s op 0 0 u) :
    Calls Try.prog 108 #[.pointer (some ⟨R, 0, none⟩), .pointer (some ⟨X, 0, none⟩), .int .i64 1] w fun r w' => r = .returned (.tuple #[]) ∧ DuI w' R X t s op 0 0 u ∧ ToD R X w w' := by
  have H0 := hid h
  clear h
  go_enter Try.func108, Try.ntmps108
  go_wp2_with fail
  go_end0
  exact ⟨rfl, H0.out, Touch.refl _ _⟩

set_option maxRecDepth 100000 in
set_option maxHeartbeats 1000000 in
theorem ibs_3 (w : World) (R X : Nat) (t : ByteArray) (s : ByteArray × Int) (op : Nat) (u : Value) (h : DuI w R X t s op 0 0 u) :
    Calls Try.prog 108 #[.pointer (some ⟨R, 0, none⟩), .pointer (some ⟨X, 0, none⟩), .int .i64 3] w fun r w' => r = .returned (.tuple #[]) ∧ DuI w' R X t (numM s).2 op (numM s).1 0 u ∧ ToD R X w w' := by
  have H0 := hid h
  clear h
  go_enter Try.func108, Try.ntmps108
  go_wp2_with fail
  refine (dplain H0.out).mono ?_
  rintro r0 w1 ⟨rfl, g1, g2⟩
  have bf0 := g1.ins.free
  have ba0 := g1.ins.cell (i := 1) rfl
  have bb0 := g1.ins.cell (i := 2) rfl
  have H1 := hid (And.intro g1 g2)
  clear g1 g2
  go_wp2_with fail
  go_end0
  exact ⟨rfl, (H1.out.1.setA _), ((Touch.refl _ _).trans H1.out.2).trans (ToD.put _ _ _)⟩

set_option maxRecDepth 100000 in
set_option maxHeartbeats 1000000 in
theorem ibs_5 (w : World) (R X : Nat) (t : ByteArray) (s : ByteArray × Int) (op : Nat) (u : Value) (h : DuI w R X t s op 0 0 u) :
    Calls Try.prog 108 #[.pointer (some ⟨R, 0, none⟩), .pointer (some ⟨X, 0, none⟩), .int .i64 5] w fun r w' => r = .returned (.tuple #[]) ∧ DuI w' R X t (nogM (numM s).2) op (numM s).1 0 u ∧ ToD R X w w' := by
  have H0 := hid h
  clear h
  go_enter Try.func108, Try.ntmps108
  go_wp2_with fail
  refine (dplain H0.out).mono ?_
  rintro r0 w1 ⟨rfl, g1, g2⟩
  have bf0 := g1.ins.free
  have ba0 := g1.ins.cell (i := 1) rfl
  have bb0 := g1.ins.cell (i := 2) rfl
  have H1 := hid (And.intro g1 g2)
  clear g1 g2
  go_wp2_with fail
  refine (dnought (H1.out.1.setA _)).mono ?_
  rintro r1 w2 ⟨rfl, g1, g2⟩
  have H2 := hid (And.intro g1 g2)
  clear g1 g2
  go_wp2_with fail
  go_end0
  exact ⟨rfl, H2.out.1, (((Touch.refl _ _).trans H1.out.2).trans (ToD.put _ _ _)).trans H2.out.2⟩

set_option maxRecDepth 100000 in
set_option maxHeartbeats 1000000 in
theorem ibs_6 (w : World) (R X : Nat) (t : ByteArray) (s : ByteArray × Int) (op : Nat) (u : Value) (h : DuI w R X t s op 0 0 u) :
    Calls Try.prog 108 #[.pointer (some ⟨R, 0, none⟩), .pointer (some ⟨X, 0, none⟩), .int .i64 6] w fun r w' => r = .returned (.tuple #[]) ∧ DuI w' R X t (numM (numM s).2).2 op (numM s).1 (numM (numM s).2).1 u ∧ ToD R X w w' := by
  have H0 := hid h
  clear h
  go_enter Try.func108, Try.ntmps108
  go_wp2_with fail
  refine (dplain H0.out).mono ?_
  rintro r0 w1 ⟨rfl, g1, g2⟩
  have bf0 := g1.ins.free
  have ba0 := g1.ins.cell (i := 1) rfl
  have bb0 := g1.ins.cell (i := 2) rfl
  have H1 := hid (And.intro g1 g2)
  clear g1 g2
  go_wp2_with fail
  refine (dplain (H1.out.1.setA _)).mono ?_
  rintro r1 w2 ⟨rfl, g1, g2⟩
  have bf1 := g1.ins.free
  have ba1 := g1.ins.cell (i := 1) rfl
  have bb1 := g1.ins.cell (i := 2) rfl
  have H2 := hid (And.intro g1 g2)
  clear g1 g2
  go_wp2_with fail
  go_end0
  exact ⟨rfl, (H2.out.1.setB _), ((((Touch.refl _ _).trans H1.out.2).trans (ToD.put _ _ _)).trans H2.out.2).trans (ToD.put _ _ _)⟩

set_option maxRecDepth 100000 in
set_option maxHeartbeats 1000000 in
theorem ibs_7 (w : World) (R X : Nat) (t : ByteArray) (s : ByteArray × Int) (op : Nat) (u : Value) (h : DuI w R X t s op 0 0 u) :
    Calls Try.prog 108 #[.pointer (some ⟨R, 0, none⟩), .pointer (some ⟨X, 0, none⟩), .int .i64 7] w fun r w' => r = .returned (.tuple #[]) ∧ DuI w' R X t (nogM s) op 0 0 u ∧ ToD R X w w' := by
  have H0 := hid h
  clear h
  go_enter Try.func108, Try.ntmps108
  go_wp2_with fail
  refine (dnought H0.out).mono ?_
  rintro r0 w1 ⟨rfl, g1, g2⟩
  have H1 := hid (And.intro g1 g2)
  clear g1 g2
  go_wp2_with fail
  go_end0
  exact ⟨rfl, H1.out.1, (Touch.refl _ _).trans H1.out.2⟩

set_option maxRecDepth 100000 in
set_option maxHeartbeats 1000000 in
theorem ibs_8 (w : World) (R X : Nat) (t : ByteArray) (s : ByteArray × Int) (op : Nat) (u : Value) (h : DuI w R X t s op 0 0 u) (h0 : s.2 = 0) :
    Calls Try.prog 108 #[.pointer (some ⟨R, 0, none⟩), .pointer (some ⟨X, 0, none⟩), .int .i64 8] w fun r w' => r = .returned (.tuple #[]) ∧ DuI w' R X t (sgnM 32 s).2 op (sgnM 32 s).1 0 u ∧ ToD R X w w' := by
  have H0 := hid h
  clear h
  go_enter Try.func108, Try.ntmps108
  go_wp2_with fail
  refine (dsigned 32 (.inl rfl) H0.out h0).mono ?_
  rintro r0 w1 ⟨rfl, g1, g2⟩
  have bf0 := g1.ins.free
  have ba0 := g1.ins.cell (i := 1) rfl
  have bb0 := g1.ins.cell (i := 2) rfl
  have H1 := hid (And.intro g1 g2)
  clear g1 g2
  go_wp2_with fail
  go_end0
  exact ⟨rfl, (H1.out.1.setA _), ((Touch.refl _ _).trans H1.out.2).trans (ToD.put _ _ _)⟩

set_option maxRecDepth 100000 in
set_option maxHeartbeats 1000000 in
theorem ibs_9 (w : World) (R X : Nat) (t : ByteArray) (s : ByteArray × Int) (op : Nat) (u : Value) (h : DuI w R X t s op 0 0 u) (h0 : s.2 = 0) :
    Calls Try.prog 108 #[.pointer (some ⟨R, 0, none⟩), .pointer (some ⟨X, 0, none⟩), .int .i64 9] w fun r w' => r = .returned (.tuple #[]) ∧ DuI w' R X t (sgnM 64 s).2 op (sgnM 64 s).1 0 u ∧ ToD R X w w' := by
  have H0 := hid h
  clear h
  go_enter Try.func108, Try.ntmps108
  go_wp2_with fail
  refine (dsigned 64 (.inr rfl) H0.out h0).mono ?_
  rintro r0 w1 ⟨rfl, g1, g2⟩
  have bf0 := g1.ins.free
  have ba0 := g1.ins.cell (i := 1) rfl
  have bb0 := g1.ins.cell (i := 2) rfl
  have H1 := hid (And.intro g1 g2)
  clear g1 g2
  go_wp2_with fail
  go_end0
  exact ⟨rfl, (H1.out.1.setA _), ((Touch.refl _ _).trans H1.out.2).trans (ToD.put _ _ _)⟩

theorem octM_lt (s : ByteArray × Int) : (octM s).1 < 256 := by
  unfold octM
  split
  · exact (by decide : 0 < 256)
  · split
    · exact UInt8.toNat_lt _
    · exact (by decide : 0 < 256)
theorem say_false (e : Int) (s : ByteArray × Int) : sayM false e s = s := if_neg (fun g => by simp at g)
set_option maxRecDepth 100000 in
set_option maxHeartbeats 1000000 in
theorem ibs_2 (w : World) (R X : Nat) (t : ByteArray) (s : ByteArray × Int) (op : Nat) (u : Value) (h : DuI w R X t s op 0 0 u) :
    Calls Try.prog 108 #[.pointer (some ⟨R, 0, none⟩), .pointer (some ⟨X, 0, none⟩), .int .i64 2] w fun r w' => r = .returned (.tuple #[]) ∧ DuI w' R X t (sayM (okK (octM s).1) 6 (octM s).2) op (octM s).1 0 u ∧ ToD R X w w' := by
  have H0 := hid (doctet h)
  have hlt := octM_lt s
  generalize octM s = q at *
  obtain ⟨n, s1⟩ := q
  simp only at H0 hlt ⊢
  clear h
  have hw : IntKind.i64.wrap (n : Int) = n := IntWalk.i64_in _ (by omega)
  have hw2 : wrap64 (n : Int) = n := by unfold wrap64; omega
  by_cases h64 : n = 64
  · subst h64
    rw [show okK 64 = false from rfl, say_false]
    go_enter Try.func108, Try.ntmps108
    go_wp2_with fail
    refine H0.out.mono ?_
    rintro r0 w1 ⟨rfl, g1, g2⟩
    have bf0 := g1.ins.free
    have ba0 := g1.ins.cell (i := 1) rfl
    have H1 := hid (And.intro g1 g2)
    clear g1 g2
    go_wp2_with fail
    go_end0
    exact ⟨rfl, (H1.out.1).setA _, H1.out.2.trans (ToD.put _ _ _)⟩
  by_cases h127 : n = 127
  · subst h127
    rw [show okK 127 = false from rfl, say_false]
    go_enter Try.func108, Try.ntmps108
    go_wp2_with fail
    refine H0.out.mono ?_
    rintro r0 w1 ⟨rfl, g1, g2⟩
    have bf0 := g1.ins.free
    have ba0 := g1.ins.cell (i := 1) rfl
    have H1 := hid (And.intro g1 g2)
    clear g1 g2
    go_wp2_with fail
    go_end0
    exact ⟨rfl, (H1.out.1).setA _, H1.out.2.trans (ToD.put _ _ _)⟩
  by_cases h126 : n = 126
  · subst h126
    rw [show okK 126 = false from rfl, say_false]
    go_enter Try.func108, Try.ntmps108
    go_wp2_with fail
    refine H0.out.mono ?_
    rintro r0 w1 ⟨rfl, g1, g2⟩
    have bf0 := g1.ins.free
    have ba0 := g1.ins.cell (i := 1) rfl
    have H1 := hid (And.intro g1 g2)
    clear g1 g2
    go_wp2_with fail
    go_end0
    exact ⟨rfl, (H1.out.1).setA _, H1.out.2.trans (ToD.put _ _ _)⟩
  · have e1 : ((n : Int) != 64) = true := by simp; omega
    have e2 : ((n : Int) != 127) = true := by simp; omega
    have e3 : ((n : Int) != 126) = true := by simp; omega
    rw [show okK n = true by unfold okK; simp [h64, h127, h126]]
    clear h64 h127 h126
    go_enter Try.func108, Try.ntmps108
    go_wp2_with fail
    refine H0.out.mono ?_
    rintro r0 w1 ⟨rfl, g1, g2⟩
    have bf0 := g1.ins.free
    have ba0 := g1.ins.cell (i := 1) rfl
    have H1 := hid (And.intro g1 g2)
    clear g1 g2
    go_wp2_with fail
    refine (dfail 6 ((H1.out.1).setA _)).mono ?_
    rintro r1 w2 ⟨rfl, g1, g2⟩
    have H2 := hid (And.intro g1 g2)
    clear g1 g2
    go_wp2_with fail
    go_end0
    exact ⟨rfl, H2.out.1, (H1.out.2.trans (ToD.put _ _ _)).trans H2.out.2⟩
end Go.Proofs.Ytomaiolhaenmhaa
