/-
  THE WALKS of the LEB128 writers. No condition beside the kinds' bounds.
-/
import Derived.Test.YtakfineljffoaaaGreatDoorGBinReads1
import Derived.Test.YtakfineljffoaaaGreatDoorGBinReads3
import Derived.Test.YtakfineljffoaaaGreatDoorGBinReads11
import Derived.Test.YtakfineljffoaaaGreatDoorGBinReads14
namespace Go.Proofs.YtakfineljffoaaaGreatDoor
open Go.RowKit

/-- the bytes of a number, seven bits at a time (f: how many more there may be) -/
def encU : Nat → Nat → List UInt8
  | 0, n => [byteOf n]
  | f + 1, n => if n < 128 then [byteOf n] else byteOf ((n : Int) % 128 + 128) :: encU f (n / 128)

theorem u64_and127 (n : Nat) (h : n < 18446744073709551616) : bits .and .u64 (n : Int) 127 = ((n % 128 : Nat) : Int) := by
  have h := bits_mask .u64 64 (by decide) (fun x h0 h1 => by rw [Go.IntKind.wrap_u64]; omega) 7 (by decide) (n : Int) (by omega) (by omega)
  have e : ((2 : Int) ^ 7 - 1) = 127 := by decide
  rw [e] at h
  rw [h]; simp
theorem u8_or128' (c : Nat) (h : c < 128) : bits .or .u8 (c : Int) 128 = ((c + 128 : Nat) : Int) := by
  have := or_add .u8 (c : Int) 128 7 (by decide) (by omega) (by omega) (by decide)
  rw [this, Go.IntKind.wrap_u8]; omega

theorem encU_len (f n : Nat) : (encU f n).length ≤ f + 1 := by
  induction f generalizing n with
  | zero => simp [encU]
  | succ f ih =>
    rw [encU]
    split
    · simp
    · have := ih (n / 128); simp; omega
theorem encU_last {f m : Nat} (h : m < 128) : encU f m = [byteOf m] := by
  cases f <;> simp [encU, h]
theorem encU_lt {f m : Nat} (h : Hid (m < 128 ^ (f + 1 + 1))) (_ : ¬ m < 128) : Hid (m / 128 < 128 ^ (f + 1)) := by
  have := h.out
  rw [Nat.pow_succ] at this
  exact Nat.div_lt_of_lt_mul (by rw [Nat.mul_comm]; exact this)
theorem encU_next {f m n : Nat} {xs : List Int} (h : Hid ((xs.map fun n => UInt8.ofNat n.toNat) ++ encU (f + 1) m = encU 9 n)) (hm : ¬ m < 128) :
    Hid (((xs ++ [((m % 128 + 128 : Nat) : Int)]).map fun n => UInt8.ofNat n.toNat) ++ encU f (m / 128) = encU 9 n) := by
  rw [← h.out, encU, if_neg hm]
  show _ = _
  simp only [List.map_append, List.map_cons, List.map_nil, List.append_assoc, List.cons_append, List.nil_append]
  congr 2
  rw [byteOf]
  congr 1
  omega

end Go.Proofs.YtakfineljffoaaaGreatDoor
namespace Go.Proofs.YtakfineljffoaaaGreatDoor
open Go.RowKit Go.Lib
attribute [local go_sem ↓] Go.wp_at_zero Go.wp_at_succ

theorem say_same {is : Bool} {e : Int} {s : ByteArray × Int} (h : s.2 ≠ 0) : sayM is e s = s := if_neg (fun g => h g.2)
set_option maxRecDepth 100000 in
set_option maxHeartbeats 1000000 in
theorem coctet_any (w : World) (B : Nat) (all : Int) (s : ByteArray × Int) (h : CuB w B all s) (hs : okSc s) :
    Calls Tryz.prog 20 #[.pointer (some ⟨B, 0, none⟩)] w fun r w' => r = .returned (.int .i64 (octM s).1) ∧ CuB w' B all (octM s).2 ∧ ToC B w w' := by
  have HS := hid (fun is => csay_any w B all s is 3 h)
  obtain ⟨rest, bad⟩ := s
  unfold okSc at hs
  unfold octM
  simp only at hs HS ⊢
  have b0 := h.cell (i := 0) rfl
  clear h
  by_cases hb : bad ≠ 0
  · rw [if_pos hb]
    have hb2 : (bad != 0) = true := by simpa using hb
    have HS2 := hid (fun is => by have := HS.out is; rw [say_same (s := (rest, bad)) hb] at this; exact this)
    clear hb HS
    go_enter Tryz.func20, Tryz.ntmps20
    go_wp2_with fail
    refine (HS2.out _).mono ?_
    rintro r w1 ⟨rfl, h1, h2⟩
    have c2 := h1.cell (i := 2) rfl
    have HX := hid (And.intro h1 h2)
    clear h1 h2
    go_wp2_with fail
    go_ret
    exact ⟨rfl, HX.out.1, HX.out.2⟩
  · rw [if_neg hb]
    have hb0 : bad = 0 := Classical.byContradiction hb
    subst hb0
    clear hb
    by_cases hz : 0 < rest.size
    · rw [dif_pos hz]
      have hne : (rest.toList == []) = false := by
        rw [ByteArray.toList_eq]
        obtain ⟨⟨l⟩⟩ := rest
        cases l with
        | nil => exact absurd hz (by decide)
        | cons a r => rfl
      have HS2 := hid (show Calls Tryz.prog 21 #[.pointer (some ⟨B, 0, none⟩), .bool false, .int .i64 3] w fun r w' => r = .returned (.tuple #[]) ∧ CuB w' B all (rest, 0) ∧ ToC B w w' from HS.out false)
      have RI := fun wx => (run_index_string wx 9 rest .i64 (0 : Int) Tryz.underlying9).trans (dif_pos (show (0 : Int) ≤ 0 ∧ (0 : Int) < (rest.size : Int) from ⟨Int.le_refl _, by omega⟩))
      simp only [Int.toNat_zero] at RI
      have hv : (rest[0]'hz).toNat < 256 := UInt8.toNat_lt _
      have hk1 : (1 : Int) ≤ (rest.size : Int) := by omega
      have hx : ¬ (9223372036854775807 < rest.size) := by omega
      generalize (rest[0]'hz).toNat = V at *
      have hw : wrap64 (V : Int) = V := by unfold wrap64; omega
      have hwi : IntKind.i64.wrap (V : Int) = V := IntWalk.i64_in _ (by omega)
      clear HS hz hv
      go_enter Tryz.func20, Tryz.ntmps20
      go_wp2_with fail
      refine HS2.out.mono ?_
      rintro r w1 ⟨rfl, h1, h2⟩
      have c0 := h1.cell (i := 0) rfl
      have c2 := h1.cell (i := 2) rfl
      have cf := h1.free 0
      have HX := hid (And.intro (h1.set 0 (.string (rest.extract 1 rest.size))) h2)
      clear h1 h2
      go_wp2_with fail
      go_ret
      exact ⟨rfl, HX.out.1, HX.out.2.trans (Touch.setCell (F := fun j => j = B) (a := ⟨B, 0, none⟩) rfl _)⟩
    · rw [dif_neg hz]
      have hne : (rest.toList == []) = true := by
        rw [ByteArray.toList_eq]
        obtain ⟨⟨l⟩⟩ := rest
        cases l with
        | nil => rfl
        | cons a r => exact absurd (Nat.succ_pos _) hz
      have HS2 := hid (show Calls Tryz.prog 21 #[.pointer (some ⟨B, 0, none⟩), .bool true, .int .i64 3] w fun r w' => r = .returned (.tuple #[]) ∧ CuB w' B all (rest, 3) ∧ ToC B w w' from HS.out true)
      clear HS hz
      go_enter Tryz.func20, Tryz.ntmps20
      go_wp2_with fail
      refine HS2.out.mono ?_
      rintro r w1 ⟨rfl, h1, h2⟩
      have c2 := h1.cell (i := 2) rfl
      have HX := hid (And.intro h1 h2)
      clear h1 h2
      go_wp2_with fail
      go_ret
      exact ⟨rfl, HX.out.1, HX.out.2⟩
end Go.Proofs.YtakfineljffoaaaGreatDoor
namespace Go.Proofs.YtakfineljffoaaaGreatDoor
open Go.RowKit Go.Lib
attribute [local go_sem ↓] Go.wp_at_zero Go.wp_at_succ

/-- the reader at block R, of text t, with s left; the instruction at block X -/
structure DuI (w : World) (R X : Nat) (t : ByteArray) (s : ByteArray × Int) (op : Nat) (A B : Int) (u : Value) : Prop where
  rd : ∃ a, a ≤ t.size ∧ s.1 = left t a ∧ IrB w R t a s.2
  ins : Blk w X 97 [.int .u8 op, .int .i64 A, .int .i64 B, u]
  ne : R ≠ X
  sz : t.size ≤ 140737488351232
abbrev ToD (R X : Nat) (w w' : World) : Prop := Touch (fun k => k = R ∨ k = X) w w'
section
variable {w : World} {R X : Nat} {t : ByteArray} {s : ByteArray × Int} {op : Nat} {A B : Int} {u : Value}
theorem DuI.setA (h : DuI w R X t s op A B u) (C : Int) : DuI (w.setCell ⟨X, 1, none⟩ (.int .i64 C)) R X t s op C B u := by
  obtain ⟨a, h1, h2, h3⟩ := h.rd
  exact ⟨⟨a, h1, h2, h3.other (fun g => h.ne g.symm) _⟩, h.ins.set 1 _, h.ne, h.sz⟩
theorem DuI.setB (h : DuI w R X t s op A B u) (C : Int) : DuI (w.setCell ⟨X, 2, none⟩ (.int .i64 C)) R X t s op A C u := by
  obtain ⟨a, h1, h2, h3⟩ := h.rd
  exact ⟨⟨a, h1, h2, h3.other (fun g => h.ne g.symm) _⟩, h.ins.set 2 _, h.ne, h.sz⟩
theorem DuI.next {w' : World} {s' : ByteArray × Int} (h : DuI w R X t s op A B u) (g : ∃ a', a' ≤ t.size ∧ s'.1 = left t a' ∧ IrB w' R t a' s'.2) (ht : ToI R w w') : DuI w' R X t s' op A B u :=
  ⟨g, h.ins.touch ht (fun e => h.ne e.symm), h.ne, h.sz⟩
theorem ToD.of {w' : World} (h : ToI R w w') : ToD R X w w' := h.mono (fun _ _ g => Or.inl g)
theorem ToD.put (w : World) (i : Nat) (v : Value) : ToD R X w (w.setCell ⟨X, i, none⟩ v) := Touch.setCell (a := ⟨X, i, none⟩) (Or.inr rfl) v
theorem dplain (h : DuI w R X t s op A B u) :
    Calls Tryz.prog 163 #[.pointer (some ⟨R, 0, none⟩)] w fun r w' => r = .returned (.int .i64 (numM s).1) ∧ DuI w' R X t (numM s).2 op A B u ∧ ToD R X w w' := by
  obtain ⟨a, h1, h2, h3⟩ := h.rd
  have k := iplain_any w R t a s.2 h3 h1 h.sz
  rw [← h2] at k
  exact k.mono (fun _ _ ⟨e, g, ht⟩ => ⟨e, h.next g ht, .of ht⟩)
theorem dsigned (bits : Nat) (hb : bits = 32 ∨ bits = 64) (h : DuI w R X t s op A B u) (h0 : s.2 = 0) :
    Calls Tryz.prog 165 #[.pointer (some ⟨R, 0, none⟩), .int .i64 bits] w fun r w' => r = .returned (.int .i64 (sgnM bits s).1) ∧ DuI w' R X t (sgnM bits s).2 op A B u ∧ ToD R X w w' := by
  obtain ⟨a, h1, h2, h3⟩ := h.rd
  rw [h0] at h3
  have k := isigned_any w R t a bits hb h3 h1 h.sz
  rw [← h2, show (s.1, (0 : Int)) = s by rw [← h0]] at k
  exact k.mono (fun _ _ ⟨e, g, ht⟩ => ⟨e, h.next g ht, .of ht⟩)
theorem doctet (h : DuI w R X t s op A B u) :
    Calls Tryz.prog 151 #[.pointer (some ⟨R, 0, none⟩)] w fun r w' => r = .returned (.int .u8 (octM s).1) ∧ DuI w' R X t (octM s).2 op A B u ∧ ToD R X w w' := by
  obtain ⟨a, h1, h2, h3⟩ := h.rd
  have k := ioctet_any w R t a s.2 h3 h1 h.sz
  rw [← h2] at k
  exact k.mono (fun _ _ ⟨e, g, ht⟩ => ⟨e, h.next g ht, .of ht⟩)
theorem dnought (h : DuI w R X t s op A B u) :
    Calls Tryz.prog 164 #[.pointer (some ⟨R, 0, none⟩)] w fun r w' => r = .returned (.tuple #[]) ∧ DuI w' R X t (nogM s) op A B u ∧ ToD R X w w' := by
  obtain ⟨a, h1, h2, h3⟩ := h.rd
  have k := inought_any w R t a s.2 h3 h1 h.sz
  rw [← h2] at k
  exact k.mono (fun _ _ ⟨e, g, ht⟩ => ⟨e, h.next g ht, .of ht⟩)
theorem say_true (e : Int) (s : ByteArray × Int) : sayM true e s = (s.1, bad1 e s.2) := by
  unfold sayM bad1
  simp only [true_and]
  split <;> rfl
theorem dfail (e : Int) (h : DuI w R X t s op A B u) :
    Calls Tryz.prog 152 #[.pointer (some ⟨R, 0, none⟩), .int .i64 e] w fun r w' => r = .returned (.tuple #[]) ∧ DuI w' R X t (sayM true e s) op A B u ∧ ToD R X w w' := by
  obtain ⟨a, h1, h2, h3⟩ := h.rd
  rw [say_true]
  exact (ifail_any w R t a s.2 e h3).mono (fun _ _ ⟨e, g, ht⟩ => ⟨e, h.next ⟨a, h1, h2, g⟩ ht, .of ht⟩)
end
/-- block: the letter is a kind or none -/
def okK (n : Nat) : Bool := n != 64 && (n != 127 && n != 126)

set_option maxRecDepth 100000 in
set_option maxHeartbeats 1000000 in
theorem ibs_1 (w : World) (R X : Nat) (t : ByteArray) (s : ByteArray × Int) (op : Nat) (u : Value) (h : DuI w R X t s op 0 0 u) :
    Calls Tryz.prog 153 #[.pointer (some ⟨R, 0, none⟩), .pointer (some ⟨X, 0, none⟩), .int .i64 1] w fun r w' => r = .returned (.tuple #[]) ∧ DuI w' R X t s op 0 0 u ∧ ToD R X w w' := by
  have H0 := hid h
  clear h
  go_enter Tryz.func153, Tryz.ntmps153
  go_wp2_with fail
  go_end0
  exact ⟨rfl, H0.out, Touch.refl _ _⟩

set_option maxRecDepth 100000 in
set_option maxHeartbeats 1000000 in
theorem ibs_3 (w : World) (R X : Nat) (t : ByteArray) (s : ByteArray × Int) (op : Nat) (u : Value) (h : DuI w R X t s op 0 0 u) :
    Calls Tryz.prog 153 #[.pointer (some ⟨R, 0, none⟩), .pointer (some ⟨X, 0, none⟩), .int .i64 3] w fun r w' => r = .returned (.tuple #[]) ∧ DuI w' R X t (numM s).2 op (numM s).1 0 u ∧ ToD R X w w' := by
  have H0 := hid h
  clear h
  go_enter Tryz.func153, Tryz.ntmps153
  go_wp2_with fail
  refine (dplain H0.out).mono ?_
  rintro r0 w1 ⟨rfl, g1, g2⟩
  have bf0 := g1.ins.free
  have ba0 := g1.ins.cell (i := 1) rfl
  have bb0 := g1.ins.cell (i := 2) rfl
  have H1 := hid (And.intro g1 g2)
  clear g1 g2
  go_wp2_with fail
  go_end0
  exact ⟨rfl, (H1.out.1.setA _), ((Touch.refl _ _).trans H1.out.2).trans (ToD.put _ _ _)⟩

set_option maxRecDepth 100000 in
set_option maxHeartbeats 1000000 in
theorem ibs_5 (w : World) (R X : Nat) (t : ByteArray) (s : ByteArray × Int) (op : Nat) (u : Value) (h : DuI w R X t s op 0 0 u) :
    Calls Tryz.prog 153 #[.pointer (some ⟨R, 0, none⟩), .pointer (some ⟨X, 0, none⟩), .int .i64 5] w fun r w' => r = .returned (.tuple #[]) ∧ DuI w' R X t (nogM (numM s).2) op (numM s).1 0 u ∧ ToD R X w w' := by
  have H0 := hid h
  clear h
  go_enter Tryz.func153, Tryz.ntmps153
  go_wp2_with fail
  refine (dplain H0.out).mono ?_
  rintro r0 w1 ⟨rfl, g1, g2⟩
  have bf0 := g1.ins.free
  have ba0 := g1.ins.cell (i := 1) rfl
  have bb0 := g1.ins.cell (i := 2) rfl
  have H1 := hid (And.intro g1 g2)
  clear g1 g2
  go_wp2_with fail
  refine (dnought (H1.out.1.setA _)).mono ?_
  rintro r1 w2 ⟨rfl, g1, g2⟩
  have H2 := hid (And.intro g1 g2)
  clear g1 g2
  go_wp2_with fail
  go_end0
  exact ⟨rfl, H2.out.1, (((Touch.refl _ _).trans H1.out.2).trans (ToD.put _ _ _)).trans H2.out.2⟩

set_option maxRecDepth 100000 in
set_option maxHeartbeats 1000000 in
theorem ibs_6 (w : World) (R X : Nat) (t : ByteArray) (s : ByteArray × Int) (op : Nat) (u : Value) (h : DuI w R X t s op 0 0 u) :
    Calls Tryz.prog 153 #[.pointer (some ⟨R, 0, none⟩), .pointer (some ⟨X, 0, none⟩), .int .i64 6] w fun r w' => r = .returned (.tuple #[]) ∧ DuI w' R X t (numM (numM s).2).2 op (numM s).1 (numM (numM s).2).1 u ∧ ToD R X w w' := by
  have H0 := hid h
  clear h
  go_enter Tryz.func153, Tryz.ntmps153
  go_wp2_with fail
  refine (dplain H0.out).mono ?_
  rintro r0 w1 ⟨rfl, g1, g2⟩
  have bf0 := g1.ins.free
  have ba0 := g1.ins.cell (i := 1) rfl
  have bb0 := g1.ins.cell (i := 2) rfl
  have H1 := hid (And.intro g1 g2)
  clear g1 g2
  go_wp2_with fail
  refine (dplain (H1.out.1.setA _)).mono ?_
  rintro r1 w2 ⟨rfl, g1, g2⟩
  have bf1 := g1.ins.free
  have ba1 := g1.ins.cell (i := 1) rfl
  have bb1 := g1.ins.cell (i := 2) rfl
  have H2 := hid (And.intro g1 g2)
  clear g1 g2
  go_wp2_with fail
  go_end0
  exact ⟨rfl, (H2.out.1.setB _), ((((Touch.refl _ _).trans H1.out.2).trans (ToD.put _ _ _)).trans H2.out.2).trans (ToD.put _ _ _)⟩

set_option maxRecDepth 100000 in
set_option maxHeartbeats 1000000 in
theorem ibs_7 (w : World) (R X : Nat) (t : ByteArray) (s : ByteArray × Int) (op : Nat) (u : Value) (h : DuI w R X t s op 0 0 u) :
    Calls Tryz.prog 153 #[.pointer (some ⟨R, 0, none⟩), .pointer (some ⟨X, 0, none⟩), .int .i64 7] w fun r w' => r = .returned (.tuple #[]) ∧ DuI w' R X t (nogM s) op 0 0 u ∧ ToD R X w w' := by
  have H0 := hid h
  clear h
  go_enter Tryz.func153, Tryz.ntmps153
  go_wp2_with fail
  refine (dnought H0.out).mono ?_
  rintro r0 w1 ⟨rfl, g1, g2⟩
  have H1 := hid (And.intro g1 g2)
  clear g1 g2
  go_wp2_with fail
  go_end0
  exact ⟨rfl, H1.out.1, (Touch.refl _ _).trans H1.out.2⟩

set_option maxRecDepth 100000 in
set_option maxHeartbeats 1000000 in
theorem ibs_8 (w : World) (R X : Nat) (t : ByteArray) (s : ByteArray × Int) (op : Nat) (u : Value) (h : DuI w R X t s op 0 0 u) (h0 : s.2 = 0) :
    Calls Tryz.prog 153 #[.pointer (some ⟨R, 0, none⟩), .pointer (some ⟨X, 0, none⟩), .int .i64 8] w fun r w' => r = .returned (.tuple #[]) ∧ DuI w' R X t (sgnM 32 s).2 op (sgnM 32 s).1 0 u ∧ ToD R X w w' := by
  have H0 := hid h
  clear h
  go_enter Tryz.func153, Tryz.ntmps153
  go_wp2_with fail
  refine (dsigned 32 (.inl rfl) H0.out h0).mono ?_
  rintro r0 w1 ⟨rfl, g1, g2⟩
  have bf0 := g1.ins.free
  have ba0 := g1.ins.cell (i := 1) rfl
  have bb0 := g1.ins.cell (i := 2) rfl
  have H1 := hid (And.intro g1 g2)
  clear g1 g2
  go_wp2_with fail
  go_end0
  exact ⟨rfl, (H1.out.1.setA _), ((Touch.refl _ _).trans H1.out.2).trans (ToD.put _ _ _)⟩

set_option maxRecDepth 100000 in
set_option maxHeartbeats 1000000 in
theorem ibs_9 (w : World) (R X : Nat) (t : ByteArray) (s : ByteArray × Int) (op : Nat) (u : Value) (h : DuI w R X t s op 0 0 u) (h0 : s.2 = 0) :
    Calls Tryz.prog 153 #[.pointer (some ⟨R, 0, none⟩), .pointer (some ⟨X, 0, none⟩), .int .i64 9] w fun r w' => r = .returned (.tuple #[]) ∧ DuI w' R X t (sgnM 64 s).2 op (sgnM 64 s).1 0 u ∧ ToD R X w w' := by
  have H0 := hid h
  clear h
  go_enter Tryz.func153, Tryz.ntmps153
  go_wp2_with fail
  refine (dsigned 64 (.inr rfl) H0.out h0).mono ?_
  rintro r0 w1 ⟨rfl, g1, g2⟩
  have bf0 := g1.ins.free
  have ba0 := g1.ins.cell (i := 1) rfl
  have bb0 := g1.ins.cell (i := 2) rfl
  have H1 := hid (And.intro g1 g2)
  clear g1 g2
  go_wp2_with fail
  go_end0
  exact ⟨rfl, (H1.out.1.setA _), ((Touch.refl _ _).trans H1.out.2).trans (ToD.put _ _ _)⟩

theorem octM_lt (s : ByteArray × Int) : (octM s).1 < 256 := by
  unfold octM
  split
  · exact (by decide : 0 < 256)
  · split
    · exact UInt8.toNat_lt _
    · exact (by decide : 0 < 256)
theorem say_false (e : Int) (s : ByteArray × Int) : sayM false e s = s := if_neg (fun g => by simp at g)
set_option maxRecDepth 100000 in
set_option maxHeartbeats 1000000 in
theorem ibs_2 (w : World) (R X : Nat) (t : ByteArray) (s : ByteArray × Int) (op : Nat) (u : Value) (h : DuI w R X t s op 0 0 u) :
    Calls Tryz.prog 153 #[.pointer (some ⟨R, 0, none⟩), .pointer (some ⟨X, 0, none⟩), .int .i64 2] w fun r w' => r = .returned (.tuple #[]) ∧ DuI w' R X t (sayM (okK (octM s).1) 6 (octM s).2) op (octM s).1 0 u ∧ ToD R X w w' := by
  have H0 := hid (doctet h)
  have hlt := octM_lt s
  generalize octM s = q at *
  obtain ⟨n, s1⟩ := q
  simp only at H0 hlt ⊢
  clear h
  have hw : IntKind.i64.wrap (n : Int) = n := IntWalk.i64_in _ (by omega)
  have hw2 : wrap64 (n : Int) = n := by unfold wrap64; omega
  by_cases h64 : n = 64
  · subst h64
    rw [show okK 64 = false from rfl, say_false]
    go_enter Tryz.func153, Tryz.ntmps153
    go_wp2_with fail
    refine H0.out.mono ?_
    rintro r0 w1 ⟨rfl, g1, g2⟩
    have bf0 := g1.ins.free
    have ba0 := g1.ins.cell (i := 1) rfl
    have H1 := hid (And.intro g1 g2)
    clear g1 g2
    go_wp2_with fail
    go_end0
    exact ⟨rfl, (H1.out.1).setA _, H1.out.2.trans (ToD.put _ _ _)⟩
  by_cases h127 : n = 127
  · subst h127
    rw [show okK 127 = false from rfl, say_false]
    go_enter Tryz.func153, Tryz.ntmps153
    go_wp2_with fail
    refine H0.out.mono ?_
    rintro r0 w1 ⟨rfl, g1, g2⟩
    have bf0 := g1.ins.free
    have ba0 := g1.ins.cell (i := 1) rfl
    have H1 := hid (And.intro g1 g2)
    clear g1 g2
    go_wp2_with fail
    go_end0
    exact ⟨rfl, (H1.out.1).setA _, H1.out.2.trans (ToD.put _ _ _)⟩
  by_cases h126 : n = 126
  · subst h126
    rw [show okK 126 = false from rfl, say_false]
    go_enter Tryz.func153, Tryz.ntmps153
    go_wp2_with fail
    refine H0.out.mono ?_
    rintro r0 w1 ⟨rfl, g1, g2⟩
    have bf0 := g1.ins.free
    have ba0 := g1.ins.cell (i := 1) rfl
    have H1 := hid (And.intro g1 g2)
    clear g1 g2
    go_wp2_with fail
    go_end0
    exact ⟨rfl, (H1.out.1).setA _, H1.out.2.trans (ToD.put _ _ _)⟩
  · have e1 : ((n : Int) != 64) = true := by simp; omega
    have e2 : ((n : Int) != 127) = true := by simp; omega
    have e3 : ((n : Int) != 126) = true := by simp; omega
    rw [show okK n = true by unfold okK; simp [h64, h127, h126]]
    clear h64 h127 h126
    go_enter Tryz.func153, Tryz.ntmps153
    go_wp2_with fail
    refine H0.out.mono ?_
    rintro r0 w1 ⟨rfl, g1, g2⟩
    have bf0 := g1.ins.free
    have ba0 := g1.ins.cell (i := 1) rfl
    have H1 := hid (And.intro g1 g2)
    clear g1 g2
    go_wp2_with fail
    refine (dfail 6 ((H1.out.1).setA _)).mono ?_
    rintro r1 w2 ⟨rfl, g1, g2⟩
    have H2 := hid (And.intro g1 g2)
    clear g1 g2
    go_wp2_with fail
    go_end0
    exact ⟨rfl, H2.out.1, (H1.out.2.trans (ToD.put _ _ _)).trans H2.out.2⟩
end Go.Proofs.YtakfineljffoaaaGreatDoor
namespace Go.Proofs.YtakfineljffoaaaGreatDoor
open Go.RowKit

/-- the bytes of a number with its sign -/
def encS : Nat → Int → List UInt8
  | 0, n => [byteOf (n % 128)]
  | f + 1, n => if -64 ≤ n ∧ n < 64 then [byteOf (n % 128)] else byteOf (n % 128 + 128) :: encS f (n / 128)

theorem i64_and127' (n : Int) : bits .and .i64 n 127 = n % 128 := by
  have e : (127 : Int) = ((127 : Nat) : Int) := rfl
  simp only [bits, BitVec.toNat_and]
  have e2 : (BitVec.ofInt (IntKind.i64.bits) (127 : Int)).toNat = 127 := by decide
  rw [e2, show (127 : Nat) = 2 ^ 7 - 1 by decide, Nat.and_two_pow_sub_one_eq_mod, BitVec.toNat_ofInt]
  have h : (((n % ((2 ^ IntKind.i64.bits : Nat) : Int)).toNat % 2 ^ 7 : Nat) : Int) = n % 128 := by
    show (((n % 18446744073709551616).toNat % 128 : Nat) : Int) = n % 128
    omega
  rw [h, wrap_i64', wrap64_small (by omega) (by omega)]

theorem encS_last {f : Nat} {n : Int} (h : -64 ≤ n ∧ n < 64) : encS f n = [byteOf (n % 128)] := by
  cases f <;> simp [encS, h]
theorem encS_lt {f : Nat} {m : Int} (h : Hid (-(64 * 128 ^ (f + 1)) ≤ m ∧ m < 64 * 128 ^ (f + 1))) : Hid (-(64 * 128 ^ f) ≤ m / 128 ∧ m / 128 < 64 * 128 ^ f) := by
  have h := h.out
  rw [Int.pow_succ] at h
  show _ ∧ _
  omega
theorem encS_next {f : Nat} {m n : Int} {xs : List Int} (h : Hid ((xs.map fun n => UInt8.ofNat n.toNat) ++ encS (f + 1) m = encS 9 n)) (hm : ¬ (-64 ≤ m ∧ m < 64)) :
    Hid (((xs ++ [m % 128 + 128]).map fun n => UInt8.ofNat n.toNat) ++ encS f (m / 128) = encS 9 n) := by
  rw [← h.out, encS, if_neg hm]
  show _ = _
  simp only [List.map_append, List.map_cons, List.map_nil, List.append_assoc, List.cons_append, List.nil_append]
  congr 2
  rw [byteOf]
  congr 2
  omega

/-- how many bytes a number wants: from k on, at most f more -/
def kS : Nat → Nat → Int → Nat
  | 0, k, _ => k
  | f + 1, k, n => if n / 2 ^ (7 * k - 1) = 0 ∨ n / 2 ^ (7 * k - 1) = -1 then k else kS f (k + 1) n
theorem kS_le (f k : Nat) (n : Int) : k ≤ kS f k n ∧ kS f k n ≤ k + f := by
  induction f generalizing k with
  | zero => simp [kS]
  | succ f ih =>
    rw [kS]
    split
    · omega
    · have := ih (k + 1); omega
/-- one byte of a number with its sign: the last one has no mark -/
def byteS (n : Int) (k i : Nat) : UInt8 := byteOf (n / 2 ^ (7 * i) % 128 + if i + 1 < k then 128 else 0)

theorem byteS_mark {n : Int} {k j : Nat} (h : j + 1 < k) : byteS n k j = byteOf (wrap64 (bits .and .i64 (n / 2 ^ (7 * j)) 127 + 128)) := by
  rw [i64_and127', wrap64_small (by omega) (by omega), byteS, if_pos h]
theorem byteS_bare {n : Int} {k j : Nat} (h : ¬ j + 1 < k) : byteS n k j = byteOf (bits .and .i64 (n / 2 ^ (7 * j)) 127) := by
  rw [i64_and127', byteS, if_neg h, Int.add_zero]
theorem kS_stop {k : Nat} {n : Int} (h : Hid (kS (10 - k) k n = kS 9 1 n)) (hk : 10 ≤ k ∨ n / 2 ^ (7 * k - 1) = 0 ∨ n / 2 ^ (7 * k - 1) = -1) (hk10 : k ≤ 10) : kS 9 1 n = k := by
  rw [← h.out]
  by_cases hk' : k = 10
  · subst hk'; rfl
  · obtain ⟨q, hq⟩ : ∃ q, 10 - k = q + 1 := ⟨9 - k, by omega⟩
    rw [hq, kS, if_pos (by omega)]
theorem kS_go {k : Nat} {n : Int} (h : Hid (kS (10 - k) k n = kS 9 1 n)) (hk10 : k < 10) (h1 : n / 2 ^ (7 * k - 1) ≠ 0) (h2 : n / 2 ^ (7 * k - 1) ≠ -1) : Hid (kS (10 - (k + 1)) (k + 1) n = kS 9 1 n) := by
  rw [← h.out]
  obtain ⟨q, hq⟩ : ∃ q, 10 - k = q + 1 := ⟨9 - k, by omega⟩
  rw [hq, kS, if_neg (by omega), show 10 - (k + 1) = q by omega]
  exact rfl

end Go.Proofs.YtakfineljffoaaaGreatDoor
namespace Go.Proofs.YtakfineljffoaaaGreatDoor
open Go.RowKit

theorem eq_tail {α : Type} {xs ys : List α} (k : Nat) (hk : k < xs.length) (hk' : k < ys.length) :
    (xs.drop k = ys.drop k) ↔ (xs[k] = ys[k] ∧ xs.drop (k + 1) = ys.drop (k + 1)) := by
  rw [drop_cons xs k hk, drop_cons ys k hk', List.cons.injEq]
theorem eq_no {α : Type} [BEq α] [LawfulBEq α] {xs ys : List α} {k : Nat} {hk : k < xs.length} {hk' : k < ys.length} (h : Hid (xs = ys ↔ xs.drop k = ys.drop k)) (hx : (xs[k] != ys[k]) = true) : ¬ xs = ys := by
  rw [h.out, eq_tail k hk hk']
  intro e
  simp [e.1] at hx
theorem eq_on {α : Type} [BEq α] [LawfulBEq α] {xs ys : List α} {k : Nat} {hk : k < xs.length} {hk' : k < ys.length} (h : Hid (xs = ys ↔ xs.drop k = ys.drop k)) (hx : (xs[k] != ys[k]) = false) : Hid (xs = ys ↔ xs.drop (k + 1) = ys.drop (k + 1)) := by
  have hx' : xs[k] = ys[k] := by simpa using hx
  show _ ↔ _
  rw [h.out, eq_tail k hk hk']
  exact ⟨fun e => e.2, fun e => ⟨hx', e⟩⟩
theorem eq_end {α : Type} {xs ys : List α} {k : Nat} (h : Hid (xs = ys ↔ xs.drop k = ys.drop k)) (hl : xs.length = ys.length) (hk : ¬ k < xs.length) : xs = ys := by
  rw [h.out, List.drop_of_length_le (by omega), List.drop_of_length_le (by omega)]

set_option maxRecDepth 100000 in
set_option maxHeartbeats 400000 in
theorem eq_int (va vb : Value) (xs ys : List Int) (w : World) (ha : Ints w .i64 va xs) (hb : Ints w .i64 vb ys) :
    Calls Tryz.prog 28 #[va, vb] w fun e w' => e = .returned (.bool (decide (xs = ys))) ∧ w = w' := by
  by_cases hl : xs.length = ys.length
  · rcases ha.open with ⟨ao, cap, rfl, rfl, _⟩ | ⟨b, off, cap, rfl, h0, hcap, hm, hc⟩
    · obtain rfl : ys = [] := by cases ys <;> simp_all
      obtain ⟨ao', cap', rfl, _, _, _, _⟩ := hb
      clear hl ha
      go_enter Tryz.func28, Tryz.ntmps28
      go_wp2
      refine wp_loop_rounds 1 ?_; rw [rounds_succ]; go_wp2
      go_ret
      exact ⟨by simp, rfl⟩
    · rcases hb.open with ⟨ao', cap', rfl, rfl, _⟩ | ⟨b', off', cap', rfl, h0', hcap', hm', hc'⟩
      · simp at hl; simp [hl] at h0
      clear ha hb
      have H := hid hl
      have hne : ((xs.length : Int) != ys.length) = false := by simp [hl]
      clear hl
      go_enter Tryz.func28, Tryz.ntmps28
      go_wp2
      go_loop [14] (fun i => ∃ k : Nat, k ≤ xs.length ∧ i = .int .i64 k ∧ Hid (xs = ys ↔ xs.drop k = ys.drop k)) (fun i => xs.length - (intOf i).toNat)
      case atStart => exact ⟨0, Nat.zero_le _, rfl, by simp [Hid]⟩
      case round =>
        obtain ⟨k, hk, rfl, hq⟩ := hrel
        by_cases hlt : k < xs.length
        · have hlt' : k < ys.length := by have := H.out; omega
          go_wp2
          · go_ret
            exact ⟨retB (by simp [eq_no hq ‹_›]), rfl⟩
          · go_round
            case rel => exact ⟨k + 1, by omega, by go_num, eq_on hq ‹_›⟩
            case measure => simp [intOf]; omega
        · go_wp2
          go_ret
          exact ⟨retB (by simp [eq_end hq H.out hlt]), rfl⟩
  · have hne : ((xs.length : Int) != ys.length) = true := by simp; omega
    have hxy : xs ≠ ys := fun e => hl (by rw [e])
    obtain ⟨ao, cap, rfl, _, _, _, _⟩ := ha
    obtain ⟨ao', cap', rfl, _, _, _, _⟩ := hb
    go_enter Tryz.func28, Tryz.ntmps28
    go_wp2
    go_ret
    exact ⟨retB (by simp [hxy]), rfl⟩
end Go.Proofs.YtakfineljffoaaaGreatDoor
namespace Go.Proofs.YtakfineljffoaaaGreatDoor
open Go.RowKit Go.Lib
attribute [local go_sem ↓] Go.wp_at_zero Go.wp_at_succ

set_option maxRecDepth 100000 in
set_option maxHeartbeats 4000000 in
theorem rchk_0 (op : Nat) (hop : op < 256) (hk : tB op = 0) (A B : Int) (xs : List Int) (v : Value) (w : World) (hM : MaxL w) :
    Calls Tryz.prog 140 #[insV op A B v] w fun e w' => e = .returned (.int .i64 (chkI 0 A B xs)) ∧ Below w.heap.size w w' := by
  have hA0 : Below w.heap.size w (w.alloc (.cells #[.int .u8 op, .int .i64 A, .int .i64 B, v] 97)) := (Below.refl _ _).alloc (Nat.le_refl _) _
  have HBS := hid (rbeside_any op hop (w.alloc (.cells #[.int .u8 op, .int .i64 A, .int .i64 B, v] 97)) (hM.below hA0))
  rw [hk, show S (sdL 0) = ⟨#[63]⟩ from rfl] at HBS
  have HA := hid hA0
  clear hA0 hk hM
  go_enter Tryz.func140, Tryz.ntmps140
  go_wp2_with (go_at_call 155; refine HBS.out.mono ?_; rintro r w1 ⟨rfl, hb1⟩; have B1 := hid (HA.out.trans (hb1.mono HA.out.size)); clear hb1)
  go_ret
  exact ⟨rfl, B1.out⟩
theorem rchk_any (op : Nat) (hop : op < 256) (A B : Int) (xs : List Int) (v : Value) (w : World) (hM : MaxL w) (hx : Ints w .i64 v xs) :
    Calls Tryz.prog 140 #[insV op A B v] w fun e w' => e = .returned (.int .i64 (chkI (tB op) A B xs)) ∧ Below w.heap.size w w' := by
  have hle := tB_le ⟨op, hop⟩
  simp only at hle
  by_cases h0 : tB op = 0
  · rw [h0]; exact rchk_0 op hop h0 A B xs v w hM
  exact rchk_x op hop hle h0 A B xs v w hM hx
end Go.Proofs.YtakfineljffoaaaGreatDoor
