/-
  MEMORIES: both sides' calls in one form, whatever the arguments are; both memories side by side. Condition: the variable of the library that strings.Contains reads holds some number.
-/
import Derived.Test.YtdiiefhklcchmaaMrN
import Derived.Test.YtdiiefhklcchmaaMeH
import Derived.Test.YtdiiefhklcchmaaLawK
namespace Go.Proofs.Ytdiiefhklcchmaa
open Go.RowKit Go.Lib

/-- a memory's state is in its bounds -/
structure OkM (p : Nat) (most : Int) (m : List Int) : Prop where
  p : (p : Int) ≤ most
  most : most ≤ 8
  byte : ∀ x ∈ m, 0 ≤ x ∧ x ≤ 255
theorem OkM.p8 {p : Nat} {most : Int} {m : List Int} (h : OkM p most m) : p ≤ 8 := by have := h.p; have := h.most; omega
theorem OkM.m0 {p : Nat} {most : Int} {m : List Int} (h : OkM p most m) : 0 ≤ most ∧ most ≤ 8 := by have := h.p; have := h.most; omega
def PPost (w : World) (base B : Nat) (v : Value) (p : Nat) (most : Int) (m : List Int) (w' : World) : Prop := ∃ v', MP w' base B v' p most m ∧ Touch (footM1 B v) w w' ∧ (∀ k, v'.ownBlock = some k → v.ownBlock = some k ∨ w.heap.size ≤ k)
def RPost (w : World) (base B g : Nat) (most : Int) (m : List Int) (w' : World) : Prop := ∃ g' cap', MR w' base B g' cap' most m ∧ Touch (footR B g) w w' ∧ (g' = g ∨ w.heap.size ≤ g')
theorem PPost.of_below {w w' : World} {base B p : Nat} {v : Value} {most : Int} {m : List Int} (h : MP w base B v p most m) (hb : Below w.heap.size w w') : PPost w base B v p most m w' := ⟨v, h.below hb, Touch.of_below hb, fun _ h => .inl h⟩
theorem RPost.of_below {w w' : World} {base B g cap : Nat} {most : Int} {m : List Int} (h : MR w base B g cap most m) (hb : Below w.heap.size w w') : RPost w base B g most m w' := ⟨g, cap, h.below hb, Touch.of_below hb, .inl rfl⟩

theorem ldE_ok {bad : Bool} {wd : Nat} {bs off : Int} {p : Nat} (h : ldE bad wd bs off p = 0) : 1 ≤ wd ∧ bad = false ∧ (0 ≤ off ∧ off ≤ 4294967295) ∧ bs % 4294967296 + off ≤ (p : Int) * 256 - wd := by
  unfold ldE at h
  split at h
  · simp at h
  rename_i g
  split at h
  · simp at h
  rename_i g2
  split at h
  · rename_i g3
    refine ⟨?_, ?_, by omega, g3⟩
    · rcases Nat.eq_zero_or_pos wd with e | e
      · exact absurd (.inl e) g
      · exact e
    · cases bad
      · rfl
      · exact absurd (.inr rfl) g
  · simp at h
def atM (bs off : Int) : Nat := (bs % 4294967296 + off).toNat
def ldV (m : List Int) (op : Nat) (bs off : Int) : Int := if isSg op = true then (leB m (atM bs off) (tW op)).bmod (2 ^ (8 * tW op)) else (leB m (atM bs off) (tW op)).bmod (2 ^ 64)
def ldR (m : List Int) (op : Nat) (bs off : Int) (p : Nat) : Int := if ldE (decide (54 ≤ op)) (tW op) bs off p = 0 then ldV m op bs off else 0
def stR (m : List Int) (op : Nat) (bs off x : Int) (p : Nat) : List Int := if ldE (decide (op < 54)) (tW op) bs off p = 0 then stB (tW op) m (atM bs off) x else m
theorem mload_u (w : World) (base B p : Nat) (v : Value) (most : Int) (m : List Int) (op : Nat) (bs off : Int) (hop : op < 256) (hk : OkM p most m) (h : MP w base B v p most m) :
    Calls Try.prog 13 #[.pointer (some ⟨B, 0, none⟩), .int .u8 op, .int .i64 bs, .int .i64 off] w fun e w' => e = .returned (.tuple #[.int .i64 (ldR m op bs off p), .int .i64 (ldE (decide (54 ≤ op)) (tW op) bs off p)]) ∧ PPost w base B v p most m w' := by
  by_cases he : ldE (decide (54 ≤ op)) (tW op) bs off p = 0
  · obtain ⟨h1, h2, h3, h4⟩ := ldE_ok he
    have h54 := of_decide_eq_false h2
    have h8 : tW op ≤ 8 := by have := tW_four op hop; omega
    unfold ldR
    rw [if_pos he, he]
    have ha : bs % 4294967296 + off = (atM bs off : Nat) := by unfold atM; omega
    exact (mload_good w base B p v most m op bs off (atM bs off) (tW op) (by omega) rfl ⟨h1, h8⟩ hk.p8 h3 ha (by rw [← ha]; exact h4) hk.byte h).mono (fun e w' g => ⟨g.1, .of_below h g.2⟩)
  · unfold ldR
    rw [if_neg he]
    exact (mload_bad w base B p v most m op bs off hop hk.p8 he h).mono (fun e w' g => ⟨g.1, .of_below h g.2⟩)
theorem rload_u (w : World) (base B g cap p : Nat) (most : Int) (m : List Int) (op : Nat) (bs off : Int) (hop : op < 256) (hk : OkM p most m) (hl : m.length = p * 256) (hM : MaxL w) (h : MR w base B g cap most m) :
    Calls Try.prog 14 #[.pointer (some ⟨B, 0, none⟩), .int .u8 op, .int .i64 bs, .int .i64 off] w fun e w' => e = .returned (.tuple #[.int .i64 (ldR m op bs off p), .int .i64 (ldE (decide (54 ≤ op)) (tW op) bs off p)]) ∧ RPost w base B g most m w' := by
  have hp8 := hk.p8
  by_cases he : ldE (decide (54 ≤ op)) (tW op) bs off p = 0
  · obtain ⟨h1, h2, h3, h4⟩ := ldE_ok he
    have h54 := of_decide_eq_false h2
    have h8 : tW op ≤ 8 := by have := tW_four op hop; omega
    unfold ldR
    rw [if_pos he, he]
    have ha : bs % 4294967296 + off = (atM bs off : Nat) := by unfold atM; omega
    exact (rload_good w base B g cap most m op bs off (atM bs off) (tW op) (by omega) rfl ⟨h1, h8⟩ (by omega) h3 ha (by omega) hk.byte hM h).mono (fun e w' g => ⟨g.1, .of_below h g.2⟩)
  · unfold ldR
    rw [if_neg he]
    exact (rload_bad w base B g cap p most m op bs off hop hl hp8 he hM h).mono (fun e w' g => ⟨g.1, .of_below h g.2⟩)
theorem mstore_u (w : World) (base B p : Nat) (v : Value) (most : Int) (m : List Int) (op : Nat) (bs off x : Int) (hop : op < 256) (hx : -9223372036854775808 ≤ x ∧ x ≤ 9223372036854775807) (hk : OkM p most m) (h : MP w base B v p most m) :
    Calls Try.prog 15 #[.pointer (some ⟨B, 0, none⟩), .int .u8 op, .int .i64 bs, .int .i64 off, .int .i64 x] w fun e w' => e = .returned (.int .i64 (ldE (decide (op < 54)) (tW op) bs off p)) ∧ PPost w base B v p most (stR m op bs off x p) w' := by
  by_cases he : ldE (decide (op < 54)) (tW op) bs off p = 0
  · obtain ⟨h1, h2, h3, h4⟩ := ldE_ok he
    have h54 := of_decide_eq_false h2
    have h8 : tW op ≤ 8 := by have := tW_four op hop; omega
    unfold stR
    rw [if_pos he, he]
    have ha : bs % 4294967296 + off = (atM bs off : Nat) := by unfold atM; omega
    exact (mstore_good w base B p v most m op bs off x (atM bs off) (tW op) ⟨by omega, hop⟩ rfl ⟨h1, h8⟩ hk.p8 h3 hx ha (by rw [← ha]; exact h4) h).mono (fun e w' g => ⟨g.1, v, g.2.1, g.2.2, fun _ e => .inl e⟩)
  · unfold stR
    rw [if_neg he]
    exact (mstore_bad w base B p v most m op bs off x hop hk.p8 he h).mono (fun e w' g => ⟨g.1, .of_below h g.2⟩)
theorem rstore_u (w : World) (base B g cap p : Nat) (most : Int) (m : List Int) (op : Nat) (bs off x : Int) (hop : op < 256) (hx : -9223372036854775808 ≤ x ∧ x ≤ 9223372036854775807) (hk : OkM p most m) (hl : m.length = p * 256) (hM : MaxL w) (h : MR w base B g cap most m) :
    Calls Try.prog 16 #[.pointer (some ⟨B, 0, none⟩), .int .u8 op, .int .i64 bs, .int .i64 off, .int .i64 x] w fun e w' => e = .returned (.int .i64 (ldE (decide (op < 54)) (tW op) bs off p)) ∧ RPost w base B g most (stR m op bs off x p) w' := by
  have hp8 := hk.p8
  by_cases he : ldE (decide (op < 54)) (tW op) bs off p = 0
  · obtain ⟨h1, h2, h3, h4⟩ := ldE_ok he
    have h54 := of_decide_eq_false h2
    have h8 : tW op ≤ 8 := by have := tW_four op hop; omega
    unfold stR
    rw [if_pos he, he]
    have ha : bs % 4294967296 + off = (atM bs off : Nat) := by unfold atM; omega
    exact (rstore_good w base B g cap most m op bs off x (atM bs off) (tW op) ⟨by omega, hop⟩ rfl ⟨h1, h8⟩ (by omega) h3 hx ha (by omega) hM h).mono (fun e w' q => ⟨q.1, g, cap, q.2.1, q.2.2, .inl rfl⟩)
  · unfold stR
    rw [if_neg he]
    exact (rstore_bad w base B g cap p most m op bs off x hop hl hp8 he hM h).mono (fun e w' g => ⟨g.1, .of_below h g.2⟩)
theorem stB_byte (wd : Nat) : ∀ (m : List Int) (a : Nat) (x : Int), (∀ y ∈ m, 0 ≤ y ∧ y ≤ 255) → ∀ y ∈ stB wd m a x, 0 ≤ y ∧ y ≤ 255 := by
  induction wd with
  | zero => intro m a x h; exact h
  | succ wd ih =>
    intro m a x h
    rw [stB]
    refine ih _ _ _ (fun y hy => ?_)
    rcases List.mem_or_eq_of_mem_set hy with e | e
    · exact h y e
    · subst e; omega
theorem OkM.store {p : Nat} {most : Int} {m : List Int} (h : OkM p most m) (op : Nat) (bs off x : Int) : OkM p most (stR m op bs off x p) ∧ (stR m op bs off x p).length = m.length := by
  unfold stR
  split
  · exact ⟨⟨h.p, h.most, stB_byte _ _ _ _ h.byte⟩, stB_len _ _ _ _⟩
  · exact ⟨h, rfl⟩

/-- Grow -/
def grN (n : Int) : Nat := (n % 4294967296).toNat
def grR (p : Nat) (most n : Int) : Int := if (grN n : Int) ≤ most - p then p else -1
def grP (p : Nat) (most n : Int) : Nat := if (grN n : Int) ≤ most - p then p + grN n else p
def grM (m : List Int) (p : Nat) (most n : Int) : List Int := if (grN n : Int) ≤ most - p then m ++ List.replicate (grN n * 256) 0 else m
theorem grN_eq (n : Int) : n % 4294967296 = (grN n : Int) := by unfold grN; omega
theorem mgrow_u (w : World) (base B p : Nat) (v : Value) (most : Int) (m : List Int) (n : Int) (hk : OkM p most m) (h : MP w base B v p most m) :
    Calls Try.prog 17 #[.pointer (some ⟨B, 0, none⟩), .int .i64 n] w fun e w' => e = .returned (.int .i64 (grR p most n)) ∧ PPost w base B v (grP p most n) most (grM m p most n) w' := by
  have hn := grN_eq n
  unfold grR grP grM
  by_cases he : (grN n : Int) ≤ most - p
  · simp only [he, if_true]
    exact mgrow_good w base B p v most m n (grN n) hn hk.m0 hk.p he h
  · simp only [he, if_false]
    exact (mgrow_bad w base B p v most m n hk.p8 hk.m0 (by rw [hn]; omega) h).mono (fun e w' g => ⟨g.1, .of_below h g.2⟩)
theorem rgrow_u (w : World) (base B g cap p : Nat) (most : Int) (m : List Int) (n : Int) (hk : OkM p most m) (hl : m.length = p * 256) (h : MR w base B g cap most m) :
    Calls Try.prog 18 #[.pointer (some ⟨B, 0, none⟩), .int .i64 n] w fun e w' => e = .returned (.int .i64 (grR p most n)) ∧ RPost w base B g most (grM m p most n) w' := by
  have hn := grN_eq n
  refine (rgrow_any w base B g cap p most m n (grN n) hl hk.p hk.m0 hn h).mono ?_
  rintro e w' ⟨g1, g2⟩
  unfold grR grM
  by_cases he : (grN n : Int) ≤ most - p
  · simp only [he, if_true]
    exact g1 he
  · simp only [he, if_false]
    obtain ⟨g3, g4⟩ := g2 (by omega)
    exact ⟨g3, .of_below h g4⟩
theorem OkM.grow {p : Nat} {most : Int} {m : List Int} (h : OkM p most m) (n : Int) (hl : m.length = p * 256) : OkM (grP p most n) most (grM m p most n) ∧ (grM m p most n).length = grP p most n * 256 := by
  have hp := h.p
  unfold grP grM
  by_cases he : (grN n : Int) ≤ most - p
  · simp only [he, if_true]
    refine ⟨⟨by omega, h.most, fun x hx => ?_⟩, by rw [List.length_append, List.length_replicate]; omega⟩
    rcases List.mem_append.1 hx with e | e
    · exact h.byte x e
    · rw [List.eq_of_mem_replicate e]; omega
  · simp only [he, if_false]
    exact ⟨h, hl⟩

/-- Bytes -/
def okB (p : Nat) (a n : Int) : Bool := decide (0 ≤ a ∧ 0 ≤ n ∧ a + n ≤ (p : Int) * 256)
def byS (xs : List Int) : ByteArray := S (xs.map fun n => UInt8.ofNat n.toNat)
def byR (m : List Int) (p : Nat) (a n : Int) : ByteArray := if okB p a n = true then byS ((m.drop a.toNat).take n.toNat) else ⟨#[]⟩
def byE (p : Nat) (a n : Int) : Int := if okB p a n = true then 0 else 23
theorem byS_of {s : ByteArray} {xs : List Int} (h : nums s = xs) : s = byS xs := by
  subst h
  unfold byS nums
  rw [List.map_map, show ((fun n : Int => UInt8.ofNat n.toNat) ∘ fun b : UInt8 => (b.toNat : Int)) = id from funext fun b => by simp, List.map_id]
  exact (S_of s).symm
theorem mbytes_u (w : World) (base B p : Nat) (v : Value) (most : Int) (m : List Int) (a n : Int) (hk : OkM p most m) (h : MP w base B v p most m) :
    Calls Try.prog 19 #[.pointer (some ⟨B, 0, none⟩), .int .i64 a, .int .i64 n] w fun e w' => e = .returned (.tuple #[.string (byR m p a n), .int .i64 (byE p a n)]) ∧ PPost w base B v p most m w' := by
  unfold byR byE
  by_cases he : okB p a n = true
  · simp only [he, if_true]
    obtain ⟨h1, h2, h3⟩ := of_decide_eq_true he
    obtain ⟨a', rfl⟩ := Int.eq_ofNat_of_zero_le h1
    obtain ⟨n', rfl⟩ := Int.eq_ofNat_of_zero_le h2
    refine (mbytes_good w base B p v most m a' n' hk.p8 (by omega) hk.byte h).mono ?_
    rintro e w' ⟨⟨s, rfl, hs⟩, hb⟩
    rw [byS_of hs]
    exact ⟨rfl, .of_below h hb⟩
  · simp only [he]
    have h1 : ¬ (0 ≤ a ∧ 0 ≤ n ∧ a + n ≤ (p : Int) * 256) := fun g => he (decide_eq_true g)
    refine (mbytes_bad w base B p v most m a n hk.p8 (by omega) h).mono ?_
    rintro e w' ⟨rfl, rfl⟩
    exact ⟨rfl, .of_below h (Below.refl _ _)⟩
theorem rbytes_u (w : World) (base B g cap p : Nat) (most : Int) (m : List Int) (a n : Int) (hk : OkM p most m) (hl : m.length = p * 256) (h : MR w base B g cap most m) :
    Calls Try.prog 20 #[.pointer (some ⟨B, 0, none⟩), .int .i64 a, .int .i64 n] w fun e w' => e = .returned (.tuple #[.string (byR m p a n), .int .i64 (byE p a n)]) ∧ RPost w base B g most m w' := by
  have hp8 := hk.p8
  unfold byR byE
  by_cases he : okB p a n = true
  · simp only [he, if_true]
    obtain ⟨h1, h2, h3⟩ := of_decide_eq_true he
    obtain ⟨a', rfl⟩ := Int.eq_ofNat_of_zero_le h1
    obtain ⟨n', rfl⟩ := Int.eq_ofNat_of_zero_le h2
    refine (rbytes_good w base B g cap most m a' n' (by omega) (by omega) hk.byte h).mono ?_
    rintro e w' ⟨⟨s, rfl, hs⟩, rfl⟩
    rw [byS_of hs]
    exact ⟨rfl, .of_below h (Below.refl _ _)⟩
  · simp only [he]
    have h1 : ¬ (0 ≤ a ∧ 0 ≤ n ∧ a + n ≤ (p : Int) * 256) := fun g => he (decide_eq_true g)
    refine (rbytes_bad w base B g cap most m a n (by omega) (by omega) h).mono ?_
    rintro e w' ⟨rfl, rfl⟩
    exact ⟨rfl, .of_below h (Below.refl _ _)⟩

/-- Put -/
def puM (m : List Int) (p : Nat) (a : Int) (s : ByteArray) : List Int := if okB p a s.size = true then putL m a.toNat s.data.toList else m
theorem mput_u (w : World) (base B p : Nat) (v : Value) (most : Int) (m : List Int) (a : Int) (s : ByteArray) (hk : OkM p most m) (h : MP w base B v p most m) :
    Calls Try.prog 21 #[.pointer (some ⟨B, 0, none⟩), .int .i64 a, .string s] w fun e w' => e = .returned (.int .i64 (byE p a s.size)) ∧ PPost w base B v p most (puM m p a s) w' := by
  unfold byE puM
  by_cases he : okB p a s.size = true
  · simp only [he, if_true]
    obtain ⟨h1, h2, h3⟩ := of_decide_eq_true he
    obtain ⟨a', rfl⟩ := Int.eq_ofNat_of_zero_le h1
    have := mput_good w base B p v most m a' s.data.toList hk.p8 (by have : s.data.toList.length = s.size := rfl; omega) h
    rw [S_of] at this
    exact this.mono (fun e w' g => ⟨g.1, v, g.2.1, g.2.2, fun _ e => .inl e⟩)
  · simp only [he]
    have h1 : ¬ (0 ≤ a ∧ 0 ≤ (s.size : Int) ∧ a + s.size ≤ (p : Int) * 256) := fun g => he (decide_eq_true g)
    refine (mput_bad w base B p v most m a s hk.p8 (by omega) h).mono ?_
    rintro e w' ⟨rfl, rfl⟩
    exact ⟨rfl, .of_below h (Below.refl _ _)⟩
theorem rput_u (w : World) (base B g cap p : Nat) (most : Int) (m : List Int) (a : Int) (s : ByteArray) (hk : OkM p most m) (hl : m.length = p * 256) (h : MR w base B g cap most m) :
    Calls Try.prog 22 #[.pointer (some ⟨B, 0, none⟩), .int .i64 a, .string s] w fun e w' => e = .returned (.int .i64 (byE p a s.size)) ∧ RPost w base B g most (puM m p a s) w' := by
  have hp8 := hk.p8
  unfold byE puM
  by_cases he : okB p a s.size = true
  · simp only [he, if_true]
    obtain ⟨h1, h2, h3⟩ := of_decide_eq_true he
    obtain ⟨a', rfl⟩ := Int.eq_ofNat_of_zero_le h1
    have := rput_good w base B g cap most m a' s.data.toList (by omega) (by have : s.data.toList.length = s.size := rfl; omega) hk.byte h
    rw [S_of] at this
    exact this.mono (fun e w' q => ⟨q.1, g, cap, q.2.1, q.2.2, .inl rfl⟩)
  · simp only [he]
    have h1 : ¬ (0 ≤ a ∧ 0 ≤ (s.size : Int) ∧ a + s.size ≤ (p : Int) * 256) := fun g => he (decide_eq_true g)
    refine (rput_bad w base B g cap most m a s (by omega) (by omega) h).mono ?_
    rintro e w' ⟨rfl, rfl⟩
    exact ⟨rfl, .of_below h (Below.refl _ _)⟩
theorem OkM.put {p : Nat} {most : Int} {m : List Int} (h : OkM p most m) (a : Int) (s : ByteArray) : OkM p most (puM m p a s) ∧ (puM m p a s).length = m.length := by
  unfold puM
  split
  · exact ⟨⟨h.p, h.most, putL_byte _ _ _ h.byte⟩, putL_len _ _ _⟩
  · exact ⟨h, rfl⟩
theorem mall_u (w : World) (base B p : Nat) (v : Value) (most : Int) (m : List Int) (hk : OkM p most m) (h : MP w base B v p most m) :
    Calls Try.prog 9 #[.pointer (some ⟨B, 0, none⟩)] w fun e w' => e = .returned (.string (byS m)) ∧ PPost w base B v p most m w' := by
  refine (mall_any w base B p v most m hk.p8 hk.byte h).mono ?_
  rintro e w' ⟨⟨s, rfl, hs⟩, hb⟩
  rw [byS_of hs]
  exact ⟨rfl, .of_below h hb⟩

/-- both memories -/
abbrev DuoM (w : World) (base B1 B2 : Nat) (v : Value) (g cap p : Nat) (most : Int) (m m2 : List Int) : Prop :=
  Duo base (footM1 B1 v) (footR B2 g) (fun w => MP w base B1 v p most m) (fun w => MR w base B2 g cap most m2) w
theorem m_left {w w' : World} {base B1 B2 : Nat} {v : Value} {g cap p p' : Nat} {most : Int} {m m' m2 : List Int} (h : DuoM w base B1 B2 v g cap p most m m2) (hp : PPost w base B1 v p' most m' w') : ∃ v', DuoM w' base B1 B2 v' g cap p' most m' m2 ∧ Touch (footM1 B1 v) w w' := by
  obtain ⟨v', hm, ht, hf⟩ := hp
  refine ⟨v', h.left hm.part ht ?_, ht⟩
  rintro k (e | e)
  · exact .inl (.inl e)
  · exact (hf k e).imp (fun x => .inr x) id
theorem m_right {w w' : World} {base B1 B2 : Nat} {v : Value} {g cap p : Nat} {most : Int} {m m' m2 : List Int} (h : DuoM w base B1 B2 v g cap p most m m2) (hp : RPost w base B2 g most m' w') : ∃ g' cap', DuoM w' base B1 B2 v g' cap' p most m m' ∧ Touch (footR B2 g) w w' := by
  obtain ⟨g', cap', hm, ht, hf⟩ := hp
  refine ⟨g', cap', h.right hm.part ht ?_, ht⟩
  rintro k (e | e)
  · exact .inl (.inl e)
  · subst e
    exact hf.imp (fun x => .inr x) id
structure InvM (w : World) (base B1 B2 : Nat) : Prop where
  ex : ∃ v g cap p most m, DuoM w base B1 B2 v g cap p most m m ∧ OkM p most m
theorem InvM.below {w w' : World} {base B1 B2 : Nat} (h : InvM w base B1 B2) (hb : Below w.heap.size w w') : InvM w' base B1 B2 := by
  obtain ⟨v, g, cap, p, most, m, hD, hk⟩ := h.ex
  exact ⟨⟨v, g, cap, p, most, m, hD.below hb, hk⟩⟩
end Go.Proofs.Ytdiiefhklcchmaa
