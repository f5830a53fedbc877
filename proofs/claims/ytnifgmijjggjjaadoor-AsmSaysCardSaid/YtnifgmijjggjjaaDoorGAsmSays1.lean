/-
  LINES, plain: what strings.Split and strings.Cut make of joined words. No program, no condition.
-/
import Derived.Test.YtnifgmijjggjjaaDoorBytes
import Derived.Test.YtnifgmijjggjjaaDoorStep
import Derived.Test.YtnifgmijjggjjaaDoorLebU
import Derived.Test.YtnifgmijjggjjaaDoorInE
import Derived.Lib.Split
import Derived.Lib.Join
namespace Go.Proofs.YtnifgmijjggjjaaDoor
open Go.RowKit Go.Lib

/-- words put together, sep between them -/
def jn (sep : List UInt8) : List (List UInt8) → List UInt8
  | [] => []
  | [x] => x
  | x :: y :: r => x ++ (sep ++ jn sep (y :: r))
theorem index_at (c : UInt8) (t x r : List UInt8) (h : c ∉ x) : Lib.index (x ++ (c :: t ++ r)) (c :: t) = (x.length : Int) := by
  refine index_first (by simp) ?_ ?_
  · unfold occAt
    rw [List.drop_left' rfl]
    simp
  · intro j hj
    unfold occAt
    rw [List.drop_append_of_le_length (by omega)]
    cases hd : x.drop j with
    | nil => have := congrArg List.length hd; simp at this; omega
    | cons b l =>
      have hb : b ∈ x := List.mem_of_mem_drop (hd ▸ List.mem_cons_self)
      have hne : (c == b) = false := by rw [beq_eq_false_iff_ne]; rintro rfl; exact h hb
      simp [List.isPrefixOf, hne]
theorem index_un (c : UInt8) (t x : List UInt8) (h : c ∉ x) : Lib.index x (c :: t) = -1 := by
  refine index_none (fun j _ => ?_)
  unfold occAt
  cases hd : x.drop j with
  | nil => rfl
  | cons b l =>
    have hb : b ∈ x := List.mem_of_mem_drop (hd ▸ List.mem_cons_self)
    have hne : (c == b) = false := by rw [beq_eq_false_iff_ne]; rintro rfl; exact h hb
    simp [List.isPrefixOf, hne]
theorem drop_at (x s r : List UInt8) : (x ++ (s ++ r)).drop (x.length + s.length) = r := by
  rw [← List.append_assoc, ← List.length_append, List.drop_left]
theorem count_jn (c : UInt8) (t : List UInt8) : ∀ (ps : List (List UInt8)) (f : Nat), ps ≠ [] → (∀ p ∈ ps, c ∉ p) → ps.length ≤ f → countFrom (c :: t) f (jn (c :: t) ps) = ps.length - 1
  | [], _, h, _, _ => absurd rfl h
  | [x], f, _, h, hf => by
    cases f with
    | zero => simp at hf
    | succ f =>
      unfold countFrom
      rw [show jn (c :: t) [x] = x from rfl, index_un c t x (h x List.mem_cons_self)]
      rfl
  | x :: y :: r, f, _, h, hf => by
    cases f with
    | zero => simp at hf
    | succ f =>
      unfold countFrom
      rw [show jn (c :: t) (x :: y :: r) = x ++ (c :: t ++ jn (c :: t) (y :: r)) from rfl, index_at c t x _ (h x List.mem_cons_self), if_neg (by simp), Int.toNat_natCast, drop_at, count_jn c t (y :: r) f (by simp) (fun p hp => h p (List.mem_cons_of_mem _ hp)) (by simpa using hf)]
      simp
      omega
theorem splitK_jn (c : UInt8) (t : List UInt8) : ∀ (ps : List (List UInt8)), ps ≠ [] → (∀ p ∈ ps, c ∉ p) → splitK (c :: t) 0 (ps.length - 1) (jn (c :: t) ps) = ps
  | [], h, _ => absurd rfl h
  | [x], _, _ => rfl
  | x :: y :: r, _, h => by
    show splitK (c :: t) 0 (r.length + 1) (x ++ (c :: t ++ jn (c :: t) (y :: r))) = _
    unfold splitK
    rw [index_at c t x _ (h x List.mem_cons_self), if_neg (by simp), Int.toNat_natCast, drop_at, Nat.add_zero, List.take_left' rfl]
    have := splitK_jn c t (y :: r) (by simp) (fun p hp => h p (List.mem_cons_of_mem _ hp))
    rw [List.length_cons, Nat.add_sub_cancel] at this
    rw [this]
theorem jn_len (c : UInt8) (t : List UInt8) : ∀ (ps : List (List UInt8)), ps.length ≤ (jn (c :: t) ps).length + 1
  | [] => by simp
  | [x] => by simp
  | x :: y :: r => by
    have := jn_len c t (y :: r)
    show (x :: y :: r).length ≤ (x ++ (c :: t ++ jn (c :: t) (y :: r))).length + 1
    simp only [List.length_cons, List.length_append] at this ⊢
    omega
/-- strings.Split of joined words gives the words -/
theorem split_jn (c : UInt8) (t : List UInt8) (ps : List (List UInt8)) (h0 : ps ≠ []) (h : ps.all (fun p => !p.contains c) = true) (s : List UInt8) (hs : s = jn (c :: t) ps) :
    countB (S s) (S (c :: t)) + 1 = ps.length ∧ splitB (S (c :: t)) 0 (countB (S s) (S (c :: t))) (S s) = ps.map S := by
  have h' : ∀ p ∈ ps, c ∉ p := by
    intro p hp
    have := List.all_eq_true.1 h p hp
    simpa using this
  have hl : 0 < ps.length := List.length_pos_iff.2 h0
  have hc : countB (S s) (S (c :: t)) = ps.length - 1 := by
    show count (S s).data.toList (S (c :: t)).data.toList = _
    rw [S_data, S_data, hs]
    unfold count
    exact count_jn c t ps _ h0 h' (jn_len c t ps)
  refine ⟨by omega, ?_⟩
  have hd := splitB_data (S (c :: t)) 0 (countB (S s) (S (c :: t))) (S s)
  rw [hc] at hd ⊢
  rw [S_data, S_data, hs, splitK_jn c t ps h0 h'] at hd
  refine Eq.trans ?_ (congrArg (List.map S) hd)
  rw [List.map_map, hs]
  generalize splitB _ _ _ _ = l
  induction l with
  | nil => rfl
  | cons b l ih => rw [List.map_cons, ← ih, Function.comp_apply, S_of]
/-- the words behind the first, each with a blank ahead -/
theorem join_blank (x : List UInt8) (r : List (List UInt8)) : Lib.join (x :: r) [32] = x ++ (r.map (fun w => 32 :: w)).flatten := by
  rw [Lib.join_cons]
  rfl
end Go.Proofs.YtnifgmijjggjjaaDoor
namespace Go.Proofs.YtnifgmijjggjjaaDoor
open Go.RowKit Go.Lib
attribute [local go_sem ↓] Go.wp_at_zero Go.wp_at_succ

/-- what stands beside an instruction, written -/
def wrB (k : Nat) (A B : Int) (xs : List Int) : List UInt8 := match k with
  | 2 => [byteOf A]
  | 3 => encU 9 A.toNat
  | 4 => encU 9 xs.length ++ (xs.flatMap (fun n => encU 9 n.toNat) ++ encU 9 A.toNat)
  | 5 => encU 9 A.toNat ++ [0]
  | 6 => encU 9 A.toNat ++ encU 9 B.toNat
  | 7 => [0]
  | 8 => encS 9 A
  | 9 => encS 9 A
  | _ => []
/-- an instruction, written -/
def wrI (k op : Nat) (A B : Int) (xs : List Int) : List UInt8 := byteOf op :: wrB k A B xs
theorem chk_ok {k : Nat} {A B : Int} {xs : List Int} (h : chkI k A B xs = 0) : k ≠ 0 ∧ ¬ 16 < xs.length ∧ okA k A = true ∧ okB k B = true ∧ okT k xs = true := by
  unfold chkI at h
  by_cases h0 : k = 0
  · rw [if_pos h0] at h; omega
  rw [if_neg h0] at h
  by_cases h1 : 16 < xs.length
  · rw [if_pos h1] at h; omega
  rw [if_neg h1] at h
  by_cases h2 : (okA k A && okB k B && okT k xs) = true
  · simp only [Bool.and_eq_true] at h2
    exact ⟨h0, h1, h2.1.1, h2.1.2, h2.2⟩
  · rw [if_neg h2] at h; omega
theorem isIx_bd {n : Int} (h : isIx n = true) : 0 ≤ n ∧ n ≤ 4294967295 := of_decide_eq_true h
theorem conv_one (x : Int) (w : World) : (convert 40 9 (.slice (some ⟨w.heap.size, 0, none⟩) 1 1)).run Tryd.prog (w.alloc (.cells #[.int .u8 x] 5)) = .ok (.string (S [UInt8.ofNat x.toNat])) (w.alloc (.cells #[.int .u8 x] 5)) := by
  have hc := conv_bytes (Ints.made' w .u8 5 [x] w.heap.size rfl (by simp))
  simpa only [List.length_cons, List.length_nil, List.map_cons, List.map_nil, Nat.zero_add] using hc
theorem encS_len (f : Nat) : ∀ n : Int, (encS f n).length ≤ f + 1 := by
  induction f with
  | zero => intro n; simp [encS]
  | succ f ih =>
    intro n
    unfold encS
    split
    · simp
    · have := ih (n / 128)
      simp
      omega
theorem cat_ok (a b : List UInt8) (h : a.length ≤ 1000) (h2 : b.length ≤ 1000) : ¬ 9223372036854775807 < (S a).size + (S b).size := by
  rw [S_size, S_size]; omega
end Go.Proofs.YtnifgmijjggjjaaDoor
namespace Go.Proofs.YtnifgmijjggjjaaDoor
open Go.RowKit

theorem kS_cond (k : Nat) (n : Int) : (n / 2 ^ (7 * (k + 1) - 1) = 0 ∨ n / 2 ^ (7 * (k + 1) - 1) = -1) ↔ (n / 2 ^ (7 * k) / 64 = 0 ∨ n / 2 ^ (7 * k) / 64 = -1) := by
  have e : n / 2 ^ (7 * (k + 1) - 1) = n / 2 ^ (7 * k) / 64 := by
    rw [show 7 * (k + 1) - 1 = 7 * k + 6 by omega, Int.pow_add, ← Int.ediv_ediv_of_nonneg (Int.pow_nonneg (by decide))]
    rfl
  rw [e]
theorem div_step (k : Nat) (n : Int) : n / 2 ^ (7 * (k + 1)) = n / 128 / 2 ^ (7 * k) := by
  rw [show 7 * (k + 1) = 7 + 7 * k by omega, Int.pow_add, ← Int.ediv_ediv_of_nonneg (by decide)]
  rfl
theorem kS_shift (f : Nat) : ∀ (k : Nat) (n : Int), kS f (k + 2) n = kS f (k + 1) (n / 128) + 1 := by
  induction f with
  | zero => intro k n; simp [kS]
  | succ f ih =>
    intro k n
    rw [kS, kS]
    have h1 := kS_cond (k + 1) n
    have h2 := kS_cond k (n / 128)
    rw [div_step] at h1
    rw [show k + 2 = k + 1 + 1 by omega]
    by_cases hc : n / 128 / 2 ^ (7 * k) / 64 = 0 ∨ n / 128 / 2 ^ (7 * k) / 64 = -1
    · rw [if_pos (h1.2 hc), if_pos (h2.2 hc)]
    · rw [if_neg (fun h => hc (h1.1 h)), if_neg (fun h => hc (h2.1 h)), ih (k + 1)]

theorem byteS_succ (n : Int) (K i : Nat) : byteS n (K + 1) (i + 1) = byteS (n / 128) K i := by
  unfold byteS
  rw [div_step]
  congr 2
  simp

theorem encS_eq (f : Nat) : ∀ n : Int, encS f n = (List.range (kS f 1 n)).map (byteS n (kS f 1 n)) := by
  induction f with
  | zero => intro n; simp [encS, kS, byteS, List.range_succ]
  | succ f ih =>
    intro n
    have hc := kS_cond 0 n
    simp only [Nat.mul_zero, Int.pow_zero, Int.ediv_one] at hc
    rw [encS, kS]
    by_cases h : -64 ≤ n ∧ n < 64
    · rw [if_pos h, if_pos (hc.2 (by omega))]
      simp [byteS, List.range_succ]
    · have hc' : ¬ (n / 2 ^ (7 * 1 - 1) = 0 ∨ n / 2 ^ (7 * 1 - 1) = -1) := fun h' => by
        rcases hc.1 h' with h2 | h2 <;> omega
      rw [if_neg h, if_neg hc', kS_shift f 0 n, ih, List.range_succ_eq_map, List.map_cons, List.map_map]
      have h1 : 1 ≤ kS f (0 + 1) (n / 128) := (kS_le f 1 (n / 128)).1
      congr 1
      · unfold byteS
        rw [if_pos (by omega)]
        simp
      · apply List.map_congr_left
        intro i _
        exact (byteS_succ n _ i).symm

end Go.Proofs.YtnifgmijjggjjaaDoor
