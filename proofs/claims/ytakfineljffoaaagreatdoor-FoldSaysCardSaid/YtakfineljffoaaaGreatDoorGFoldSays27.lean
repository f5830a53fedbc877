/-
  FOLDED BODIES: the numbers' two rules, by the contracts of the instructions. Condition: math/bits' tables, for the program's side.
-/
import Derived.Test.YtakfineljffoaaaGreatDoorGFoldSays12
import Derived.Test.YtakfineljffoaaaGreatDoorGFoldSays13
import Derived.Test.YtakfineljffoaaaGreatDoorGFoldSays15
import Derived.Test.YtakfineljffoaaaGreatDoorGFoldSays22
import Derived.Test.YtakfineljffoaaaGreatDoorGFoldSays23
import Derived.Test.YtakfineljffoaaaGreatDoorGFoldSays26
import Derived.OrdersHeld
import Derived.StillTail
import Derived.Deep.RegionHeld3
namespace Go.Proofs.YtakfineljffoaaaGreatDoor
open Go.RowKit Go.Lib

def In64 (a : Int) : Prop := -9223372036854775808 ≤ a ∧ a < 9223372036854775808
theorem bitLenAux_le : ∀ (f x : Nat), bitLenAux f x ≤ f
  | 0, _ => Nat.le_refl _
  | f + 1, x => by
    rw [bitLenAux]
    split
    · omega
    · have := bitLenAux_le f (x / 2); omega
theorem ctzFrom_le : ∀ (f x : Nat), ctzFrom f x ≤ f
  | 0, _ => Nat.le_refl _
  | f + 1, x => by
    rw [ctzFrom]
    split
    · omega
    · have := ctzFrom_le f (x / 2); omega
theorem ctz_le (f x : Nat) : ctz f x ≤ f := by
  unfold ctz
  split
  · exact Nat.le_refl _
  · exact ctzFrom_le f x
theorem in_tvo (b : Bool) : In64 (tvo b) := by cases b <;> unfold tvo In64 <;> simp
theorem in_tv (b : Bool) : In64 (tv b) := by cases b <;> unfold tv In64 <;> simp
theorem in_bits (x : Nat) (k : Int) (hk : 0 ≤ k ∧ k ≤ 64) : In64 (k - (Lib.bitLen x : Int)) := by
  have := bitLenAux_le 64 x
  unfold In64 Lib.bitLen
  omega
theorem in_ctz (f x : Nat) (hf : f ≤ 64) : In64 ((Lib.ctz f x : Nat) : Int) := by
  have := ctz_le f x
  unfold In64
  omega
theorem in_8 (b : BitVec 8) : In64 b.toInt := by
  have h1 := b.toInt_lt
  have h2 := b.le_toInt
  unfold In64
  simp only [Nat.reduceSub] at h1 h2
  omega
theorem in_16 (b : BitVec 16) : In64 b.toInt := by
  have h1 := b.toInt_lt
  have h2 := b.le_toInt
  unfold In64
  simp only [Nat.reduceSub] at h1 h2
  omega
theorem in_32 (b : BitVec 32) : In64 b.toInt := by
  have h1 := b.toInt_lt
  have h2 := b.le_toInt
  unfold In64
  simp only [Nat.reduceSub] at h1 h2
  omega
theorem in_64 (b : BitVec 64) : In64 b.toInt := by
  have h1 := b.toInt_lt
  have h2 := b.le_toInt
  unfold In64
  simp only [Nat.reduceSub] at h1 h2
  omega
theorem in_n32 (b : BitVec 32) : In64 (b.toNat : Int) := by
  have := b.isLt
  unfold In64
  simp only [Nat.reducePow] at this
  omega
theorem popAux_leF : ∀ (f x : Nat), popAux f x ≤ f
  | 0, _ => Nat.le_refl _
  | f + 1, x => by
    rw [popAux]
    have := popAux_leF f (x / 2)
    omega
theorem in_pop (f x : Nat) (hf : f ≤ 64) : In64 ((popAux f x : Nat) : Int) := by
  have := popAux_leF f x
  unfold In64
  omega
theorem one_ex (op : Nat) (a : Int) : ∃ r : Int × Int, In64 a → In64 r.1 ∧ (r.2 = 0 → tT op = 1 ∨ tT op = 2 ∨ tT op = 5 ∨ tT op = 7) ∧
    (∀ w : World, Tabs w → Calls Tryz.prog 98 #[.int .u8 op, .int .i64 a] w fun e w' => e = .returned (.tuple #[.int .i64 r.1, .int .i64 r.2]) ∧ Below w.heap.size w w') ∧
    (∀ w : World, Calls Tryz.prog 77 #[.int .u8 op, .int .i64 a] w fun e w' => e = .returned (.tuple #[.int .i64 r.1, .int .i64 r.2]) ∧ Below w.heap.size w w') := by
  by_cases ha : In64 a
  · by_cases hn : op ≠ 69 ∧ op ≠ 80 ∧ op ≠ 103 ∧ op ≠ 104 ∧ op ≠ 105 ∧ op ≠ 121 ∧ op ≠ 122 ∧ op ≠ 123 ∧ op ≠ 167 ∧ op ≠ 172 ∧ op ≠ 173 ∧ op ≠ 192 ∧ op ≠ 193 ∧ op ≠ 194 ∧ op ≠ 195 ∧ op ≠ 196
    · exact ⟨(0, 6), fun _ => ⟨by unfold In64; decide, fun h => absurd h (by decide), fun w _ => pone_none op hn a w, fun w => rone_none op hn a w⟩⟩
    · rcases (by omega : op = 69 ∨ op = 80 ∨ op = 103 ∨ op = 104 ∨ op = 105 ∨ op = 121 ∨ op = 122 ∨ op = 123 ∨ op = 192 ∨ op = 193 ∨ op = 194 ∨ op = 195 ∨ op = 196 ∨ op = 167 ∨ op = 172 ∨ op = 173) with rfl | rfl | rfl | rfl | rfl | rfl | rfl | rfl | rfl | rfl | rfl | rfl | rfl | rfl | rfl | rfl
      · exact ⟨(_, _), fun _ => ⟨in_tvo _, fun _ => by decide, fun w h => pone_69 a ha w h, fun w => rone_69 a w⟩⟩
      · exact ⟨(_, _), fun _ => ⟨in_tvo _, fun _ => by decide, fun w h => pone_80 a ha w h, fun w => rone_80 a w⟩⟩
      · exact ⟨(_, _), fun _ => ⟨in_bits _ _ (by decide), fun _ => by decide, fun w h => pone_103 a ha w h, fun w => rone_103 a w⟩⟩
      · exact ⟨(_, _), fun _ => ⟨in_ctz _ _ (by decide), fun _ => by decide, fun w h => pone_104 a ha w h, fun w => rone_104 a w⟩⟩
      · exact ⟨(_, _), fun _ => ⟨in_pop _ _ (by decide), fun _ => by decide, fun w h => pone_105 a ha w h, fun w => rone_105 a w⟩⟩
      · exact ⟨(_, _), fun _ => ⟨in_bits _ _ (by decide), fun _ => by decide, fun w h => pone_121 a ha w h, fun w => rone_121 a w⟩⟩
      · exact ⟨(_, _), fun _ => ⟨in_ctz _ _ (by decide), fun _ => by decide, fun w h => pone_122 a ha w h, fun w => rone_122 a w⟩⟩
      · exact ⟨(_, _), fun _ => ⟨in_pop _ _ (by decide), fun _ => by decide, fun w h => pone_123 a ha w h, fun w => rone_123 a w⟩⟩
      · exact ⟨(_, _), fun _ => ⟨in_8 _, fun _ => by decide, fun w h => pone_192 a ha w h, fun w => rone_192 a w⟩⟩
      · exact ⟨(_, _), fun _ => ⟨in_16 _, fun _ => by decide, fun w h => pone_193 a ha w h, fun w => rone_193 a w⟩⟩
      · exact ⟨(_, _), fun _ => ⟨in_8 _, fun _ => by decide, fun w h => pone_194 a ha w h, fun w => rone_194 a w⟩⟩
      · exact ⟨(_, _), fun _ => ⟨in_16 _, fun _ => by decide, fun w h => pone_195 a ha w h, fun w => rone_195 a w⟩⟩
      · exact ⟨(_, _), fun _ => ⟨in_32 _, fun _ => by decide, fun w h => pone_196 a ha w h, fun w => rone_196 a w⟩⟩
      · exact ⟨(_, _), fun _ => ⟨in_32 _, fun _ => by decide, fun w h => pone_167 a ha w h, fun w => rone_167 a w⟩⟩
      · exact ⟨(_, _), fun _ => ⟨in_32 _, fun _ => by decide, fun w h => pone_172 a ha w h, fun w => rone_172 a w⟩⟩
      · exact ⟨(_, _), fun _ => ⟨in_n32 _, fun _ => by decide, fun w h => pone_173 a ha w h, fun w => rone_173 a w⟩⟩
  · exact ⟨(0, 0), fun h => absurd h ha⟩
noncomputable def oneR (op : Nat) (a : Int) : Int × Int := Classical.choose (one_ex op a)
theorem one_in (op : Nat) {a : Int} (ha : In64 a) : In64 (oneR op a).1 := (Classical.choose_spec (one_ex op a) ha).1
theorem one_tt {op : Nat} {a : Int} (ha : In64 a) (h : (oneR op a).2 = 0) : tT op = 1 ∨ tT op = 2 ∨ tT op = 5 ∨ tT op = 7 := (Classical.choose_spec (one_ex op a) ha).2.1 h
theorem pone_any (op : Nat) {a : Int} (ha : In64 a) (w : World) (hT : Tabs w) : Calls Tryz.prog 98 #[.int .u8 op, .int .i64 a] w fun e w' => e = .returned (.tuple #[.int .i64 (oneR op a).1, .int .i64 (oneR op a).2]) ∧ Below w.heap.size w w' := (Classical.choose_spec (one_ex op a) ha).2.2.1 w hT
theorem rone_any (op : Nat) {a : Int} (ha : In64 a) (w : World) : Calls Tryz.prog 77 #[.int .u8 op, .int .i64 a] w fun e w' => e = .returned (.tuple #[.int .i64 (oneR op a).1, .int .i64 (oneR op a).2]) ∧ Below w.heap.size w w' := (Classical.choose_spec (one_ex op a) ha).2.2.2 w
theorem in_rk {n : Nat} (hB : ∀ b : BitVec n, In64 b.toInt) (k : Nat) (x y : BitVec n) : In64 (rkN k x y) := by
  unfold rkN
  split
  · exact hB _
  · unfold In64; decide
theorem two_in (op : Nat) (a b : Int) : In64 (twoN op a b) := by
  unfold twoN
  split
  · exact in_tv _
  split
  · exact in_tv _
  split
  · exact in_rk in_32 _ _ _
  split
  · exact in_rk in_64 _ _ _
  · unfold In64; decide
theorem tt_two : ∀ x : Fin 256, (70 ≤ x.val ∧ x.val ≤ 79) ∨ (81 ≤ x.val ∧ x.val ≤ 90) ∨ (106 ≤ x.val ∧ x.val ≤ 120) ∨ (124 ≤ x.val ∧ x.val ≤ 138) → tT x.val = 3 ∨ tT x.val = 4 ∨ tT x.val = 6 := by decide +kernel
theorem two_tt {op : Nat} (hop : op < 256) {a b : Int} (h : twoE op a b = 0) : tT op = 3 ∨ tT op = 4 ∨ tT op = 6 := by
  refine tt_two ⟨op, hop⟩ ?_
  unfold twoE at h
  simp only
  split at h
  · omega
  split at h
  · omega
  split at h
  · omega
  split at h
  · omega
  · omega
noncomputable def oM (x y : It) : Option It :=
  if (x.op = 65 ∧ (tT y.op = 1 ∨ tT y.op = 7) ∨ x.op = 66 ∧ (tT y.op = 2 ∨ tT y.op = 5)) ∧ (oneR y.op x.A).2 = 0 then some ⟨if tT y.op = 1 ∨ tT y.op = 2 then 65 else 66, (oneR y.op x.A).1, 0, []⟩ else none
def pM (x y z : It) : Option It :=
  if (x.op = 65 ∧ tT z.op = 3 ∨ x.op = 66 ∧ (tT z.op = 4 ∨ tT z.op = 6)) ∧ y.op = x.op ∧ twoE z.op x.A y.A = 0 then some ⟨if tT z.op = 3 ∨ tT z.op = 4 then 65 else 66, twoN z.op x.A y.A, 0, []⟩ else none
theorem flat_tt {op : Nat} (h : tT op ≠ 0) : flatOp op := by
  unfold flatOp
  rintro (rfl | rfl | rfl | rfl | rfl) <;> exact h rfl
theorem numR : NumR oM pM := by
  constructor
  · intro x y c h
    unfold oM at h
    split at h
    · next g =>
      cases h
      refine ⟨by unfold flatOp; omega, flat_tt (by omega), ?_⟩
      unfold flatOp
      simp only
      split <;> decide
    · exact absurd h (by simp)
  · intro x y z c h
    unfold pM at h
    split at h
    · next g =>
      cases h
      refine ⟨by unfold flatOp; omega, by unfold flatOp; omega, flat_tt (by omega), ?_⟩
      unfold flatOp
      simp only
      split <;> decide
    · exact absurd h (by simp)
end Go.Proofs.YtakfineljffoaaaGreatDoor
namespace Go.Proofs.YtakfineljffoaaaGreatDoor
open Go.RowKit Go.Lib

abbrev Rule := List It → Option (Nat × List It)
def r0 : Rule
  | x :: _ => if x.op = 1 then some (1, []) else none
  | [] => none
noncomputable def r1 : Rule
  | x :: y :: _ => (oM x y).map (fun c => (2, [c]))
  | _ => none
def r2 : Rule
  | x :: y :: z :: _ => (pM x y z).map (fun c => (3, [c]))
  | _ => none
def r3 : Rule
  | x :: y :: _ => if (x.op = 65 ∨ x.op = 66 ∨ x.op = 32 ∨ x.op = 35) ∧ y.op = 26 then some (2, []) else none
  | _ => none
def r4 : Rule
  | x :: y :: _ => if x.op = 65 ∧ y.op = 13 then (if x.A = 0 then some (2, []) else some (2, [⟨12, y.A, 0, []⟩])) else none
  | _ => none
def r5 : Rule
  | x :: y :: t => if (x.op = 0 ∨ x.op = 12 ∨ x.op = 14 ∨ x.op = 15) ∧ y.op ≠ 5 ∧ y.op ≠ 11 then some (1 + spanM (y :: t), [x]) else none
  | _ => none
def r6 : Rule
  | x :: y :: _ => if x.op = 33 ∧ y.op = 32 ∧ x.A = y.A then some (2, [⟨34, x.A, 0, []⟩]) else none
  | _ => none
def r7 : Rule
  | x :: y :: t => if x.op = 65 ∧ y.op = 4 then some (choM x y t) else none
  | _ => none
def r8 : Rule
  | x :: y :: _ => if (x.op = 2 ∨ x.op = 3) ∧ x.A = 64 ∧ y.op = 11 then some (2, []) else none
  | _ => none
def r9 : Rule
  | x :: y :: _ => if x.op = 34 ∧ y.op = 26 then some (2, [⟨33, x.A, 0, []⟩]) else none
  | _ => none
def r10 : Rule
  | x :: y :: _ => if x.op = 65 ∧ x.A ≠ 0 ∧ y.op = 27 then some (2, [⟨26, 0, 0, []⟩]) else none
  | _ => none
def firstR : List Rule → Rule
  | [], _ => none
  | r :: rs, l => match r l with
    | some q => some q
    | none => firstR rs l
noncomputable def rulesL : List Rule := [r0, r1, r2, r3, r4, r5, r6, r7, r8, r9, r10]
theorem first_ite (c : Prop) [Decidable c] (q : Nat × List It) (e : Option (Nat × List It)) : (match (if c then some q else none) with | some q => some q | none => e) = if c then some q else e := by
  by_cases h : c
  · rw [if_pos h, if_pos h]
  · rw [if_neg h, if_neg h]
theorem first_ite2 (c d : Prop) [Decidable c] [Decidable d] (p q : Nat × List It) (e : Option (Nat × List It)) : (match (if c then (if d then some p else some q) else none) with | some q => some q | none => e) = if c then (if d then some p else some q) else e := by
  by_cases h : c
  · rw [if_pos h, if_pos h]
    by_cases g : d
    · rw [if_pos g]
    · rw [if_neg g]
  · rw [if_neg h, if_neg h]
theorem first_c (x y : It) (t : List It) : firstR [r3, r4, r5, r6, r7, r8, r9, r10] (x :: y :: t) = ruleC x y t := by
  unfold ruleC
  simp only [firstR, r3, r4, r5, r6, r7, r8, r9, r10, first_ite, first_ite2]
theorem first_is (l : List It) : firstR rulesL l = ruleM oM pM l := by
  unfold rulesL
  cases l with
  | nil => rfl
  | cons x t =>
    rw [firstR, r0, first_ite, ruleM]
    congr 1
    cases t with
    | nil => rfl
    | cons y t =>
      rw [firstR, r1, ruleB]
      cases oM x y with
      | some c => rfl
      | none =>
        simp only [Option.map_none]
        rw [firstR]
        cases t with
        | nil => exact first_c x y []
        | cons z t =>
          rw [r2, ruleA]
          cases pM x y z with
          | some c => rfl
          | none => exact first_c x y (z :: t)
def Keeps (r : Rule) : Prop := ∀ l q, r l = some q → (∀ z ∈ l, ItOk z) → ∀ z ∈ q.2, ItOk z
theorem keeps_none {z : It} {P : Prop} (h : z ∈ ([] : List It)) : P := absurd h (List.not_mem_nil)
theorem item {op : Nat} {A : Int} (hop : op < 256) (hA : In64 A) (B : Int) (t : List Int) : ItOk ⟨op, A, B, t⟩ := ⟨hop, by unfold In64 at hA; simp only; omega⟩
theorem ItOk.in64 {x : It} (h : ItOk x) : In64 x.A := by
  have := h.2
  unfold In64
  omega
theorem k0 : Keeps r0 := by
  intro l q h ho z hz
  cases l with
  | nil => exact absurd h (by simp [r0])
  | cons x t =>
    rw [r0] at h
    split at h
    · cases h; exact keeps_none hz
    · exact absurd h (by simp)
theorem k1 : Keeps r1 := by
  intro l q h ho z hz
  rcases l with _ | ⟨x, _ | ⟨y, t⟩⟩
  · exact absurd h (by simp [r1])
  · exact absurd h (by simp [r1])
  · rw [r1, oM] at h
    split at h
    · simp only [Option.map_some, Option.some.injEq] at h
      subst h
      simp only [List.mem_cons, List.not_mem_nil, or_false] at hz
      subst hz
      exact item (by split <;> decide) (one_in _ (ho x (by simp)).in64) _ _
    · exact absurd h (by simp)
theorem k2 : Keeps r2 := by
  intro l q h ho z hz
  rcases l with _ | ⟨x, _ | ⟨y, _ | ⟨v, t⟩⟩⟩
  · exact absurd h (by simp [r2])
  · exact absurd h (by simp [r2])
  · exact absurd h (by simp [r2])
  · rw [r2, pM] at h
    split at h
    · simp only [Option.map_some, Option.some.injEq] at h
      subst h
      simp only [List.mem_cons, List.not_mem_nil, or_false] at hz
      subst hz
      exact item (by split <;> decide) (two_in _ _ _) _ _
    · exact absurd h (by simp)
theorem k3 : Keeps r3 := by
  intro l q h ho z hz
  rcases l with _ | ⟨x, _ | ⟨y, t⟩⟩
  · exact absurd h (by simp [r3])
  · exact absurd h (by simp [r3])
  · rw [r3] at h
    split at h
    · cases h; exact keeps_none hz
    · exact absurd h (by simp)
theorem k4 : Keeps r4 := by
  intro l q h ho z hz
  rcases l with _ | ⟨x, _ | ⟨y, t⟩⟩
  · exact absurd h (by simp [r4])
  · exact absurd h (by simp [r4])
  · rw [r4] at h
    split at h
    · split at h
      · cases h; exact keeps_none hz
      · cases h
        simp only [List.mem_cons, List.not_mem_nil, or_false] at hz
        subst hz
        exact item (by decide) (ho y (by simp)).in64 _ _
    · exact absurd h (by simp)
theorem k5 : Keeps r5 := by
  intro l q h ho z hz
  rcases l with _ | ⟨x, _ | ⟨y, t⟩⟩
  · exact absurd h (by simp [r5])
  · exact absurd h (by simp [r5])
  · rw [r5] at h
    split at h
    · cases h
      simp only [List.mem_cons, List.not_mem_nil, or_false] at hz
      subst hz
      exact ho z (by simp)
    · exact absurd h (by simp)
theorem k6 : Keeps r6 := by
  intro l q h ho z hz
  rcases l with _ | ⟨x, _ | ⟨y, t⟩⟩
  · exact absurd h (by simp [r6])
  · exact absurd h (by simp [r6])
  · rw [r6] at h
    split at h
    · cases h
      simp only [List.mem_cons, List.not_mem_nil, or_false] at hz
      subst hz
      exact item (by decide) (ho x (by simp)).in64 _ _
    · exact absurd h (by simp)
theorem cho_items {x y : It} {t : List It} (h : ∀ z ∈ y :: t, ItOk z) : ∀ z ∈ (choM x y t).2, ItOk z := by
  have hh : ItOk (headI y) := item (by decide) (h y (by simp)).in64 _ _
  intro z hz
  unfold choM at hz
  split at hz
  · simp only [List.mem_cons, List.mem_append] at hz
    rcases hz with rfl | hz | hz
    · exact hh
    · exact h z (List.mem_of_mem_take (List.mem_of_mem_drop hz))
    · exact h z (List.mem_of_mem_drop (List.mem_of_mem_take hz))
  · split at hz
    · simp only [List.mem_cons] at hz
      rcases hz with rfl | hz
      · exact hh
      · exact h z (List.mem_of_mem_take (List.mem_of_mem_drop hz))
    · exact keeps_none hz
theorem k7 : Keeps r7 := by
  intro l q h ho z hz
  rcases l with _ | ⟨x, _ | ⟨y, t⟩⟩
  · exact absurd h (by simp [r7])
  · exact absurd h (by simp [r7])
  · rw [r7] at h
    split at h
    · simp only [Option.some.injEq] at h
      subst h
      exact cho_items (fun z hz => ho z (List.mem_cons_of_mem _ hz)) z hz
    · exact absurd h (by simp)
theorem k8 : Keeps r8 := by
  intro l q h ho z hz
  rcases l with _ | ⟨x, _ | ⟨y, t⟩⟩
  · exact absurd h (by simp [r8])
  · exact absurd h (by simp [r8])
  · rw [r8] at h
    split at h
    · cases h; exact keeps_none hz
    · exact absurd h (by simp)
theorem k9 : Keeps r9 := by
  intro l q h ho z hz
  rcases l with _ | ⟨x, _ | ⟨y, t⟩⟩
  · exact absurd h (by simp [r9])
  · exact absurd h (by simp [r9])
  · rw [r9] at h
    split at h
    · cases h
      simp only [List.mem_cons, List.not_mem_nil, or_false] at hz
      subst hz
      exact item (by decide) (ho x (by simp)).in64 _ _
    · exact absurd h (by simp)
theorem k10 : Keeps r10 := by
  intro l q h ho z hz
  rcases l with _ | ⟨x, _ | ⟨y, t⟩⟩
  · exact absurd h (by simp [r10])
  · exact absurd h (by simp [r10])
  · rw [r10] at h
    split at h
    · cases h
      simp only [List.mem_cons, List.not_mem_nil, or_false] at hz
      subst hz
      exact item (by decide) (by unfold In64; decide) _ _
    · exact absurd h (by simp)
theorem keeps_first {rs : List Rule} (h : ∀ r ∈ rs, Keeps r) : Keeps (firstR rs) := by
  induction rs with
  | nil => intro l q h; exact absurd h (by simp [firstR])
  | cons r rs ih =>
    intro l q hq
    rw [firstR] at hq
    cases hr : r l with
    | some q' =>
      rw [hr] at hq
      simp only [Option.some.injEq] at hq
      subst hq
      exact h r (by simp) l _ hr
    | none =>
      rw [hr] at hq
      exact ih (fun r hr => h r (List.mem_cons_of_mem _ hr)) l q hq
theorem rule_items {l : List It} {q : Nat × List It} (h : ruleM oM pM l = some q) (ho : ∀ z ∈ l, ItOk z) : ∀ z ∈ q.2, ItOk z := by
  rw [← first_is] at h
  refine keeps_first (fun r hr => ?_) l q h ho
  unfold rulesL at hr
  simp only [List.mem_cons, List.not_mem_nil, or_false] at hr
  rcases hr with rfl | rfl | rfl | rfl | rfl | rfl | rfl | rfl | rfl | rfl | rfl
  · exact k0
  · exact k1
  · exact k2
  · exact k3
  · exact k4
  · exact k5
  · exact k6
  · exact k7
  · exact k8
  · exact k9
  · exact k10
end Go.Proofs.YtakfineljffoaaaGreatDoor
namespace Go.Proofs.YtakfineljffoaaaGreatDoor

section
variable {P : Program} {ops : Array Oper} {Q : Exit → Act → World → Prop} {md : Region.Mode} {S : World → Prop} {n : Nat} {L : Array Bool → Act → World → Prop}
def wpHL (P : Program) (md : Region.Mode) (ops : Array Oper) (Q : Exit → Act → World → Prop) (S : World → Prop) (n : Nat) (L : Array Bool → Act → World → Prop) : Nat → Array Bool → Act → World → Prop
  | 0, listed, a, w => L listed a w
  | f + 1, listed, a, w =>
    Region.ready md ops listed ≠ [] ∧ ∀ i ∈ Region.ready md ops listed, i < n ∧ wpOp P ops Q i (fun a' w' => S w' ∧ wpHL P md ops Q S n L f (listed.setIfInBounds i true) a' w') a w
theorem wpAny_of_HL {g : Nat} (hL : ∀ listed a w, L listed a w → wpAny P md ops Q g listed a w) :
    ∀ (f : Nat) (listed : Array Bool) (a : Act) (w : World), wpHL P md ops Q S n L f listed a w → wpAny P md ops Q (f + g) listed a w
  | 0, listed, a, w, h => by rw [Nat.zero_add]; exact hL _ _ _ h
  | f + 1, listed, a, w, h => by
    rw [show f + 1 + g = (f + g) + 1 by omega]
    exact ⟨fun h0 => absurd h0 h.1, fun i hi => wpOp_mono (fun a' w' h' => wpAny_of_HL hL f _ a' w' h'.2) (h.2 i hi).2⟩
theorem wpHL_first {i : Nat} {oi : Oper} {v : Value} (hi : ops[i]? = some oi) (hsel : ∀ (j : Nat) (o : Oper) cs b, ops[j]? = some o → o.op ≠ .select cs b)
    (hs : Region.sinkB md ops n = true) (hc : Region.chainB md ops n = true) (hn : n < ops.size) (hin : i < n)
    (hdone : ∀ listed a w, L listed a w → ∀ j ∈ Region.ready md ops listed, n ≤ j)
    (hQ : ∀ c a w, Q (.panic c) (a.put oi.dst v) w → Q (.panic c) a w) :
    ∀ (f : Nat) (listed : Array Bool) (a : Act) (w : World), HeadInv md ops n listed →
      (∀ j oj, ops[j]? = some oj → j ≠ i → listed.getD j true = false → (∀ e ∈ oj.after, Region.binds md e = true → e.on ≠ i) → oi.apart ops oj = true) →
      i ∈ Region.ready md ops listed → YieldsIf P ops S oi v a → S w →
      wpHL P md ops Q S n L f (listed.setIfInBounds i true) (a.put oi.dst v) w → wpHL P md ops Q S n L (f + 1) listed a w := by
  intro f
  induction f with
  | zero =>
    intro listed a w inv _ hr hy hS H
    have hun := (mem_ready.1 hr).1
    refine ⟨fun h => (by rw [h] at hr; cases hr), fun j hj => ?_⟩
    have hjn : j < n := by
      rcases Nat.lt_or_ge j n with h | h
      · exact h
      · exact absurd hj (tail_waits hs hc hn inv _ i rfl hin hun j h)
    refine ⟨hjn, ?_⟩
    by_cases hji : j = i
    · subst hji; exact hy.wpOp hi hS ⟨hS, H⟩
    · have := hdone _ _ _ H j (ready_mono hj hji)
      omega
  | succ f ih =>
    intro listed a w inv hfree hr hy hS H
    have hun := (mem_ready.1 hr).1
    refine ⟨fun h => (by rw [h] at hr; cases hr), fun j hj => ?_⟩
    have hjn : j < n := by
      rcases Nat.lt_or_ge j n with h | h
      · exact h
      · exact absurd hj (tail_waits hs hc hn inv _ i rfl hin hun j h)
    refine ⟨hjn, ?_⟩
    by_cases hji : j = i
    · subst hji; exact hy.wpOp hi hS ⟨hS, H⟩
    · have h1 := (H.2 j (ready_mono hj hji)).2
      obtain ⟨hjun, oj, hoj, hall⟩ := mem_ready.1 hj
      have hnot : ∀ e ∈ oj.after, Region.binds md e = true → e.on ≠ i := fun e he hb heq => by
        have h1 := hall e he hb
        rw [heq, getD_both hun] at h1
        cases h1
      have h2 := wpOp_putIf hoj (hfree j oj hoj hji hjun hnot) (fun cs b => hsel i oi cs b hi) (fun cs b => hsel j oj cs b hoj) hQ hy h1
      have hfree' : ∀ k ok, ops[k]? = some ok → k ≠ i → (listed.setIfInBounds j true).getD k true = false →
          (∀ e ∈ ok.after, Region.binds md e = true → e.on ≠ i) → oi.apart ops ok = true := fun k ok hk hki hun hno => by
        refine hfree k ok hk hki ?_ hno
        by_cases hjk : j = k
        · subst hjk; exact hjun
        · rw [getD_set_ne true hjk] at hun; exact hun
      refine wpOp_mono (fun a' w' h3 => ⟨h3.2.1, ih (listed.setIfInBounds j true) a' w' (inv.set hj hjn) hfree' (ready_mono hr (Ne.symm hji)) h3.1 h3.2.1 ?_⟩) h2
      rw [Array.setIfInBounds_comm _ _ hji]
      exact h3.2.2

def TailL (P : Program) (md : Region.Mode) (ops : Array Oper) (Q : Exit → Act → World → Prop) (n : Nat) (listed : Array Bool) (a : Act) (w : World) : Prop :=
  Region.seqB md ops (ops.size - n) n listed = true ∧ wpList P ops Q (ops.toList.drop n) a w
def wpT (P : Program) (ops : Array Oper) (Q : Exit → Act → World → Prop) (S : World → Prop) (n f : Nat) (listed : Array Bool) (a : Act) (w : World) : Prop :=
  HeadInv .any ops n listed → wpHL P .any ops Q S n (TailL P .any ops Q n) f listed a w
def tailB (ops : Array Oper) (n : Nat) : Bool := Region.noSelect ops && decide (n < ops.size) && Region.sinkB .any ops n && Region.chainB .any ops n
theorem wp_region_tail {id : Nat} {a : Act} {w : World} (n : Nat) (hm : P.follows .mixedOrders = true) (hB : tailB ops n = true) (hS : S w.drew)
    (h : S w.drew → wpT P ops Q S n n (Array.replicate ops.size false) a w.drew) : (Code.region id ops true).wp P Q a w := by
  simp only [tailB, Bool.and_eq_true, decide_eq_true_eq] at hB
  obtain ⟨⟨⟨hsel, hn⟩, hs⟩, hc⟩ := hB
  have inv0 : HeadInv .any ops n (Array.replicate ops.size false) :=
    ⟨by simp, fun j oj _ hl => (by rw [getD_replicate_false] at hl; cases hl), fun t _ ht => getD_in (by simpa using ht) (getD_replicate_false _ _)⟩
  have hdl : (ops.toList.drop n).length = ops.size - n := by simp
  refine wp_region_any hm ?_
  have := wpAny_of_HL (g := ops.size - n) (fun listed a' w' (hL : TailL P .any ops Q n listed a' w') => by
    have := wpAny_of_seq (md := .any) (Q' := Q) (ops.toList.drop n) n listed a' w' (fun j => by simp [List.getElem?_drop]) (by rw [hdl]; exact hL.1) hL.2
    rwa [hdl] at this) _ _ _ _ (h hS inv0)
  rw [show n + (ops.size - n) = ops.size by omega] at this
  exact this
theorem wpT_take {i f : Nat} {oi : Oper} {v : Value} {listed : Array Bool} {a : Act} {w : World} (hi : ops[i]? = some oi) (hB : tailB ops n = true) (hr : (decide (i < n) && (Region.ready .any ops listed).contains i) = true)
    (hf : Region.free .any ops listed i = true) (hQ : ∀ c a w, Q (.panic c) (a.put oi.dst v) w → Q (.panic c) a w) (hy : YieldsIf P ops S oi v a) (hS : S w)
    (h : wpT P ops Q S n f (listed.setIfInBounds i true) (a.put oi.dst v) w) : wpT P ops Q S n (f + 1) listed a w := fun inv => by
  simp only [tailB, Bool.and_eq_true, decide_eq_true_eq] at hB hr
  obtain ⟨⟨⟨hsel, hn⟩, hs⟩, hc⟩ := hB
  have hr' : i ∈ Region.ready .any ops listed := by simpa using hr.2
  exact wpHL_first hi (Region.noSelect_spec hsel) hs hc hn hr.1 (fun _ _ _ hL => seqB_ready hL.1) hQ f listed a w inv (Region.free_spec hi hf) hr' hy hS (h (inv.set hr' hr.1))
theorem tk (i : Nat) {f : Nat} {oi : Oper} (v : Value) {listed : Array Bool} {a : Act} {w : World} (hi : ops[i]? = some oi) (hy : ∀ w, S w → (execOp a.eval oi).run P w = .ok (.value v) w)
    (h : wpT P ops Q S n f (listed.setIfInBounds i true) (a.put oi.dst v) w)
    (hB : tailB ops n = true := by kernel_rfl) (hr : (decide (i < n) && (Region.ready .any ops listed).contains i) = true := by decide +kernel)
    (hf : Region.free .any ops listed i = true := by kernel_rfl) (hQ : ∀ c a w, Q (.panic c) (a.put oi.dst v) w → Q (.panic c) a w := by exact fun _ _ _ h => h)
    (hw : Region.wanted oi (yielded ops a.tmps) = true := by rfl) (hS : S w := by assumption) : wpT P ops Q S n (f + 1) listed a w :=
  wpT_take hi hB hr hf hQ (Or.inl ⟨hw, hy⟩) hS h
theorem wpT_one {k f : Nat} {o : Oper} {listed : Array Bool} {a : Act} {w : World} (ho : ops[k]? = some o) (hr : (decide (k < n) && decide (Region.ready .any ops listed = [k])) = true)
    (h : ∀ K' : Act → World → Prop, Shut (∀ a w, S w → (S w → wpT P ops Q S n f (listed.setIfInBounds k true) a w) → K' a w) → if Region.wanted o (yielded ops a.tmps) = true then Oper.wp P o a w K' Q else K' (a.put o.dst undef) w) :
    wpT P ops Q S n (f + 1) listed a w := fun inv => by
  simp only [Bool.and_eq_true, decide_eq_true_eq] at hr
  refine ⟨fun h0 => (by rw [hr.2] at h0; cases h0), fun i hi => ?_⟩
  rw [hr.2] at hi
  have hik : i = k := by simpa using hi
  subst hik
  exact ⟨hr.1, wpOp_step ho (fun K' hK => h K' (fun a w hS hW => hK a w ⟨hS, hW hS (inv.set (by rw [hr.2]; exact List.mem_cons_self) hr.1)⟩))⟩
theorem wpT_two {j k f : Nat} {o p : Oper} {listed : Array Bool} {a : Act} {w : World} (ho : ops[j]? = some o) (hp : ops[k]? = some p) (hr : (decide (j < n) && decide (k < n) && decide (Region.ready .any ops listed = [j, k])) = true)
    (h1 : ∀ K' : Act → World → Prop, Shut (∀ a w, S w → (S w → wpT P ops Q S n f (listed.setIfInBounds j true) a w) → K' a w) → if Region.wanted o (yielded ops a.tmps) = true then Oper.wp P o a w K' Q else K' (a.put o.dst undef) w)
    (h2 : ∀ K' : Act → World → Prop, Shut (∀ a w, S w → (S w → wpT P ops Q S n f (listed.setIfInBounds k true) a w) → K' a w) → if Region.wanted p (yielded ops a.tmps) = true then Oper.wp P p a w K' Q else K' (a.put p.dst undef) w) :
    wpT P ops Q S n (f + 1) listed a w := fun inv => by
  simp only [Bool.and_eq_true, decide_eq_true_eq] at hr
  refine ⟨fun h0 => (by rw [hr.2] at h0; cases h0), fun i hi => ?_⟩
  have hi' := hi
  rw [hr.2] at hi
  rcases List.mem_cons.1 hi with rfl | hi
  · exact ⟨hr.1.1, wpOp_step ho (fun K' hK => h1 K' (fun a w hS hW => hK a w ⟨hS, hW hS (inv.set hi' hr.1.1)⟩))⟩
  · have hik : i = k := by simpa using hi
    subst hik
    exact ⟨hr.1.2, wpOp_step hp (fun K' hK => h2 K' (fun a w hS hW => hK a w ⟨hS, hW hS (inv.set hi' hr.1.2)⟩))⟩
theorem wpT_done {listed : Array Bool} {a : Act} {w : World} (hr : Region.seqB .any ops (ops.size - n) n listed = true) (h : wpList P ops Q (ops.toList.drop n) a w) : wpT P ops Q S n 0 listed a w :=
  fun _ => ⟨hr, h⟩
end
end Go.Proofs.YtakfineljffoaaaGreatDoor
namespace Go.Proofs.YtakfineljffoaaaGreatDoor
open Go.RowKit Go.Lib

theorem BodS.one {w : World} {v : Value} {x : It} {t : List It} (h : BodS w v (x :: t)) : ∃ b off n cap, v = .slice (some ⟨b, off, none⟩) n cap ∧ n = t.length + 1 ∧ n ≤ cap ∧ cap ≤ 9223372036854775807 ∧ ∃ u, ∀ wx, Below w.heap.size w wx →
    wx.cell? ⟨b, off, none⟩ = some (.int .u8 x.op) ∧ wx.cell? ⟨b, off + 1, none⟩ = some (.int .i64 x.A) ∧ wx.cell? ⟨b, off + 2, none⟩ = some (.int .i64 x.B) ∧ wx.cell? ⟨b, off + 3, none⟩ = some u := by
  obtain ⟨b, off, cap, u, hv, hc1, hc2, c0, c1, c2, c3, -⟩ := h.open 0 (by simp)
  simp only [Nat.zero_mul, Nat.add_zero, List.getElem_cons_zero] at c0 c1 c2 c3
  exact ⟨b, off, _, cap, hv, by simp, by simpa using hc1, hc2, u, fun wx hb => ⟨cell_below hb c0, cell_below hb c1, cell_below hb c2, cell_below hb c3⟩⟩
theorem BodS.second {w : World} {b off n cap : Nat} {x y : It} {t : List It} (h : BodS w (.slice (some ⟨b, off, none⟩) n cap) (x :: y :: t)) : ∃ u, ∀ wx, Below w.heap.size w wx →
    wx.cell? ⟨b, off + 4, none⟩ = some (.int .u8 y.op) ∧ wx.cell? ⟨b, off + 5, none⟩ = some (.int .i64 y.A) ∧ wx.cell? ⟨b, off + 6, none⟩ = some (.int .i64 y.B) ∧ wx.cell? ⟨b, off + 7, none⟩ = some u := by
  obtain ⟨b', off', cap', u, hv, hc1, hc2, c0, c1, c2, c3, -⟩ := h.open 1 (by simp)
  simp only [Value.slice.injEq, Option.some.injEq, Addr.mk.injEq, and_true] at hv
  obtain ⟨⟨rfl, rfl⟩, rfl, rfl⟩ := hv
  simp only [Nat.one_mul, List.getElem_cons_succ, List.getElem_cons_zero, Nat.add_assoc, Nat.reduceAdd] at c0 c1 c2 c3
  exact ⟨u, fun wx hb => ⟨cell_below hb c0, cell_below hb c1, cell_below hb c2, cell_below hb c3⟩⟩
theorem BodS.third {w : World} {b off n cap : Nat} {x y z : It} {t : List It} (h : BodS w (.slice (some ⟨b, off, none⟩) n cap) (x :: y :: z :: t)) : ∃ u, ∀ wx, Below w.heap.size w wx →
    wx.cell? ⟨b, off + 8, none⟩ = some (.int .u8 z.op) ∧ wx.cell? ⟨b, off + 9, none⟩ = some (.int .i64 z.A) ∧ wx.cell? ⟨b, off + 10, none⟩ = some (.int .i64 z.B) ∧ wx.cell? ⟨b, off + 11, none⟩ = some u := by
  obtain ⟨b', off', cap', u, hv, hc1, hc2, c0, c1, c2, c3, -⟩ := h.open 2 (by simp)
  simp only [Value.slice.injEq, Option.some.injEq, Addr.mk.injEq, and_true] at hv
  obtain ⟨⟨rfl, rfl⟩, rfl, rfl⟩ := hv
  simp only [Nat.reduceMul, List.getElem_cons_succ, List.getElem_cons_zero, Nat.add_assoc, Nat.reduceAdd] at c0 c1 c2 c3
  exact ⟨u, fun wx hb => ⟨cell_below hb c0, cell_below hb c1, cell_below hb c2, cell_below hb c3⟩⟩
section
variable {P : Program} {ops : Array Oper} {Q : Exit → Act → World → Prop} {S : World → Prop} {n : Nat}
theorem tku (i : Nat) {f : Nat} {oi : Oper} {listed : Array Bool} {a : Act} {w : World} (hi : ops[i]? = some oi)
    (h : wpT P ops Q S n f (listed.setIfInBounds i true) (a.put oi.dst undef) w)
    (hw : Region.wanted oi (yielded ops a.tmps) = false := by rfl)
    (hB : tailB ops n = true := by kernel_rfl) (hr : (decide (i < n) && (Region.ready .any ops listed).contains i) = true := by decide +kernel)
    (hf : Region.free .any ops listed i = true := by kernel_rfl) (hQ : ∀ c a w, Q (.panic c) (a.put oi.dst undef) w → Q (.panic c) a w := by exact fun _ _ _ h => h)
    (hS : S w := by assumption) : wpT P ops Q S n (f + 1) listed a w :=
  wpT_take hi hB hr hf hQ (Or.inr ⟨hw, rfl⟩) hS h
end
theorem bel_al {w w' : World} (h : Below w.heap.size w w') (o : Obj) : Below w.heap.size w (w'.alloc o) := h.alloc h.size o
theorem bel_set {w w' : World} (h : Below w.heap.size w w') {p : Addr} (hp : w.heap.size ≤ p.block) (u : Value) : Below w.heap.size w (w'.setCell p u) := h.setCell hp u
theorem bel_tr {w X w1 : World} (h : Below w.heap.size w X) (g : Below X.heap.size X w1) : Below w.heap.size w w1 := h.trans (g.mono h.size)
theorem bel_dn {w w' : World} (h : Below w.heap.size w w') (n : Nat) : Below w.heap.size w (w'.drewN n) := ⟨h.os, h.tape, h.output, h.size, h.block⟩
def Gives (w' : World) (g : Int) (nv : Value) (is : Bool) : Option (Nat × List It) → Prop
  | none => is = false
  | some q => is = true ∧ g = q.1 ∧ BodS w' nv q.2
def RPost (w : World) (q : Option (Nat × List It)) (e : Ending) (w' : World) : Prop := ∃ g ao m c is, e = .returned (.tuple #[.agg #[.int .i64 g, .slice ao m c], .bool is]) ∧ Below w.heap.size w w' ∧ Gives w' g (.slice ao m c) is q
def RuleP (f : Nat) (R : List It → Option (Nat × List It)) : Prop := ∀ (w : World) (v : Value) (x : It) (t : List It) (k : Nat) (st : List Nat), (∀ z ∈ x :: t, ItOk z) → run (x :: t) (k :: st) = some [] → Tabs w → BodS w v (x :: t) → (x :: t).length ≤ 200 →
  Calls Tryz.prog f #[v] w fun e w' => RPost w (R (x :: t)) e w'
def isCst (x : It) : Prop := x.op = 65 ∨ x.op = 66
instance (x : It) : Decidable (isCst x) := by unfold isCst; exact inferInstance
theorem isConst_any (w : World) (op : Nat) (A B : Int) (u : Value) : Calls Tryz.prog 97 #[.agg #[.int .u8 op, .int .i64 A, .int .i64 B, u]] w fun e w' => e = .returned (.bool (decide (op = 65 ∨ op = 66))) ∧ Below w.heap.size w w' := by
  by_cases h1 : op = 65
  · subst h1
    go_enter Tryz.func97, Tryz.ntmps97
    go_wp2_with fail
    go_ret
    exact ⟨rfl, (Below.refl _ _).alloc (Nat.le_refl _) _⟩
  · have e1 : ((op : Int) == 65) = false := by simp; omega
    have e2 : ((op : Int) == 66) = decide (op = 65 ∨ op = 66) := by
      rw [Bool.eq_iff_iff]; simp; omega
    generalize decide (op = 65 ∨ op = 66) = d at *
    clear h1
    go_enter Tryz.func97, Tryz.ntmps97
    go_wp2_with fail
    go_ret
    exact ⟨rfl, (Below.refl _ _).alloc (Nat.le_refl _) _⟩
theorem isNumber_any (w : World) (op : Nat) (A B : Int) (u : Value) : Calls Tryz.prog 103 #[.agg #[.int .u8 op, .int .i64 A, .int .i64 B, u]] w fun e w' => e = .returned (.bool (decide (op = 65))) ∧ Below w.heap.size w w' := by
  have e2 : ((op : Int) == 65) = decide (op = 65) := by
    rw [Bool.eq_iff_iff]; simp; omega
  generalize decide (op = 65) = d at *
  go_enter Tryz.func103, Tryz.ntmps103
  go_wp2_with fail
  go_ret
  exact ⟨rfl, (Below.refl _ _).alloc (Nat.le_refl _) _⟩
theorem kindOf_any (w : World) (op : Nat) (A B : Int) (u : Value) : Calls Tryz.prog 100 #[.agg #[.int .u8 op, .int .i64 A, .int .i64 B, u]] w fun e w' => e = .returned (.int .u8 (if op = 65 then 127 else 126)) ∧ Below w.heap.size w w' := by
  have HN := hid (fun w => isNumber_any w op A B u)
  by_cases h : op = 65
  · rw [if_pos h]
    rw [show decide (op = 65) = true from decide_eq_true h] at HN
    clear h
    go_enter Tryz.func100, Tryz.ntmps100
    go_wp2_with (go_at_call 103; refine (HN.out _).mono ?_; rintro r w1 ⟨rfl, hb1⟩)
    go_ret
    exact ⟨rfl, ((Below.refl _ _).alloc (Nat.le_refl _) _).trans (hb1.mono (by simp))⟩
  · rw [if_neg h]
    rw [show decide (op = 65) = false from decide_eq_false h] at HN
    clear h
    go_enter Tryz.func100, Tryz.ntmps100
    go_wp2_with (go_at_call 103; refine (HN.out _).mono ?_; rintro r w1 ⟨rfl, hb1⟩)
    go_ret
    exact ⟨rfl, ((Below.refl _ _).alloc (Nat.le_refl _) _).trans (hb1.mono (by simp))⟩
def ci (k : Nat) : Nat := if k = 127 then 65 else 66
theorem constant_any (w : World) (k : Nat) (n : Int) : Calls Tryz.prog 101 #[.int .u8 k, .int .i64 n] w fun e w' => e = .returned (.slice (some ⟨w.heap.size, 0, none⟩) 1 1) ∧ w' = w.alloc (.cells #[.int .u8 (ci k : Nat), .int .i64 n, .int .i64 0, .slice none 0 0] 97) := by
  by_cases h : k = 127
  · have e1 : ((k : Int) == 127) = true := by simp; omega
    rw [show ci k = 65 from if_pos h]
    clear h
    go_enter Tryz.func101, Tryz.ntmps101
    go_wp2_with fail
    go_ret
    exact ⟨rfl, rfl⟩
  · have e1 : ((k : Int) == 127) = false := by simp; omega
    rw [show ci k = 66 from if_neg h]
    clear h
    go_enter Tryz.func101, Tryz.ntmps101
    go_wp2_with fail
    go_ret
    exact ⟨rfl, rfl⟩
theorem bel_lt {w w1 : World} {o : Obj} (h : Below (w.alloc o).heap.size (w.alloc o) w1) : w.heap.size < w1.heap.size := by
  have := h.size
  simp at this
  omega
theorem turn_blk {w w1 : World} (h : Below (w.alloc (.cells #[.int .i64 0, .slice none 0 0] 127)).heap.size (w.alloc (.cells #[.int .i64 0, .slice none 0 0] 127)) w1) : w1.cell? ⟨w.heap.size, 0, none⟩ = some (.int .i64 0) ∧ w1.cell? ⟨w.heap.size, 1, none⟩ = some (.slice none 0 0) ∧ ∀ i, w1.frozen? ⟨w.heap.size, i, none⟩ = false := by
  have X := (Blk.new w #[.int .i64 0, .slice none 0 0] 127 _ rfl).below h
  exact ⟨X.cell (i := 0) rfl, X.cell (i := 1) rfl, fun i => X.free i⟩
theorem turn_read {w1 : World} {B : Nat} {a b : Value} (x0 : w1.cell? ⟨B, 0, none⟩ = some a) (x1 : w1.cell? ⟨B, 1, none⟩ = some b) (p q : Value) : (∀ o, (((w1.setCell ⟨B, 0, none⟩ p).setCell ⟨B, 1, none⟩ q).alloc o).cell? ⟨B, 0, none⟩ = some p) ∧ ∀ o, (((w1.setCell ⟨B, 0, none⟩ p).setCell ⟨B, 1, none⟩ q).alloc o).cell? ⟨B, 1, none⟩ = some q :=
  ⟨fun o => cell_alloc o (by simp [go_sem, x0]), fun o => cell_alloc o (by simp [go_sem, x1])⟩
theorem idle_any : RuleP 65 r0 := by
  intro w v x t k st _ _ _ h _
  obtain ⟨b, off, n, cap, rfl, hn, hc1, hc2, u, hcell⟩ := h.one
  have HC := hid hcell
  have hp : 0 < n := by omega
  have e1 : ((x.op : Int) == 1) = decide (x.op = 1) := by
    rw [Bool.eq_iff_iff]; simp; omega
  have HG := hid (fun w' => show Gives w' 1 (.slice none 0 0) (decide (x.op = 1)) (r0 (x :: t)) from by
    show Gives _ _ _ _ (if x.op = 1 then some (1, []) else none)
    by_cases g : x.op = 1
    · rw [if_pos g, decide_eq_true g]; exact ⟨rfl, rfl, BodS.nil _⟩
    · rw [if_neg g, decide_eq_false g]; rfl)
  generalize decide (x.op = 1) = d at *
  clear hn hcell h
  go_enter Tryz.func65, Tryz.ntmps65
  go_wp2_with fail
  go_region_held3 (fun w' => w'.cell? ⟨b, off, none⟩ = some (.int .u8 x.op)) (exact (HC.out _ (by (repeat (first | exact Below.refl _ _ | assumption | refine bel_al ?_ _ | refine Below.drew ?_ | refine bel_dn ?_ _ | refine bel_set ?_ (Nat.le_refl _) _)))).1) (fail)
  go_wp2_with fail
  refine bodyPost_ret (v := .tuple #[.agg #[.int .i64 1, .slice none 0 0], .bool d]) (by simp [results, Tryz.results65, go_sem]) rfl ?_
  exact ⟨_, _, _, _, _, rfl, by (repeat (first | exact Below.refl _ _ | assumption | refine bel_al ?_ _ | refine Below.drew ?_ | refine bel_dn ?_ _ | refine bel_set ?_ (Nat.le_refl _) _)), HG.out _⟩
theorem BodS.single {w : World} {m op : Nat} {A : Int} (h0 : w.cell? ⟨m, 0, none⟩ = some (.int .u8 op)) (h1 : w.cell? ⟨m, 1, none⟩ = some (.int .i64 A)) (h2 : w.cell? ⟨m, 2, none⟩ = some (.int .i64 0)) (h3 : w.cell? ⟨m, 3, none⟩ = some (.slice none 0 0)) : BodS w (.slice (some ⟨m, 0, none⟩) 1 1) [⟨op, A, 0, []⟩] := by
  refine (Its0.single w op A).bod ⟨_, _, rfl, Nat.le_refl _, by decide, by simp, .inr ⟨m, 0, rfl, ?_⟩⟩
  intro j hj
  simp only [List.flatten_cons, List.flatten_nil, List.append_nil, List.length_cons, List.length_nil] at hj
  rcases (by omega : j = 0 ∨ j = 1 ∨ j = 2 ∨ j = 3) with rfl | rfl | rfl | rfl
  · exact h0
  · exact h1
  · exact h2
  · exact h3
theorem more_of {x : It} {t : List It} {k : Nat} {st : List Nat} (h : run (x :: t) (k :: st) = some []) (hx : x.op ≠ 11) : ∃ y r, t = y :: r := by
  cases t with
  | nil => exact absurd rfl (fits_more h hx)
  | cons y r => exact ⟨y, r, rfl⟩
theorem opb {n m : Nat} : ((n : Int) == (m : Int)) = decide (n = m) := by
  rw [Bool.eq_iff_iff]; simp; omega
theorem opT {n m : Nat} (h : n = m) : ((n : Int) == (m : Int)) = true := by rw [opb]; exact decide_eq_true h
theorem opF {n m : Nat} (h : ¬ n = m) : ((n : Int) == (m : Int)) = false := by rw [opb]; exact decide_eq_false h
end Go.Proofs.YtakfineljffoaaaGreatDoor
