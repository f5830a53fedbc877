/-
  THE CHECK SUM, IN PLAIN LEAN: a register that is shifted, and a division of a list of bits, agree. No condition, no program.
-/
import Derived.Test.YtpapblahnbeccaaBase
namespace Go.Proofs.Ytpapblahnbeccaa

/-- bit p of a text, 0 behind its end -/
def mbit (l : List UInt8) (p : Nat) : Bool := (l.getD (p / 8) 0).toBitVec.getLsbD (p % 8)
def poly : BitVec 32 := 0xedb88320#32
def step1 (r : BitVec 32) : BitVec 32 := (r >>> 1) ^^^ (if r.getLsbD 0 then poly else 0#32)
def steps (r : BitVec 32) : Nat → BitVec 32
  | 0 => r
  | n + 1 => steps (step1 r) n
def inByte (r : BitVec 32) (c : UInt8) : BitVec 32 := r ^^^ c.toBitVec.setWidth 32
def crcL (r : BitVec 32) : List UInt8 → BitVec 32
  | [] => r
  | c :: l => crcL (steps (inByte r c) 8) l
def crcF (l : List UInt8) : BitVec 32 := ~~~ (crcL (BitVec.allOnes 32) l)

def ks : List Nat := [32, 26, 23, 22, 16, 12, 11, 10, 8, 7, 5, 4, 2, 1, 0]
def flip1 (b : List Bool) (p : Nat) : List Bool := b.set p (!(b.getD p false))
def flips (b : List Bool) (i : Nat) : List Nat → List Bool
  | [] => b
  | k :: r => flips (flip1 b (i + 32 - k)) i r
def divStep (b : List Bool) (i : Nat) : List Bool := if b.getD i false then flips b i ks else b
/-- n more steps from i on -/
def divs (b : List Bool) (i : Nat) : Nat → List Bool
  | 0 => b
  | n + 1 => divs (divStep b i) (i + 1) n

theorem flip1_length (b : List Bool) (p : Nat) : (flip1 b p).length = b.length := by simp [flip1]
theorem flips_length (l : List Nat) : ∀ (b : List Bool) (i : Nat), (flips b i l).length = b.length := by
  induction l with
  | nil => intro b i; rfl
  | cons k r ih => intro b i; rw [flips, ih, flip1_length]
theorem divStep_length (b : List Bool) (i : Nat) : (divStep b i).length = b.length := by
  unfold divStep; split
  · exact flips_length _ _ _
  · rfl
theorem flip1_getD (b : List Bool) (p q : Nat) (hp : p < b.length) : (flip1 b p).getD q false = (b.getD q false ^^ decide (q = p)) := by
  unfold flip1
  by_cases h : q = p
  · subst h
    simp [List.getD, hp]
  · have h' : ¬ p = q := fun e => h e.symm
    simp [List.getD, List.getElem?_set_ne h', h]
theorem flips_getD (l : List Nat) (i q : Nat) : ∀ (b : List Bool), i + 32 < b.length → l.Nodup → (∀ k ∈ l, k ≤ 32) → (flips b i l).getD q false = (b.getD q false ^^ decide (i + 32 - q ∈ l ∧ i ≤ q ∧ q ≤ i + 32)) := by
  induction l with
  | nil => intro b _ _ _; simp [flips]
  | cons k r ih =>
    intro b hb hn hk
    have hk32 := hk k (by simp)
    obtain ⟨hn1, hn2⟩ := List.nodup_cons.1 hn
    rw [flips, ih _ (by rw [flip1_length]; exact hb) hn2 (fun x hx => hk x (by simp [hx])), flip1_getD _ _ _ (by omega)]
    by_cases h : q = i + 32 - k
    · subst h
      have e : i + 32 - (i + 32 - k) = k := by omega
      have h1 : i ≤ i + 32 - k := by omega
      rw [e]
      simp [hn1, h1]
    · have e : (i + 32 - q ∈ k :: r ∧ i ≤ q ∧ q ≤ i + 32) ↔ (i + 32 - q ∈ r ∧ i ≤ q ∧ q ≤ i + 32) := by
        constructor
        · rintro ⟨h1, h2, h3⟩
          rcases List.mem_cons.1 h1 with h1 | h1
          · omega
          · exact ⟨h1, h2, h3⟩
        · rintro ⟨h1, h2, h3⟩
          exact ⟨List.mem_cons_of_mem _ h1, h2, h3⟩
      have h' : decide (q = i + 32 - k) = false := decide_eq_false h
      rw [h', Bool.xor_false]
      exact congrArg (b.getD q false ^^ ·) (decide_eq_decide.2 e.symm)

/-- the register and the bits that are left belong together -/
structure CInv (l : List UInt8) (i lim : Nat) (r : BitVec 32) (b : List Bool) : Prop where
  len : b.length = 8 * l.length + 32
  reg : ∀ j, j < 32 → r.getLsbD j = (b.getD (i + j) false ^^ (decide (lim ≤ i + j) && mbit l (i + j)))
  rest : ∀ p, i + 32 ≤ p → b.getD p false = mbit l p

theorem poly_bit : ∀ j, j < 32 → poly.getLsbD j = decide (31 - j ∈ ks) := by decide

theorem CInv.step {l : List UInt8} {i lim : Nat} {r : BitVec 32} {b : List Bool} (h : CInv l i lim r b) (hi : i < 8 * l.length) (hl : i < lim) (hl2 : lim ≤ i + 32) : CInv l (i + 1) lim (step1 r) (divStep b i) := by
  have h0 : r.getLsbD 0 = b.getD i false := by
    rw [h.reg 0 (by decide)]
    have : decide (lim ≤ i + 0) = false := by simp; omega
    rw [this]; simp
  have hlen : i + 32 < b.length := by rw [h.len]; omega
  have key : ∀ q, (divStep b i).getD q false = (b.getD q false ^^ (b.getD i false && decide (i + 32 - q ∈ ks ∧ i ≤ q ∧ q ≤ i + 32))) := by
    intro q
    unfold divStep
    cases hb : b.getD i false with
    | false => simp
    | true =>
      rw [if_pos rfl, flips_getD ks i q b hlen (by decide) (by decide)]
      simp
  refine ⟨by rw [divStep_length]; exact h.len, ?_, ?_⟩
  · intro j hj
    have e1 : (step1 r).getLsbD j = (r.getLsbD (j + 1) ^^ (r.getLsbD 0 && poly.getLsbD j)) := by
      unfold step1
      rw [BitVec.getLsbD_xor, BitVec.getLsbD_ushiftRight, Nat.add_comm 1 j]
      cases r.getLsbD 0 <;> simp
    rw [e1, h0, key (i + 1 + j), poly_bit j hj]
    have e2 : decide (i + 32 - (i + 1 + j) ∈ ks ∧ i ≤ i + 1 + j ∧ i + 1 + j ≤ i + 32) = decide (31 - j ∈ ks) := by
      apply decide_eq_decide.2
      have : i + 32 - (i + 1 + j) = 31 - j := by omega
      rw [this]
      exact ⟨fun h => h.1, fun h => ⟨h, by omega, by omega⟩⟩
    rw [e2]
    by_cases hj2 : j = 31
    · subst hj2
      have : r.getLsbD 32 = false := by simp
      rw [this, h.rest (i + 1 + 31) (by omega)]
      have : decide (lim ≤ i + 1 + 31) = true := by simp; omega
      rw [this]
      cases b.getD i false <;> cases mbit l (i + 1 + 31) <;> simp
    · rw [h.reg (j + 1) (by omega)]
      have : i + (j + 1) = i + 1 + j := by omega
      rw [this]
      cases b.getD i false <;> cases b.getD (i + 1 + j) false <;> cases (decide (lim ≤ i + 1 + j) && mbit l (i + 1 + j)) <;> simp
  · intro p hp
    rw [key p, h.rest p (by omega)]
    have : decide (i + 32 - p ∈ ks ∧ i ≤ p ∧ p ≤ i + 32) = false := by simp; omega
    rw [this]; simp

theorem CInv.byte {l : List UInt8} {q : Nat} {r : BitVec 32} {b : List Bool} (h : CInv l (8 * q) (8 * q) r b) (hq : q < l.length) : CInv l (8 * q) (8 * q + 8) (inByte r l[q]) b := by
  refine ⟨h.len, ?_, h.rest⟩
  intro j hj
  unfold inByte
  rw [BitVec.getLsbD_xor, h.reg j hj, BitVec.getLsbD_setWidth]
  have h1 : decide (8 * q ≤ 8 * q + j) = true := by simp
  rw [h1]
  by_cases hj8 : j < 8
  · have h2 : decide (8 * q + 8 ≤ 8 * q + j) = false := by simp; omega
    have h3 : mbit l (8 * q + j) = l[q].toBitVec.getLsbD j := by
      unfold mbit
      have e1 : (8 * q + j) / 8 = q := by omega
      have e2 : (8 * q + j) % 8 = j := by omega
      rw [e1, e2]
      simp [List.getD, hq]
    rw [h2, h3]
    have : decide (j < 32) = true := by simp; omega
    rw [this]
    cases b.getD (8 * q + j) false <;> cases l[q].toBitVec.getLsbD j <;> rfl
  · have h2 : decide (8 * q + 8 ≤ 8 * q + j) = true := by simp; omega
    have h3 : l[q].toBitVec.getLsbD j = false := by
      apply BitVec.getLsbD_of_ge; omega
    rw [h2, h3]; simp

theorem CInv.many {l : List UInt8} {lim : Nat} (n : Nat) : ∀ {i : Nat} {r : BitVec 32} {b : List Bool}, CInv l i lim r b → i + n ≤ 8 * l.length → i + n = lim → n ≤ 32 → CInv l lim lim (steps r n) (divs b i n) := by
  induction n with
  | zero => intro i r b h _ h2 _; obtain rfl : i = lim := by omega
            exact h
  | succ n ih =>
    intro i r b h h1 h2 h3
    rw [steps, divs]
    exact ih (h.step (by omega) (by omega) (by omega)) (by omega) (by omega) (by omega)

theorem divs_add (n m : Nat) : ∀ (b : List Bool) (i : Nat), divs b i (n + m) = divs (divs b i n) (i + n) m := by
  induction n with
  | zero => intro b i; simp [divs]
  | succ n ih => intro b i; rw [Nat.add_right_comm, divs, divs, ih]; congr 1; omega

theorem CInv.all {l : List UInt8} (m : Nat) : ∀ {q : Nat} {r : BitVec 32} {b : List Bool}, CInv l (8 * q) (8 * q) r b → q + m = l.length → CInv l (8 * l.length) (8 * l.length) (crcL r (l.drop q)) (divs b (8 * q) (8 * m)) := by
  induction m with
  | zero => intro q r b h hq; obtain rfl : q = l.length := by omega
            rw [List.drop_length]; exact h
  | succ m ih =>
    intro q r b h hq
    have hlt : q < l.length := by omega
    rw [drop_cons l q hlt, crcL, Nat.mul_add, Nat.mul_one, Nat.add_comm (8 * m) 8, divs_add]
    have h2 := CInv.many 8 (h.byte hlt) (by omega) rfl (by omega)
    have e : 8 * q + 8 = 8 * (q + 1) := by omega
    rw [e] at h2 ⊢
    exact ih h2 (by omega)

/-- all bits of a text -/
def allBits (l : List UInt8) : List Bool := (List.range (8 * l.length)).map (mbit l)
/-- the first 32 bits are turned -/
def turnN (b : List Bool) : Nat → List Bool
  | 0 => b
  | n + 1 => flip1 (turnN b n) n
def divB (l : List UInt8) : List Bool := divs (turnN (allBits l ++ List.replicate 32 false) 32) 0 (8 * l.length)

theorem turnN_length (b : List Bool) (n : Nat) : (turnN b n).length = b.length := by
  induction n with
  | zero => rfl
  | succ n ih => rw [turnN, flip1_length, ih]
theorem turnN_getD (b : List Bool) (n q : Nat) (hn : n ≤ b.length) : (turnN b n).getD q false = (b.getD q false ^^ decide (q < n)) := by
  induction n with
  | zero => simp [turnN]
  | succ n ih =>
    rw [turnN, flip1_getD _ _ _ (by rw [turnN_length]; omega), ih (by omega)]
    by_cases h : q = n
    · subst h; simp
    · have : decide (q < n + 1) = decide (q < n) := decide_eq_decide.2 (by omega)
      simp [h, this]
theorem mbit_out (l : List UInt8) (p : Nat) (h : 8 * l.length ≤ p) : mbit l p = false := by
  unfold mbit
  have : l.length ≤ p / 8 := by omega
  simp [List.getD, this]
theorem all_getD (l : List UInt8) (p : Nat) : (allBits l ++ List.replicate 32 false).getD p false = mbit l p := by
  by_cases h : p < 8 * l.length
  · have hl : p < (allBits l).length := by simpa [allBits] using h
    rw [List.getD_eq_getElem?_getD, List.getElem?_append_left hl]
    simp [allBits, h]
  · rw [mbit_out l p (by omega), List.getD_eq_getElem?_getD, List.getElem?_append_right (by simp [allBits]; omega)]
    rw [List.getElem?_replicate]
    split <;> rfl

theorem crc_div (l : List UInt8) : ∀ j, j < 32 → (crcF l).getLsbD j = !((divB l).getD (8 * l.length + j) false) := by
  have h0 : CInv l 0 0 (BitVec.allOnes 32) (turnN (allBits l ++ List.replicate 32 false) 32) := by
    refine ⟨by rw [turnN_length]; simp [allBits], ?_, ?_⟩
    · intro j hj
      have e : (BitVec.allOnes 32).getLsbD j = true := by rw [BitVec.getLsbD_allOnes]; exact decide_eq_true hj
      rw [turnN_getD _ _ _ (by simp), all_getD, e, Nat.zero_add]
      simp [hj]
    · intro p hp
      rw [turnN_getD _ _ _ (by simp), all_getD]
      have : decide (p < 32) = false := by simp; omega
      rw [this]; simp
  have h1 := CInv.all l.length (q := 0) h0 (by omega)
  intro j hj
  have h2 := h1.reg j hj
  rw [mbit_out l _ (by omega)] at h2
  unfold crcF
  rw [List.drop_zero] at h2
  rw [BitVec.getLsbD_not, h2, decide_eq_true hj]
  unfold divB
  rw [Bool.and_false, Bool.xor_false, Bool.true_and]
theorem divB_length (l : List UInt8) : (divB l).length = 8 * l.length + 32 := by
  have : ∀ n b i, (divs b i n).length = b.length := by
    intro n
    induction n with
    | zero => intro b i; rfl
    | succ n ih => intro b i; rw [divs, ih, divStep_length]
  unfold divB
  rw [this, turnN_length]
  simp [allBits]

/-- the register out of the bits, the lowest first -/
def ofBits (n : BitVec 32) (k : Nat) : List Bool → BitVec 32
  | [] => n
  | b :: r => ofBits (if b then n else n ||| (1#32 <<< k)) (k + 1) r
theorem ofBits_get (l : List Bool) : ∀ (n : BitVec 32) (k j : Nat), j < 32 → (∀ i, k ≤ i → n.getLsbD i = false) → (ofBits n k l).getLsbD j = if j < k then n.getLsbD j else if j < k + l.length then !(l.getD (j - k) false) else false := by
  induction l with
  | nil =>
    intro n k j hj h
    rw [ofBits, List.length_nil, Nat.add_zero]
    by_cases h1 : j < k
    · rw [if_pos h1]
    · rw [if_neg h1, if_neg h1, h j (by omega)]
  | cons b r ih =>
    intro n k j hj h
    rw [ofBits, ih _ _ _ hj]
    · by_cases h1 : j < k
      · have : j < k + 1 := by omega
        rw [if_pos this, if_pos h1]
        cases b with
        | true => simp
        | false => simp [BitVec.getLsbD_or, BitVec.getLsbD_shiftLeft, h1]
      · rw [if_neg h1]
        by_cases h2 : j = k
        · subst h2
          have e0 := h j (Nat.le_refl _)
          have e1 : j < j + 1 := by omega
          have e2 : j < j + (b :: r).length := by simp
          rw [if_pos e1, if_pos e2, Nat.sub_self]
          cases b with
          | true => simpa using e0
          | false =>
            have e3 : (n ||| 1#32 <<< j).getLsbD j = true := by
              rw [BitVec.getLsbD_or, BitVec.getLsbD_shiftLeft, Nat.sub_self, e0]
              simp [hj]
            simpa using e3
        · rw [if_neg (by omega)]
          have e : j - k = (j - (k + 1)) + 1 := by omega
          rw [e]
          simp only [List.length_cons, List.getD_cons_succ]
          have e3 : (j < k + 1 + r.length) ↔ (j < k + (r.length + 1)) := by omega
          simp only [e3]
    · intro i hi
      cases b with
      | true => exact h i (by omega)
      | false =>
        simp only [Bool.false_eq_true, if_false, BitVec.getLsbD_or, h i (by omega), Bool.false_or]
        rw [BitVec.getLsbD_shiftLeft]
        have : (1#32).getLsbD (i - k) = false := by
          simp; omega
        simp [this]
theorem sum_law (l : List UInt8) : ofBits 0#32 0 ((divB l).drop (8 * l.length)) = crcF l := by
  apply BitVec.eq_of_getLsbD_eq
  intro j hj
  rw [ofBits_get _ _ _ _ hj (by simp), crc_div l j hj]
  have hl : ((divB l).drop (8 * l.length)).length = 32 := by rw [List.length_drop, divB_length]; omega
  rw [if_neg (by omega), if_pos (by omega), Nat.sub_zero]
  simp [List.getD]
end Go.Proofs.Ytpapblahnbeccaa
