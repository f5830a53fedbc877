/-
  HOW MANY BITS ARE SET, plain: the sum of neighbours, byte by byte, is the sum of the bits. No program.
-/
import Derived.Test.YtomaiolhaenmhaaDoorCnt
namespace Go.Proofs.YtomaiolhaenmhaaDoor
open Go.RowKit Go.Lib

theorem popAux_add : ∀ (f g x : Nat), popAux (f + g) x = popAux f (x % 2 ^ f) + popAux g (x / 2 ^ f)
  | 0, g, x => by simp [popAux]
  | f + 1, g, x => by
    rw [show f + 1 + g = (f + g) + 1 by omega]
    simp only [popAux]
    rw [popAux_add f g (x / 2)]
    have h1 : x % 2 ^ (f + 1) % 2 = x % 2 := Nat.mod_mod_of_dvd x ⟨2 ^ f, by rw [Nat.pow_succ, Nat.mul_comm]⟩
    have h2 : x % 2 ^ (f + 1) / 2 = x / 2 % 2 ^ f := by rw [Nat.pow_succ, Nat.mul_comm, Nat.mod_mul_right_div_self]
    have h3 : x / 2 / 2 ^ f = x / 2 ^ (f + 1) := by rw [Nat.div_div_eq_div_mul, Nat.pow_succ, Nat.mul_comm]
    rw [h1, h2, h3]
    omega
theorem popAux_zero : ∀ f, popAux f 0 = 0
  | 0 => rfl
  | f + 1 => by simp [popAux, popAux_zero f]
theorem popAux_le : ∀ (f x : Nat), popAux f x ≤ f
  | 0, _ => Nat.le_refl _
  | f + 1, x => by
    simp only [popAux]
    have := popAux_le f (x / 2)
    omega
def o1 (b : Nat) : Nat := (b / 2 &&& 85) + (b &&& 85)
def o2 (b : Nat) : Nat := (b / 4 &&& 51) + (b &&& 51)
def o3 (b : Nat) : Nat := (b / 16 + b) &&& 15
theorem o_all : ∀ b : Fin 256, o3 (o2 (o1 b.val)) = popAux 8 b.val ∧ o1 b.val < 256 ∧ o2 (o1 b.val) ≤ 68 ∧ o2 (o1 b.val) % 16 ≤ 4 := by decide +kernel
theorem o_low1 : ∀ t : Fin 512, t.val / 2 % 256 &&& 85 = t.val % 256 / 2 &&& 85 := by decide +kernel
theorem o_low2 : ∀ t : Fin 1024, t.val / 4 % 256 &&& 51 = t.val % 256 / 4 &&& 51 := by decide +kernel
theorem o_low3 : ∀ (t : Fin 5) (b : Fin 69), (16 * t.val + b.val / 16 + b.val) &&& 15 = (b.val / 16 + b.val) &&& 15 := by decide +kernel
def om (c : Nat) : Nat → Nat
  | 0 => 0
  | k + 1 => 256 * om c k + c
theorem and_split (x m c : Nat) (hc : c < 256) : x &&& (256 * m + c) = 256 * (x / 256 &&& m) + (x % 256 &&& c) := by
  have h1 : (x &&& (256 * m + c)) / 256 = x / 256 &&& m := by
    have := Nat.shiftRight_and_distrib (a := x) (b := 256 * m + c) (i := 8)
    rw [Nat.shiftRight_eq_div_pow, Nat.shiftRight_eq_div_pow, Nat.shiftRight_eq_div_pow] at this
    rw [show (256 : Nat) = 2 ^ 8 from rfl] at *
    rw [this]
    congr 1
    omega
  have h2 : (x &&& (256 * m + c)) % 256 = x % 256 &&& c := by
    have := Nat.and_mod_two_pow (a := x) (b := 256 * m + c) (n := 8)
    rw [show (2 : Nat) ^ 8 = 256 from rfl] at this
    rw [this]
    congr 1
    omega
  have := Nat.div_add_mod (x &&& (256 * m + c)) 256
  rw [h1, h2] at this
  exact this.symm
def t1 (k x : Nat) : Nat := (x / 2 &&& om 85 k) + (x &&& om 85 k)
def t2 (k x : Nat) : Nat := (x / 4 &&& om 51 k) + (x &&& om 51 k)
def t3 (k x : Nat) : Nat := (x / 16 + x) &&& om 15 k
theorem t1_step (k x : Nat) : t1 (k + 1) x = 256 * t1 k (x / 256) + o1 (x % 256) := by
  unfold t1 o1
  have h := o_low1 ⟨x % 512, Nat.mod_lt _ (by decide)⟩
  simp only at h
  have e1 : x % 512 / 2 % 256 = x / 2 % 256 := by omega
  have e2 : x % 512 % 256 = x % 256 := by omega
  rw [e1, e2] at h
  simp only [om]
  rw [and_split _ _ _ (by decide), and_split _ _ _ (by decide), h, show x / 2 / 256 = x / 256 / 2 by omega]
  omega
theorem t2_step (k x : Nat) : t2 (k + 1) x = 256 * t2 k (x / 256) + o2 (x % 256) := by
  unfold t2 o2
  have h := o_low2 ⟨x % 1024, Nat.mod_lt _ (by decide)⟩
  simp only at h
  have e1 : x % 1024 / 4 % 256 = x / 4 % 256 := by omega
  have e2 : x % 1024 % 256 = x % 256 := by omega
  rw [e1, e2] at h
  simp only [om]
  rw [and_split _ _ _ (by decide), and_split _ _ _ (by decide), h, show x / 4 / 256 = x / 256 / 4 by omega]
  omega
theorem t3_step (k y b : Nat) (hy : y % 16 ≤ 4) (hb : b ≤ 68) : t3 (k + 1) (256 * y + b) = 256 * t3 k y + o3 b := by
  unfold t3 o3
  have h := o_low3 ⟨y % 16, by omega⟩ ⟨b, by omega⟩
  simp only at h
  simp only [om]
  rw [and_split _ _ _ (by decide)]
  have e1 : ((256 * y + b) / 16 + (256 * y + b)) / 256 = y / 16 + y := by omega
  have e2 : ((256 * y + b) / 16 + (256 * y + b)) % 256 = 16 * (y % 16) + b / 16 + b := by omega
  rw [e1, e2, h]
theorem t_inv : ∀ (k x : Nat), t2 k (t1 k x) % 16 ≤ 4
  | 0, x => by simp [t2, om]
  | k + 1, x => by
    have h := o_all ⟨x % 256, Nat.mod_lt _ (by decide)⟩
    simp only at h
    rw [t1_step, t2_step]
    have e1 : (256 * t1 k (x / 256) + o1 (x % 256)) / 256 = t1 k (x / 256) := by omega
    have e2 : (256 * t1 k (x / 256) + o1 (x % 256)) % 256 = o1 (x % 256) := by omega
    rw [e1, e2]
    omega
theorem t_step (k x : Nat) : t3 (k + 1) (t2 (k + 1) (t1 (k + 1) x)) = 256 * t3 k (t2 k (t1 k (x / 256))) + popAux 8 (x % 256) := by
  have h := o_all ⟨x % 256, Nat.mod_lt _ (by decide)⟩
  simp only at h
  rw [t1_step, t2_step]
  have e1 : (256 * t1 k (x / 256) + o1 (x % 256)) / 256 = t1 k (x / 256) := by omega
  have e2 : (256 * t1 k (x / 256) + o1 (x % 256)) % 256 = o1 (x % 256) := by omega
  rw [e1, e2, t3_step k _ _ (t_inv k _) h.2.2.1, h.1]
theorem t_zero (x : Nat) : t3 0 (t2 0 (t1 0 x)) = 0 := by simp [t3, om]
/-- the last three sums -/
theorem ones_end (x : Nat) (hx : x < 18446744073709551616) (z : Nat) (hz : z = t3 8 (t2 8 (t1 8 x))) (a b c : Nat) (ha : a = z + z / 256) (hb : b = a + a / 65536) (hc : c = b + b / 4294967296) :
    a < 18446744073709551616 ∧ b < 18446744073709551616 ∧ c < 18446744073709551616 ∧ c % 128 = popAux 64 x := by
  rw [t_step, t_step, t_step, t_step, t_step, t_step, t_step, t_step, t_zero] at hz
  have h := popAux_add 8 56 x
  rw [popAux_add 8 48 (x / 2 ^ 8), popAux_add 8 40 (x / 2 ^ 8 / 2 ^ 8), popAux_add 8 32 (x / 2 ^ 8 / 2 ^ 8 / 2 ^ 8), popAux_add 8 24 (x / 2 ^ 8 / 2 ^ 8 / 2 ^ 8 / 2 ^ 8), popAux_add 8 16 (x / 2 ^ 8 / 2 ^ 8 / 2 ^ 8 / 2 ^ 8 / 2 ^ 8), popAux_add 8 8 (x / 2 ^ 8 / 2 ^ 8 / 2 ^ 8 / 2 ^ 8 / 2 ^ 8 / 2 ^ 8)] at h
  have e : x / 2 ^ 8 / 2 ^ 8 / 2 ^ 8 / 2 ^ 8 / 2 ^ 8 / 2 ^ 8 / 2 ^ 8 = x / 2 ^ 8 / 2 ^ 8 / 2 ^ 8 / 2 ^ 8 / 2 ^ 8 / 2 ^ 8 / 2 ^ 8 % 2 ^ 8 := by simp only [Nat.reducePow]; omega
  rw [e] at h
  simp only [Nat.reducePow, Nat.reduceAdd] at h
  rw [h]
  have l0 := popAux_le 8 (x % 256)
  have l1 := popAux_le 8 (x / 256 % 256)
  have l2 := popAux_le 8 (x / 256 / 256 % 256)
  have l3 := popAux_le 8 (x / 256 / 256 / 256 % 256)
  have l4 := popAux_le 8 (x / 256 / 256 / 256 / 256 % 256)
  have l5 := popAux_le 8 (x / 256 / 256 / 256 / 256 / 256 % 256)
  have l6 := popAux_le 8 (x / 256 / 256 / 256 / 256 / 256 / 256 % 256)
  have l7 := popAux_le 8 (x / 256 / 256 / 256 / 256 / 256 / 256 / 256 % 256)
  clear h e
  generalize popAux 8 (x % 256) = p0 at *
  generalize popAux 8 (x / 256 % 256) = p1 at *
  generalize popAux 8 (x / 256 / 256 % 256) = p2 at *
  generalize popAux 8 (x / 256 / 256 / 256 % 256) = p3 at *
  generalize popAux 8 (x / 256 / 256 / 256 / 256 % 256) = p4 at *
  generalize popAux 8 (x / 256 / 256 / 256 / 256 / 256 % 256) = p5 at *
  generalize popAux 8 (x / 256 / 256 / 256 / 256 / 256 / 256 % 256) = p6 at *
  generalize popAux 8 (x / 256 / 256 / 256 / 256 / 256 / 256 / 256 % 256) = p7 at *
  clear hx
  have z1 : z / 256 = p1 + 256 * p2 + 65536 * p3 + 16777216 * p4 + 4294967296 * p5 + 1099511627776 * p6 + 281474976710656 * p7 := by omega
  rw [z1] at ha
  have a1 : a / 65536 = (p2 + p3) + 256 * (p3 + p4) + 65536 * (p4 + p5) + 16777216 * (p5 + p6) + 4294967296 * (p6 + p7) + 1099511627776 * p7 := by clear z1 hb hc; omega
  rw [a1] at hb
  have b1 : b / 4294967296 = (p4 + p5 + p6 + p7) + 256 * (p5 + p6 + p7) + 65536 * (p6 + p7) + 16777216 * p7 := by clear z1 a1 hc; omega
  rw [b1] at hc
  clear z1 a1 b1
  omega
/-- of 32 bits: four bytes -/
theorem ones_four (x : Nat) (hx : x < 4294967296) : onesCount x = popAux 8 (x / 16777216) + popAux 8 (x / 65536 % 256) + popAux 8 (x / 256 % 256) + popAux 8 (x % 256) ∧ onesCount x = popAux 32 x := by
  have hx32 : x < 2 ^ 32 := by omega
  have h0 : popAux 64 x = popAux 32 x := by
    have h1 := popAux_add 32 32 x
    rw [show (32 : Nat) + 32 = 64 from rfl] at h1
    rw [h1, Nat.div_eq_of_lt hx32, Nat.mod_eq_of_lt hx32, popAux_zero, Nat.add_zero]
  refine ⟨?_, h0⟩
  unfold onesCount
  rw [h0]
  have h := popAux_add 8 24 x
  rw [popAux_add 8 16 (x / 2 ^ 8), popAux_add 8 8 (x / 2 ^ 8 / 2 ^ 8)] at h
  simp only [Nat.reducePow, Nat.reduceAdd] at h
  rw [h, show x / 256 / 256 / 256 = x / 16777216 by omega, show x / 256 / 256 = x / 65536 by omega]
  omega
theorem ones_byte (b : Nat) (hb : b < 256) : onesCount b = popAux 8 b := by
  have hb8 : b < 2 ^ 8 := by omega
  unfold onesCount
  rw [show (64 : Nat) = 8 + 56 from rfl, popAux_add 8 56 b, Nat.div_eq_of_lt hb8, Nat.mod_eq_of_lt hb8, popAux_zero, Nat.add_zero]
end Go.Proofs.YtomaiolhaenmhaaDoor
