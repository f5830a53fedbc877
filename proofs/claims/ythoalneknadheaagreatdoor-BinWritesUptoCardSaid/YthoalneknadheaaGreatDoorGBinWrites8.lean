/-
  INSTRUCTIONS, the reference's: digits, InsWidth, takes, beside. Conditions: the number is a byte; the variable of the library that strings.Contains reads holds some number.
-/
import Derived.Test.YthoalneknadheaaGreatDoorGBinWrites2
import Derived.Test.YthoalneknadheaaGreatDoorGBinWrites3
import Derived.Test.YthoalneknadheaaGreatDoorGBinWrites4
import Derived.Test.YthoalneknadheaaGreatDoorGBinWrites7
import Derived.IntWalk
import Derived.Deep.RegionHeld3
import Derived.Deep.AppendLies
import Derived.Deep.DrawnRows
import Derived.Deep.DeepCutAuto
namespace Go.Proofs.YthoalneknadheaaGreatDoor
open Go.RowKit Go.Lib

def decN : Nat → Nat → List UInt8
  | 0, n => [byteOf ((48 + n % 10 : Nat) : Int)]
  | f + 1, n => if n / 10 = 0 then [byteOf ((48 + n % 10 : Nat) : Int)] else decN f (n / 10) ++ [byteOf ((48 + n % 10 : Nat) : Int)]
theorem decN_len : ∀ (f n : Nat), (decN f n).length ≤ f + 1
  | 0, n => by simp [decN]
  | f + 1, n => by
    unfold decN
    split
    · simp
    · have := decN_len f (n / 10)
      simp
      omega

set_option maxRecDepth 100000 in
set_option maxHeartbeats 2000000 in
theorem digits_any (n : Nat) (hn : n < 9223372036854775808) (w : World) :
    Calls Tryz.prog 178 #[.int .i64 n] w fun e w' => e = .returned (.string (S (decN 20 n))) ∧ Below w.heap.size w w' := by
  have hpos : ¬ (n : Int) < 0 := by omega
  have hlt : (n : Int) < 18446744073709551616 := by omega
  have hp : n < 10 ^ 21 := by
    have : (9223372036854775808 : Nat) < 10 ^ 21 := by decide
    omega
  generalize hR : decN 20 n = R
  have HR := hid hR
  have HP := hid hp
  clear hR hp
  go_enter Tryz.func178, Tryz.ntmps178
  go_wp2_with fail
  go_loopw [3, 5] (fun u o wr => ∃ (m f : Nat) (out : List UInt8), f ≤ 20 ∧ u = .int .u64 m ∧ m < 18446744073709551616 ∧ Hid (m < 10 ^ (f + 1)) ∧ o = .string (S out) ∧ Hid (decN f m ++ out = R) ∧ out.length + f ≤ 20 ∧ Hid (Below w.heap.size w wr)) (fun u _ _ => (RowKit.intOf u).toNat)
  case atStart => exact ⟨n, 20, [], Nat.le_refl _, rfl, by omega, HP, rfl, hid (by rw [HR.out, List.append_nil]), by simp, hid (Below.refl _ _)⟩
  case round =>
    obtain ⟨m, f, out, hf, rfl, hm, hmp, rfl, hd, hlen, HB⟩ := hrel
    have hd2 : decN f m = if f = 0 ∨ m / 10 = 0 then [byteOf ((48 + m % 10 : Nat) : Int)] else decN (f - 1) (m / 10) ++ [byteOf ((48 + m % 10 : Nat) : Int)] := by
      cases f with
      | zero => rfl
      | succ f =>
        conv => lhs; unfold decN
        by_cases h0 : m / 10 = 0
        · rw [if_pos h0, if_pos (.inr h0)]
        · rw [if_neg h0, if_neg (by omega), Nat.add_sub_cancel]
    have hf0 : f = 0 → m / 10 = 0 := fun e => by
      have h1 := hmp.out
      rw [e, show (10 : Nat) ^ (0 + 1) = 10 from rfl] at h1
      omega
    have hp2 := hid (show 0 < f → m / 10 < 10 ^ (f - 1 + 1) from fun h => by
      have h1 := hmp.out
      rw [show f - 1 + 1 = f by omega]
      rw [Nat.pow_succ] at h1
      omega)
    obtain ⟨q, hq⟩ : ∃ q, q = 48 + m % 10 := ⟨_, rfl⟩
    obtain ⟨r, hr⟩ : ∃ r, r = m % 10 := ⟨_, rfl⟩
    obtain ⟨d, hdd⟩ : ∃ d, d = m / 10 := ⟨_, rfl⟩
    have c1 : (m : Int).tmod 10 = (r : Int) := by rw [hr, Int.ofNat_tmod]; rfl
    have c1' : (m : Int) % 10 = (r : Int) := by omega
    have c2 : (48 : Int) + (r : Int) = (q : Int) := by omega
    have c3 : (q : Int) < 18446744073709551616 := by omega
    have c4 : (m : Int).tdiv 10 = (d : Int) := by rw [hdd, Int.ofNat_tdiv]; rfl
    have c4' : (m : Int) / 10 = (d : Int) := by omega
    have c5 : q < 100 := by omega
    have HC := hid (fun w' => chr_any (q : Int) w')
    rw [← hq, ← hdd] at hd2
    rw [← hdd] at hf0 hp2
    have hdm : d < m ∨ d = 0 := by omega
    have hdl : d < 18446744073709551616 := by omega
    clear hq hr hdd
    have hS : (S [byteOf (q : Int)]).size = 1 := S_size _
    have hS2 : (S out).size = out.length := S_size _
    have hcat : ¬ 9223372036854775807 < (S [byteOf (q : Int)]).size + (S out).size := by omega
    have hSR := hid (S_append [byteOf (q : Int)] out)
    by_cases h0 : d = 0
    · subst h0
      have hend : byteOf (q : Int) :: out = R := by
        rw [← hd.out, hd2, if_pos (.inr rfl)]; rfl
      have HSR := hid (show S [byteOf (q : Int)] ++ S out = S R by rw [hSR.out, ← hend]; rfl)
      clear hend hd2 hf0 hSR hS hS2
      generalize S [byteOf (q : Int)] = C at *
      generalize S out = O at *
      go_wp2_with (go_at_call 34; refine (HC.out _).mono ?_; rintro r w1 ⟨rfl, hb1⟩; have B1 := hid (HB.out.trans (hb1.mono HB.out.size)); clear hb1)
      go_ret
      exact ⟨by show Ending.returned (.string (⟨#[]⟩ ++ (C ++ O))) = _; rw [HSR.out, ← S_nil, S_append]; rfl, B1.out⟩
    · have hf1 : 0 < f := by omega
      have hnext := hid (show decN (f - 1) d ++ (byteOf (q : Int) :: out) = R by
        rw [← hd.out, hd2, if_neg (by omega), List.append_assoc]; rfl)
      have hne : ((d : Int) == 0) = false := by simpa using h0
      have HSR := hid (show S [byteOf (q : Int)] ++ S out = S (byteOf (q : Int) :: out) from hSR.out)
      have HPN := hid (hp2.out hf1)
      clear hd2 hf0 hSR hS hS2 hp2
      generalize S [byteOf (q : Int)] = C at *
      generalize hO : S out = O at *
      clear hO
      go_wp2_with (go_at_call 34; refine (HC.out _).mono ?_; rintro r w1 ⟨rfl, hb1⟩; have B1 := hid (HB.out.trans (hb1.mono HB.out.size)); clear hb1)
      go_roundw
      case rel => exact ⟨d, f - 1, byteOf (q : Int) :: out, by omega, rfl, hdl, HPN, by rw [HSR.out], hnext, by rw [List.length_cons]; omega, B1⟩
      case measure => simp [RowKit.intOf]; omega

def wRow (i : Nat) : Nat × List UInt8 := match i with
  | 0 => (1, [44, 52, 52, 44, 52, 53, 44, 52, 56, 44, 52, 57, 44, 53, 56, 44, 54, 48, 44])
  | 1 => (2, [44, 52, 54, 44, 52, 55, 44, 53, 48, 44, 53, 49, 44, 53, 57, 44, 54, 49, 44])
  | 2 => (4, [44, 52, 48, 44, 53, 50, 44, 53, 51, 44, 53, 52, 44, 54, 50, 44])
  | _ => (8, [44, 52, 49, 44, 53, 53, 44])
def wSub (op : Nat) : List UInt8 := 44 :: (decN 20 op ++ [44])
theorem w_row : ∀ op : Fin 256, ∀ i : Fin 4, Lib.contains (wRow i.val).2 (wSub op.val) = decide (tW op.val = (wRow i.val).1) := by decide +kernel
theorem w_none : ∀ op : Fin 256, (tW op.val ≠ 1 ∧ tW op.val ≠ 2 ∧ tW op.val ≠ 4 ∧ tW op.val ≠ 8) → tW op.val = 0 := by decide +kernel
def MaxL (w : World) : Prop := ∃ m, w.cell? ⟨2, 0, none⟩ = some (.int .i64 m)
theorem MaxL.below {w w' : World} (h : MaxL w) (hb : Below w.heap.size w w') : MaxL w' := by
  obtain ⟨m, hm⟩ := h
  refine ⟨m, (hb.cell ?_).trans hm⟩
  rcases Nat.lt_or_ge 2 w.heap.size with h' | h'
  · exact h'
  · simp [World.cell?, Array.getElem?_eq_none h'] at hm
theorem contains_any (s sub : List UInt8) (w : World) (hs : s.length < 4294967281) (h : MaxL w) :
    Calls Tryz.prog 177 #[.string (S s), .string (S sub)] w fun e w' => e = .returned (.bool (Lib.contains s sub)) ∧ w = w' := by
  obtain ⟨m, hm⟩ := h
  refine (Tryz.strings_Contains (S s) (S sub) m w (by rw [S_size]; exact hs) hm).mono ?_
  rintro e w' ⟨rfl, rfl⟩
  rw [S_data, S_data]
  exact ⟨rfl, rfl⟩
theorem row_any (op : Nat) (hop : op < 256) (i : Nat) (hi : i < 4) (sub : ByteArray) (hsub : sub = S (wSub op)) (s : ByteArray) (hs : s = S (wRow i).2) (w : World) (h : MaxL w) :
    Calls Tryz.prog 177 #[.string s, .string sub] w fun e w' => e = .returned (.bool (decide (tW op = (wRow i).1))) ∧ w = w' := by
  subst hsub hs
  have := contains_any (wRow i).2 (wSub op) w (by rcases (by omega : i = 0 ∨ i = 1 ∨ i = 2 ∨ i = 3) with rfl | rfl | rfl | rfl <;> decide) h
  rw [w_row ⟨op, hop⟩ ⟨i, hi⟩] at this
  exact this


end Go.Proofs.YthoalneknadheaaGreatDoor
namespace Go.Proofs.YthoalneknadheaaGreatDoor
open Go.RowKit Go.Lib

theorem wp_any {P : Program} {T E : TypeId} {z : Value} {size bytes : Nat} (hE : Elem P T E z size bytes)
    {o : Oper} {a : Act} {K : Act → World → Prop} {Q : Exit → Act → World → Prop} {w : World} {base : Nat} {v u : Value} {n m : Nat} {xs news : List Value} (s x : Operand)
    (ho : o.op = .call { callee := .builtin .append, args := #[s, x], argTypes := #[T, T] })
    (hs : a.eval s = v) (hx : a.eval x = u) (hown : w.ownsRow base E size v n xs) (hu : Sl w u m news) (hl : news.length = m * size) (h1 : ∀ c ∈ news, c.oneCell' = true)
    (hlen : n + m ≤ 9223372036854775807) (hbytes : (n + m) * bytes ≤ 140737488355328) (hbase : base ≤ w.heap.size)
    (h : ∀ v' w', w'.ownsRow base E size v' (n + m) (xs ++ news) → Below base w w' → Grew w v w' v' → K (a.put o.dst v') w') : Oper.wp P o a w K Q := by
  obtain ⟨ht, hinfo, hz2, hpos⟩ := hE
  obtain ⟨i0, hi, hz0, hz1, hzb⟩ := info_parts hinfo
  obtain ⟨ao, cap, rfl, hmc, hcap, hnil, hcells⟩ := hu
  cases ao with
  | none =>
    have hc0 := hnil rfl
    obtain rfl : m = 0 := by omega
    subst hc0
    have hn0 : news = [] := by simpa using hl
    subst hn0
    have hr : ∀ ty, (Builtin.append_ #[T, T] ty #[v, .slice none 0 0]).run P w = .ok v w := by
      intro ty
      rcases id hown.2 with ⟨rfl, rfl⟩ | ⟨g, cap, cur, rfl, hbg, hg, hnc, hcm, hcs, htake⟩
      · simp [Builtin.append_, run_underlying ht, sizeOf, typeInfo, hi, Builtin.lenOf, Builtin.firstCells]
      · simp [Builtin.append_, run_underlying ht, sizeOf, typeInfo, hi, Builtin.lenOf, Builtin.firstCells, loadCells, hnc, storeCells]
    unfold Oper.wp execOp
    simp only [ho, resolve, invoke, builtin, Sem.run_bind, Sem.run_pure, Result.andThen_ok, List.map_toArray, List.map_cons, List.map_nil, hs, hx, hr]
    exact h v w (by simpa using hown) (Below.refl _ _) ⟨World.grownBy.refl _ _, .inl rfl⟩
  | some ad =>
    have hnews : ∀ j c, news[j]? = some c → w.cell? (ad.add j) = some c := by
      intro j c hj
      rcases hcells with rfl | ⟨b, off, hb, hat⟩
      · simp at hj
      · simp only [Option.some.injEq] at hb
        subst hb
        have hjl : j < news.length := by
          rcases Nat.lt_or_ge j news.length with h | h
          · exact h
          · simp [List.getElem?_eq_none h] at hj
        have hplain : (⟨b, off, none⟩ : Addr).add j = ⟨b, off + j, none⟩ := by unfold Addr.add; split <;> simp_all
        rw [hplain, hat j hjl, ← hj, List.getElem?_eq_getElem hjl]
    obtain ⟨v', w', hr, h2, h3⟩ := run_own_fresh (P := P) w base T o.type E i0 z size bytes ht hi hz0 hz1 hzb hz2 hpos v n xs hown ad m cap news hl hnews h1 (by unfold maxLen; omega) hbytes hbase
    unfold Oper.wp execOp
    simp only [ho, resolve, invoke, builtin, Sem.run_bind, Sem.run_pure, Result.andThen_ok, List.map_toArray, List.map_cons, List.map_nil, hs, hx, hr]
    exact h v' w' h2 ((Below.refl base w).grown h3.1 hbase (own_block hown)) h3

theorem step_any {P : Program} {T E : TypeId} {z : Value} {size bytes : Nat} (hE : Elem P T E z size bytes)
    {ops : Array Oper} {o : Oper} {a : Act} {K : Act → World → Prop} {Q : Exit → Act → World → Prop} {EE : Prop} {w : World} {base : Nat} {v u : Value} {n m : Nat} {xs news : List Value} (hgd : o.guard = none) (s x : Operand)
    (ho : o.op = .call { callee := .builtin .append, args := #[s, x], argTypes := #[T, T] })
    (hs : a.eval s = v) (hx : a.eval x = u) (hown : w.ownsRow base E size v n xs) (hu : Sl w u m news) (hl : news.length = m * size) (h1 : ∀ c ∈ news, c.oneCell' = true)
    (hlen : n + m ≤ 9223372036854775807) (hbytes : (n + m) * bytes ≤ 140737488355328) (hbase : base ≤ w.heap.size)
    (h : ∀ v' w', w'.ownsRow base E size v' (n + m) (xs ++ news) → Below base w w' → Grew w v w' v' → K (a.put o.dst v') w') : if Region.wanted o (yielded ops a.tmps) = true then Oper.wp P o a w K Q else EE := by
  have hw : Region.wanted o (yielded ops a.tmps) = true := by simp [Region.wanted, hgd]
  rw [if_pos hw]
  exact wp_any hE s x ho hs hx hown hu hl h1 hlen hbytes hbase h

theorem step_one {P : Program} {T E : TypeId} {z : Value} {size bytes : Nat} (hE : Elem P T E z size bytes)
    {ops : Array Oper} {o : Oper} {a : Act} {K : Act → World → Prop} {Q : Exit → Act → World → Prop} {EE : Prop} {w : World} {base : Nat} {v : Value} {n : Nat} {xs cs : List Value} (hgd : o.guard = none) (s x : Operand)
    (ho : o.op = .call { callee := .builtin .append, args := #[s, x], argTypes := #[T, T] })
    {mm : Nat} (hs : a.eval s = v) (hx : a.eval x = .slice (some ⟨mm, 0, none⟩) 1 1) (hat : At w mm 0 cs) (hown : w.ownsRow base E size v n xs) (hl : cs.length = size) (h1 : ∀ c ∈ cs, c.oneCell' = true)
    (hlen : n + 1 ≤ 9223372036854775807) (hbytes : (n + 1) * bytes ≤ 140737488355328) (hbase : base ≤ w.heap.size)
    (h : ∀ v' w', w'.ownsRow base E size v' (n + 1) (xs ++ cs) → Below base w w' → Grew w v w' v' → K (a.put o.dst v') w') : if Region.wanted o (yielded ops a.tmps) = true then Oper.wp P o a w K Q else EE :=
  step_any hE hgd s x ho hs hx hown ⟨_, _, rfl, Nat.le_refl _, by omega, by simp, .inr ⟨mm, 0, rfl, hat⟩⟩ (by omega) h1 hlen hbytes hbase h

theorem step_one1 {P : Program} {T E : TypeId} {z : Value} {size bytes : Nat} (hE : Elem P T E z size bytes)
    {ops : Array Oper} {o : Oper} {a : Act} {K : Act → World → Prop} {Q : Exit → Act → World → Prop} {EE : Prop} {w : World} {base : Nat} {v : Value} {n : Nat} {xs cs : List Value} (hgd : o.guard = none) (s x : Operand)
    (ho : o.op = .call { callee := .builtin .append, args := #[s, x], argTypes := #[T, T] })
    {mm : Nat} (hs : a.eval s = v) (hx : a.eval x = .slice (some ⟨mm, 0, none⟩) 1 1) (hmm : mm = w.heap.size) (hown : w.ownsRow base E size v n xs) (hl : cs.length = size) (h1 : ∀ c ∈ cs, c.oneCell' = true)
    (hlen : n + 1 ≤ 9223372036854775807) (hbytes : (n + 1) * bytes ≤ 140737488355328) (hbase : base ≤ w.heap.size)
    (h : ∀ v' w', w'.ownsRow base E size v' (n + 1) (xs ++ cs) → Below base w w' → Grew w v w' v' → K (a.put o.dst v') w') : if Region.wanted o (yielded ops a.tmps) = true then Oper.wp P o a (w.alloc (.cells cs.toArray E)) K Q else EE := by
  refine step_one hE hgd s x ho hs hx ?_ (hown.alloc _) hl h1 hlen hbytes (by simp; omega) ?_
  · subst hmm
    intro j hj
    rw [World.cell?_alloc_new]
    simp
  · intro v' w' g1 g2 g3
    obtain ⟨g3, g4⟩ := g3
    refine h v' w' g1 (((Below.refl base w).alloc hbase _).trans g2) ⟨⟨g3.os, g3.tape, g3.output, by have := g3.size; simp at this; omega, fun k hk hne => ?_⟩, ?_⟩
    · rw [g3.block k (by simp; omega) hne, Below.heap_alloc _ _ _ hk]
    · rcases g4 with g4 | ⟨k, g4, g5⟩
      · exact .inl g4
      · exact .inr ⟨k, g4, by simp at g5; omega⟩
theorem Grew.cell {w w' : World} {v v' : Value} (hg : Grew w v w' v') {a : Addr} {u : Value} (h : w.cell? a = some u) (hne : v.ownBlock ≠ some a.block) : w'.cell? a = some u :=
  (World.cell?_of_block (hg.1.block a.block (World.block_lt_of_cell? w a h) (Ne.symm hne))).trans h
theorem Grew.free {w w' : World} {v v' : Value} (hg : Grew w v w' v') {a : Addr} {u : Value} (h : w.cell? a = some u) (hne : v.ownBlock ≠ some a.block) (hf : w.frozen? a = false) : w'.frozen? a = false :=
  (World.frozen?_of_block (hg.1.block a.block (World.block_lt_of_cell? w a h) (Ne.symm hne))).trans hf
end Go.Proofs.YthoalneknadheaaGreatDoor
