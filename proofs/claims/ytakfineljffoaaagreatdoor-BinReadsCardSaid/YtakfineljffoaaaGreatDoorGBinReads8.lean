/-
  DERIVED: THE SHELF's CONTRACTS AT THIS DUMP, IN PLAIN WORDS (tools/lay-plain.mjs out of 'YtakfineljffoaaaGreatDoorShelf.lean', which tools/lay-shelf.mjs wrote): THE SAME DECLARATIONS UNDER THE SAME NAMES: 'import', 'namespace', 'open', 'def', 'theorem' AND NOTHING ELSE: no command of the shelf's: FOR A HAND-IN. Each laying: the table of numbers ('.._ren') and one theorem, a field a fact of the dump's own or the kernel's comparison; each contract: ONE APPLICATION.
-/
import Derived.Test.YtakfineljffoaaaGreatDoorGBinReads3
import Derived.Test.YtakfineljffoaaaGreatDoorGBinReads6
import Derived.Test.YtakfineljffoaaaGreatDoorGBinReads7
import Derived.Shelf.Strings.Search3
import Derived.Shelf.Strings.IndexAnyAll
import Derived.Shelf.Unicode.ValidAny
import Derived.Ground.NamesProg
import Derived.Test.YtakfineljffoaaaGreatDoorProg
import Derived.IntWalk
import Derived.Deep.RegionHeld3
namespace Go.Proofs
open Go.Shelf
def Tryz.lays144_ren : Go.Shelf.Ren := ⟨fun | 144 => 168 | 143 => 174 | 219 => 180 | 217 => 181 | 225 => 179 | 224 => 178 | 267 => 182 | 266 => 183 | 314 => 184 | n => n, fun | 9 => 9 | 4 => 4 | 3 => 3 | 5 => 5 | 46 => 206 | 146 => 233 | 51 => 181 | n => n, fun | 1 => 4 | n => n⟩
theorem Tryz.lays144 : Go.Proofs.Lays.n144 Tryz.prog Tryz.lays144_ren := {
  mixed := by kernel_rfl
  f143 := Tryz.func174.trans (congrArg some (by kernel_rfl))
  f144 := Tryz.func168.trans (congrArg some (by kernel_rfl))
  f217 := Tryz.func181.trans (congrArg some (by kernel_rfl))
  f219 := Tryz.func180.trans (congrArg some (by kernel_rfl))
  f224 := Tryz.func178.trans (congrArg some (by kernel_rfl))
  f225 := Tryz.func179.trans (congrArg some (by kernel_rfl))
  f266 := Tryz.func183.trans (congrArg some (by kernel_rfl))
  f267 := Tryz.func182.trans (congrArg some (by kernel_rfl))
  f314 := Tryz.func184.trans (congrArg some (by kernel_rfl))
  t3 := Tryz.underlying3
  a3 := Tryz.isAgg3
  z3 := Tryz.sizeOf3
  v3 := Tryz.zeroValue3
  t4 := Tryz.underlying4
  a4 := Tryz.isAgg4
  z4 := Tryz.sizeOf4
  v4 := Tryz.zeroValue4
  t5 := Tryz.underlying5
  a5 := Tryz.isAgg5
  z5 := Tryz.sizeOf5
  v5 := Tryz.zeroValue5
  t9 := Tryz.underlying9
  a9 := Tryz.isAgg9
  z9 := Tryz.sizeOf9
  v9 := Tryz.zeroValue9
  t46 := Tryz.underlying206
  a46 := Tryz.isAgg206
  z46 := Tryz.sizeOf206
  v46 := Tryz.zeroValue206
  t51 := Tryz.underlying181
  a51 := Tryz.isAgg181
  z51 := Tryz.sizeOf181
  v51 := Tryz.zeroValue181
  t146 := Tryz.underlying233
  a146 := Tryz.isAgg233
  z146 := Tryz.sizeOf233
  v146 := Tryz.zeroValue233
  g1 := by kernel_rfl }
open Go.RowKit Go.Lib in
/-- strings.Contains: "Contains reports whether substr is within s.": IT RETURNS 'Lib.contains s substr'; the world is as it was. (LAID: no walk: one application.) -/
theorem Tryz.strings_Contains (s sub : ByteArray) (m : Int) (w : World) (hs : s.size < 4294967281) (hm : w.cell? ⟨4, 0, none⟩ = some (.int .i64 m)) :
    Calls Tryz.prog 168 #[.string s, .string sub] w fun e w' => e = .returned (.bool (Lib.contains s.data.toList sub.data.toList)) ∧ w' = w := Any.strings_Contains Tryz.lays144 s sub m w hs hm
def Tryz.lays150_ren : Go.Shelf.Ren := ⟨fun | 150 => 161 | 153 => 167 | 152 => 170 | 226 => 171 | 227 => 172 | 228 => 173 | 137 => 176 | 119 => 177 | 224 => 178 | 225 => 179 | 217 => 181 | 266 => 183 | n => n, fun | 9 => 9 | 4 => 4 | 3 => 3 | 5 => 5 | 21 => 21 | 117 => 226 | 116 => 225 | 0 => 0 | 46 => 206 | 124 => 232 | n => n, fun | n => n⟩
theorem Tryz.lays150 : Go.Proofs.Lays.n150 Tryz.prog Tryz.lays150_ren := {
  mixed := by kernel_rfl
  f119 := Tryz.func177.trans (congrArg some (by kernel_rfl))
  f137 := Tryz.func176.trans (congrArg some (by kernel_rfl))
  f150 := Tryz.func161.trans (congrArg some (by kernel_rfl))
  f152 := Tryz.func170.trans (congrArg some (by kernel_rfl))
  f153 := Tryz.func167.trans (congrArg some (by kernel_rfl))
  f217 := Tryz.func181.trans (congrArg some (by kernel_rfl))
  f224 := Tryz.func178.trans (congrArg some (by kernel_rfl))
  f225 := Tryz.func179.trans (congrArg some (by kernel_rfl))
  f226 := Tryz.func171.trans (congrArg some (by kernel_rfl))
  f227 := Tryz.func172.trans (congrArg some (by kernel_rfl))
  f228 := Tryz.func173.trans (congrArg some (by kernel_rfl))
  f266 := Tryz.func183.trans (congrArg some (by kernel_rfl))
  t0 := Tryz.underlying0
  a0 := Tryz.isAgg0
  z0 := Tryz.sizeOf0
  v0 := Tryz.zeroValue0
  t3 := Tryz.underlying3
  a3 := Tryz.isAgg3
  z3 := Tryz.sizeOf3
  v3 := Tryz.zeroValue3
  t4 := Tryz.underlying4
  a4 := Tryz.isAgg4
  z4 := Tryz.sizeOf4
  v4 := Tryz.zeroValue4
  t5 := Tryz.underlying5
  a5 := Tryz.isAgg5
  z5 := Tryz.sizeOf5
  v5 := Tryz.zeroValue5
  t9 := Tryz.underlying9
  a9 := Tryz.isAgg9
  z9 := Tryz.sizeOf9
  v9 := Tryz.zeroValue9
  t21 := Tryz.underlying21
  a21 := Tryz.isAgg21
  z21 := Tryz.sizeOf21
  v21 := Tryz.zeroValue21
  t46 := Tryz.underlying206
  a46 := Tryz.isAgg206
  z46 := Tryz.sizeOf206
  v46 := Tryz.zeroValue206
  t116 := Tryz.underlying225
  a116 := Tryz.isAgg225
  z116 := Tryz.sizeOf225
  t117 := Tryz.underlying226
  a117 := Tryz.isAgg226
  z117 := Tryz.sizeOf226
  v117 := Tryz.zeroValue226
  t124 := Tryz.underlying232
  a124 := Tryz.isAgg232
  z124 := Tryz.sizeOf232
  v124 := Tryz.zeroValue232 }
open Go.RowKit Go.Lib in
theorem Tryz.strings_ContainsAny_laid (s chars : ByteArray) (w : World) (hs : s.size < 4294967281) (hcs : chars.size < 4294967281) (has : ∀ (j : Nat) b, s.data.toList[j]? = some b → b.toNat < 128) (hac : ∀ (j : Nat) b, chars.data.toList[j]? = some b → b.toNat < 128) :
    Calls Tryz.prog 161 #[.string s, .string chars] w fun e w' => e = .returned (.bool (Lib.containsAny s.data.toList chars.data.toList)) ∧ Below w.heap.size w w' := Any.strings_ContainsAny_laid Tryz.lays150 (by kernel_rfl) s chars w hs hcs has hac
def Tryz.laysValid_ren : Go.Shelf.Ren := ⟨fun | 196 => 116 | 259 => 150 | n => n, fun | 9 => 9 | 4 => 4 | 3 => 3 | 5 => 5 | 12 => 12 | 119 => 202 | 0 => 0 | 46 => 206 | 139 => 205 | 138 => 204 | 53 => 139 | n => n, fun | 3 => 0 | 4 => 1 | n => n⟩
theorem Tryz.laysValid : Go.Proofs.Lays.n196 Tryz.prog Tryz.laysValid_ren := {
  mixed := by kernel_rfl
  f196 := Tryz.func116.trans (congrArg some (by kernel_rfl))
  f259 := Tryz.func150.trans (congrArg some (by kernel_rfl))
  t0 := Tryz.underlying0
  a0 := Tryz.isAgg0
  z0 := Tryz.sizeOf0
  v0 := Tryz.zeroValue0
  t3 := Tryz.underlying3
  a3 := Tryz.isAgg3
  z3 := Tryz.sizeOf3
  v3 := Tryz.zeroValue3
  t4 := Tryz.underlying4
  a4 := Tryz.isAgg4
  z4 := Tryz.sizeOf4
  v4 := Tryz.zeroValue4
  t5 := Tryz.underlying5
  a5 := Tryz.isAgg5
  z5 := Tryz.sizeOf5
  v5 := Tryz.zeroValue5
  t9 := Tryz.underlying9
  a9 := Tryz.isAgg9
  z9 := Tryz.sizeOf9
  v9 := Tryz.zeroValue9
  t12 := Tryz.underlying12
  a12 := Tryz.isAgg12
  z12 := Tryz.sizeOf12
  v12 := Tryz.zeroValue12
  t46 := Tryz.underlying206
  a46 := Tryz.isAgg206
  z46 := Tryz.sizeOf206
  v46 := Tryz.zeroValue206
  t53 := Tryz.underlying139
  a53 := Tryz.isAgg139
  z53 := Tryz.sizeOf139
  v53 := Tryz.zeroValue139
  t119 := Tryz.underlying202
  a119 := Tryz.isAgg202
  z119 := Tryz.sizeOf202
  t138 := Tryz.underlying204
  a138 := Tryz.isAgg204
  z138 := Tryz.sizeOf204
  v138 := Tryz.zeroValue204
  t139 := Tryz.underlying205
  a139 := Tryz.isAgg205
  z139 := Tryz.sizeOf205
  v139 := Tryz.zeroValue205
  g3 := by kernel_rfl
  g4 := by kernel_rfl }
end Go.Proofs
namespace Go.Proofs.YtakfineljffoaaaGreatDoor
open Go.RowKit Go.Lib

/-- blocks of every type but one stay -/
def KT (bad : TypeId) (w w' : World) : Prop := w.heap.size ≤ w'.heap.size ∧ ∀ (k : Nat) (cs : Array Value) (ty : TypeId) (fr : Nat × Nat), (ty == bad) = false → w.heap[k]? = some (.cells cs ty fr) → w'.heap[k]? = w.heap[k]?
theorem KT.blk {bad ty : TypeId} {w w' : World} {b : Nat} {cs : List Value} (h : KT bad w w') (hb : Blk w b ty cs) (ht : (ty == bad) = false) : Blk w' b ty cs := hb.same (h.2 b _ ty _ ht hb)
theorem KT.own {bad E : TypeId} {w w' : World} {base size n : Nat} {v : Value} {cs : List Value} (h : KT bad w w') (ho : w.ownsRow base E size v n cs) (ht : (E == bad) = false) : w'.ownsRow base E size v n cs := by
  refine own_same ho (fun k hk => ?_)
  rcases ho.2 with ⟨e, _⟩ | ⟨g, cap, cur, e, _, hh, _⟩
  · rw [e] at hk; simp [Value.ownBlock] at hk
  · rw [e] at hk
    simp only [Value.ownBlock, Option.some.injEq] at hk
    subst hk
    exact h.2 g _ E _ ht hh
theorem KT.touch {w w' : World} {B : Nat} {bad : TypeId} {cs : List Value} (h : Blk w B bad cs) (ht : Touch (fun k => k = B) w w') : KT bad w w' := by
  refine ⟨ht.size, fun k cs' ty fr hne hk => ht.block k (lt_of_block hk) (fun e => ?_)⟩
  subst e
  unfold Blk at h
  rw [h] at hk
  simp only [Option.some.injEq, Obj.cells.injEq] at hk
  rw [hk.2.1] at hne
  simp at hne
theorem KT.below {w w' : World} {bad : TypeId} (h : Below w.heap.size w w') : KT bad w w' := ⟨h.size, fun k _ _ _ _ hk => h.block k (lt_of_block hk)⟩
theorem KT.trans {w1 w2 w3 : World} {bad : TypeId} (h : KT bad w1 w2) (g : KT bad w2 w3) : KT bad w1 w3 :=
  ⟨Nat.le_trans h.1 g.1, fun k cs ty fr hne hk => by
    have e := h.2 k cs ty fr hne hk
    exact (g.2 k cs ty fr hne (e.trans hk)).trans e⟩
theorem KT.grown {w w' : World} {bad : TypeId} {base size n : Nat} {v : Value} {cs : List Value} (hg : w.grownBy w' v.ownBlock) (ho : w.ownsRow base bad size v n cs) : KT bad w w' := by
  refine ⟨hg.size, fun k cs' ty fr hne hk => hg.block k (lt_of_block hk) (fun e => ?_)⟩
  rcases ho.2 with ⟨e2, _⟩ | ⟨g, cap, cur, e2, _, hh, _⟩
  · rw [e2] at e; simp [Value.ownBlock] at e
  · rw [e2] at e
    simp only [Value.ownBlock, Option.some.injEq] at e
    subst e
    rw [hh] at hk
    simp only [Option.some.injEq, Obj.cells.injEq] at hk
    rw [hk.2.1] at hne
    simp at hne

theorem KT.set {w : World} {B i : Nat} {bad : TypeId} {cs : List Value} (h : Blk w B bad cs) (v : Value) : KT bad w (w.setCell ⟨B, i, none⟩ v) := KT.touch h (Touch.setCell (F := fun k => k = B) (a := ⟨B, i, none⟩) rfl v)
theorem KT.drewn {w w' : World} {bad : TypeId} (h : KT bad w w') (n : Nat) : KT bad w (w'.drewN n) := h
theorem own_mono' {w : World} {b c : Nat} {e : TypeId} {size : Nat} {v : Value} {n : Nat} {cs : List Value} (h : w.ownsRow c e size v n cs) (hb : b ≤ c) : w.ownsRow b e size v n cs := by
  obtain ⟨h1, h2⟩ := h
  refine ⟨h1, ?_⟩
  rcases h2 with h2 | ⟨g, cap, cur, hv, hg, r⟩
  · exact .inl h2
  · exact .inr ⟨g, cap, cur, hv, Nat.le_trans hb hg, r⟩

end Go.Proofs.YtakfineljffoaaaGreatDoor
namespace Go.Proofs.YtakfineljffoaaaGreatDoor
open Go.RowKit Go.Lib

/-- the digits of a number (f: how many more there may be) -/
def decN : Nat → Nat → List UInt8
  | 0, n => [byteOf ((48 + n % 10 : Nat) : Int)]
  | f + 1, n => if n / 10 = 0 then [byteOf ((48 + n % 10 : Nat) : Int)] else decN f (n / 10) ++ [byteOf ((48 + n % 10 : Nat) : Int)]
theorem decN_len : ∀ (f n : Nat), (decN f n).length ≤ f + 1
  | 0, n => by simp [decN]
  | f + 1, n => by
    unfold decN
    split
    · simp
    · have := decN_len f (n / 10)
      simp
      omega

set_option maxRecDepth 100000 in
set_option maxHeartbeats 2000000 in
theorem digits_any (n : Nat) (hn : n < 9223372036854775808) (w : World) :
    Calls Tryz.prog 169 #[.int .i64 n] w fun e w' => e = .returned (.string (S (decN 20 n))) ∧ Below w.heap.size w w' := by
  have hpos : ¬ (n : Int) < 0 := by omega
  have hlt : (n : Int) < 18446744073709551616 := by omega
  have hp : n < 10 ^ 21 := by
    have : (9223372036854775808 : Nat) < 10 ^ 21 := by decide
    omega
  generalize hR : decN 20 n = R
  have HR := hid hR
  have HP := hid hp
  clear hR hp
  go_enter Tryz.func169, Tryz.ntmps169
  go_wp2_with fail
  go_loopw [3, 5] (fun u o wr => ∃ (m f : Nat) (out : List UInt8), f ≤ 20 ∧ u = .int .u64 m ∧ m < 18446744073709551616 ∧ Hid (m < 10 ^ (f + 1)) ∧ o = .string (S out) ∧ Hid (decN f m ++ out = R) ∧ out.length + f ≤ 20 ∧ Hid (Below w.heap.size w wr)) (fun u _ _ => (RowKit.intOf u).toNat)
  case atStart => exact ⟨n, 20, [], Nat.le_refl _, rfl, by omega, HP, rfl, hid (by rw [HR.out, List.append_nil]), by simp, hid (Below.refl _ _)⟩
  case round =>
    obtain ⟨m, f, out, hf, rfl, hm, hmp, rfl, hd, hlen, HB⟩ := hrel
    have hd2 : decN f m = if f = 0 ∨ m / 10 = 0 then [byteOf ((48 + m % 10 : Nat) : Int)] else decN (f - 1) (m / 10) ++ [byteOf ((48 + m % 10 : Nat) : Int)] := by
      cases f with
      | zero => rfl
      | succ f =>
        conv => lhs; unfold decN
        by_cases h0 : m / 10 = 0
        · rw [if_pos h0, if_pos (.inr h0)]
        · rw [if_neg h0, if_neg (by omega), Nat.add_sub_cancel]
    have hf0 : f = 0 → m / 10 = 0 := fun e => by
      have h1 := hmp.out
      rw [e, show (10 : Nat) ^ (0 + 1) = 10 from rfl] at h1
      omega
    have hp2 := hid (show 0 < f → m / 10 < 10 ^ (f - 1 + 1) from fun h => by
      have h1 := hmp.out
      rw [show f - 1 + 1 = f by omega]
      rw [Nat.pow_succ] at h1
      omega)
    obtain ⟨q, hq⟩ : ∃ q, q = 48 + m % 10 := ⟨_, rfl⟩
    obtain ⟨r, hr⟩ : ∃ r, r = m % 10 := ⟨_, rfl⟩
    obtain ⟨d, hdd⟩ : ∃ d, d = m / 10 := ⟨_, rfl⟩
    have c1 : (m : Int).tmod 10 = (r : Int) := by rw [hr, Int.ofNat_tmod]; rfl
    have c1' : (m : Int) % 10 = (r : Int) := by omega
    have c2 : (48 : Int) + (r : Int) = (q : Int) := by omega
    have c3 : (q : Int) < 18446744073709551616 := by omega
    have c4 : (m : Int).tdiv 10 = (d : Int) := by rw [hdd, Int.ofNat_tdiv]; rfl
    have c4' : (m : Int) / 10 = (d : Int) := by omega
    have c5 : q < 100 := by omega
    have HC := hid (fun w' => chr_any (q : Int) w')
    rw [← hq, ← hdd] at hd2
    rw [← hdd] at hf0 hp2
    have hdm : d < m ∨ d = 0 := by omega
    have hdl : d < 18446744073709551616 := by omega
    clear hq hr hdd
    have hS : (S [byteOf (q : Int)]).size = 1 := S_size _
    have hS2 : (S out).size = out.length := S_size _
    have hcat : ¬ 9223372036854775807 < (S [byteOf (q : Int)]).size + (S out).size := by omega
    have hSR := hid (S_append [byteOf (q : Int)] out)
    by_cases h0 : d = 0
    · subst h0
      have hend : byteOf (q : Int) :: out = R := by
        rw [← hd.out, hd2, if_pos (.inr rfl)]; rfl
      have HSR := hid (show S [byteOf (q : Int)] ++ S out = S R by rw [hSR.out, ← hend]; rfl)
      clear hend hd2 hf0 hSR hS hS2
      generalize S [byteOf (q : Int)] = C at *
      generalize S out = O at *
      go_wp2_with (go_at_call 175; refine (HC.out _).mono ?_; rintro r w1 ⟨rfl, hb1⟩; have B1 := hid (HB.out.trans (hb1.mono HB.out.size)); clear hb1)
      go_ret
      exact ⟨by show Ending.returned (.string (⟨#[]⟩ ++ (C ++ O))) = _; rw [HSR.out, ← S_nil, S_append]; rfl, B1.out⟩
    · have hf1 : 0 < f := by omega
      have hnext := hid (show decN (f - 1) d ++ (byteOf (q : Int) :: out) = R by
        rw [← hd.out, hd2, if_neg (by omega), List.append_assoc]; rfl)
      have hne : ((d : Int) == 0) = false := by simpa using h0
      have HSR := hid (show S [byteOf (q : Int)] ++ S out = S (byteOf (q : Int) :: out) from hSR.out)
      have HPN := hid (hp2.out hf1)
      clear hd2 hf0 hSR hS hS2 hp2
      generalize S [byteOf (q : Int)] = C at *
      generalize hO : S out = O at *
      clear hO
      go_wp2_with (go_at_call 175; refine (HC.out _).mono ?_; rintro r w1 ⟨rfl, hb1⟩; have B1 := hid (HB.out.trans (hb1.mono HB.out.size)); clear hb1)
      go_roundw
      case rel => exact ⟨d, f - 1, byteOf (q : Int) :: out, by omega, rfl, hdl, HPN, by rw [HSR.out], hnext, by rw [List.length_cons]; omega, B1⟩
      case measure => simp [RowKit.intOf]; omega

/-- the four rows of InsWidth -/
def wRow (i : Nat) : Nat × List UInt8 := match i with
  | 0 => (1, [44, 52, 52, 44, 52, 53, 44, 52, 56, 44, 52, 57, 44, 53, 56, 44, 54, 48, 44])
  | 1 => (2, [44, 52, 54, 44, 52, 55, 44, 53, 48, 44, 53, 49, 44, 53, 57, 44, 54, 49, 44])
  | 2 => (4, [44, 52, 48, 44, 53, 50, 44, 53, 51, 44, 53, 52, 44, 54, 50, 44])
  | _ => (8, [44, 52, 49, 44, 53, 53, 44])
def wSub (op : Nat) : List UInt8 := 44 :: (decN 20 op ++ [44])
theorem w_row : ∀ op : Fin 256, ∀ i : Fin 4, Lib.contains (wRow i.val).2 (wSub op.val) = decide (tW op.val = (wRow i.val).1) := by decide +kernel
theorem w_none : ∀ op : Fin 256, (tW op.val ≠ 1 ∧ tW op.val ≠ 2 ∧ tW op.val ≠ 4 ∧ tW op.val ≠ 8) → tW op.val = 0 := by decide +kernel
/-- the variable of the library that a search in a text reads holds some number -/
def MaxL (w : World) : Prop := ∃ m, w.cell? ⟨4, 0, none⟩ = some (.int .i64 m)
theorem MaxL.below {w w' : World} (h : MaxL w) (hb : Below w.heap.size w w') : MaxL w' := by
  obtain ⟨m, hm⟩ := h
  refine ⟨m, (hb.cell ?_).trans hm⟩
  rcases Nat.lt_or_ge 4 w.heap.size with h' | h'
  · exact h'
  · simp [World.cell?, Array.getElem?_eq_none h'] at hm
theorem contains_any (s sub : List UInt8) (w : World) (hs : s.length < 4294967281) (h : MaxL w) :
    Calls Tryz.prog 168 #[.string (S s), .string (S sub)] w fun e w' => e = .returned (.bool (Lib.contains s sub)) ∧ w = w' := by
  obtain ⟨m, hm⟩ := h
  refine (Tryz.strings_Contains (S s) (S sub) m w (by rw [S_size]; exact hs) hm).mono ?_
  rintro e w' ⟨rfl, rfl⟩
  rw [S_data, S_data]
  exact ⟨rfl, rfl⟩
/-- one row: is the number in it? -/
theorem row_any (op : Nat) (hop : op < 256) (i : Nat) (hi : i < 4) (sub : ByteArray) (hsub : sub = S (wSub op)) (s : ByteArray) (hs : s = S (wRow i).2) (w : World) (h : MaxL w) :
    Calls Tryz.prog 168 #[.string s, .string sub] w fun e w' => e = .returned (.bool (decide (tW op = (wRow i).1))) ∧ w = w' := by
  subst hsub hs
  have := contains_any (wRow i).2 (wSub op) w (by rcases (by omega : i = 0 ∨ i = 1 ∨ i = 2 ∨ i = 3) with rfl | rfl | rfl | rfl <;> decide) h
  rw [w_row ⟨op, hop⟩ ⟨i, hi⟩] at this
  exact this


end Go.Proofs.YtakfineljffoaaaGreatDoor
namespace Go.Proofs.YtakfineljffoaaaGreatDoor
open Go.RowKit Go.Lib

def bytesI (l : List UInt8) : List Int := l.map fun b => (b.toNat : Int)
theorem bytesI_length (l : List UInt8) : (bytesI l).length = l.length := List.length_map _
theorem bytesI_append (a b : List UInt8) : bytesI (a ++ b) = bytesI a ++ bytesI b := List.map_append
theorem nums_S (l : List UInt8) : nums (S l) = bytesI l := by unfold nums bytesI; rw [S_data]
theorem bytesI_back (l : List UInt8) : (bytesI l).map (fun n => UInt8.ofNat n.toNat) = l := by
  unfold bytesI
  rw [List.map_map]
  exact (List.map_congr_left fun b _ => UInt8.ofNat_toNat).trans (List.map_id _)

theorem blk_ne {w : World} {B : Nat} {ty E : TypeId} {cs : List Value} {base size : Nat} {v : Value} {n : Nat} {xs : List Value} (h : Blk w B ty cs) (ho : w.ownsRow base E size v n xs) (hne : (ty == E) = false) : v.ownBlock ≠ some B := by
  intro e
  rcases ho.2 with ⟨e2, _⟩ | ⟨g, cap, cur, e2, _, hh, _⟩
  · rw [e2] at e; simp [Value.ownBlock] at e
  · rw [e2] at e
    simp only [Value.ownBlock, Option.some.injEq] at e
    subst e
    unfold Blk at h
    rw [h] at hh
    simp only [Option.some.injEq, Obj.cells.injEq] at hh
    rw [hh.2.1] at hne
    simp at hne

theorem step_str {P : Program} {T U E : TypeId} (hE : Elem P T E (.int .u8 0) 1 1) (hU : P.underlying U = some .string)
    {ops : Array Oper} {o : Oper} {a : Act} {K : Act → World → Prop} {Q : Exit → Act → World → Prop} {EE : Prop} {w : World} {base : Nat} {v : Value} {xs : List Int} {s : ByteArray} (hgd : o.guard = none) (sl x : Operand)
    (ho : o.op = .call { callee := .builtin .append, args := #[sl, x], argTypes := #[T, U] })
    (hs : a.eval sl = v) (hx : a.eval x = .string s) (hown : OwnI w base .u8 E v xs)
    (hlen : xs.length + s.size ≤ 140737488355328) (hbase : base ≤ w.heap.size)
    (h : ∀ v' w', OwnI w' base .u8 E v' (xs ++ nums s) → Below base w w' → w.grownBy w' v.ownBlock → K (a.put o.dst v') w') : if Region.wanted o (yielded ops a.tmps) = true then Oper.wp P o a w K Q else EE := by
  have hw : Region.wanted o (yielded ops a.tmps) = true := by simp [Region.wanted, hgd]
  rw [if_pos hw]
  obtain ⟨ht, hinfo, hz2, hpos⟩ := hE
  obtain ⟨i0, hi, hz0, hz1, hzb⟩ := info_parts hinfo
  have e : xs.map (Value.int .u8) ++ strCells s = (xs ++ nums s).map (Value.int .u8) := by
    simp [strCells, nums, List.map_map, Function.comp_def]
  obtain ⟨v', w', hr, g1, g2, _⟩ := run_append_own_string (P := P) w base T U o.type E i0 ht hU hi hz0 hz1 hzb v xs.length (xs.map (Value.int .u8)) hown s (by unfold maxLen; omega) hlen hbase
  unfold Oper.wp execOp
  simp only [ho, resolve, invoke, builtin, Sem.run_bind, Sem.run_pure, Result.andThen_ok, List.map_toArray, List.map_cons, List.map_nil, hs, hx, hr]
  have g1' : OwnI w' base .u8 E v' (xs ++ nums s) := by
    show w'.ownsRow base E 1 v' _ _
    rw [← e, List.length_append, nums_length]
    exact g1
  exact h v' w' g1' ((Below.refl base w).grown g2 hbase (own_block hown)) g2

theorem blk_grown {w w' : World} {B : Nat} {ty : TypeId} {cs : List Value} {row : Option Nat} (h : Blk w B ty cs) (hg : w.grownBy w' row) (hne : row ≠ some B) : Blk w' B ty cs := by
  unfold Blk
  rw [hg.block B h.lt (Ne.symm hne)]; exact h
end Go.Proofs.YtakfineljffoaaaGreatDoor
namespace Go.Proofs.YtakfineljffoaaaGreatDoor
open Go.RowKit Go.Lib

set_option maxRecDepth 100000 in
set_option maxHeartbeats 4000000 in
theorem rwidth_any (op : Nat) (hop : op < 256) (w : World) (hM : MaxL w) :
    Calls Tryz.prog 166 #[.int .u8 op] w fun e w' => e = .returned (.int .i64 (tW op : Nat)) ∧ Below w.heap.size w w' := by
  have HD := hid (fun w' => digits_any op (by omega) w')
  have hl := decN_len 20 op
  have e1 : S [44] ++ S (decN 20 op) = S (44 :: decN 20 op) := S_append _ _
  have e2 : S (44 :: decN 20 op) ++ S [44] = S (wSub op) := S_append _ _
  have hz1 : ¬ 9223372036854775807 < (S [44]).size + (S (decN 20 op)).size := by rw [S_size, S_size]; simp; omega
  have hz2 : ¬ 9223372036854775807 < (S (44 :: decN 20 op)).size + (S [44]).size := by rw [S_size, S_size]; simp; omega
  have HR := hid (fun i (hi : i < 4) => row_any op hop i hi)
  have hs0 : ((⟨#[44]⟩ : ByteArray) ++ S (decN 20 op)) ++ (⟨#[44]⟩ : ByteArray) = S (wSub op) := by
    rw [show (⟨#[44]⟩ : ByteArray) = S [44] from rfl, e1, e2]
  rw [e1.symm] at hz2
  have hz1' : ¬ 9223372036854775807 < 1 + (S (decN 20 op)).size := hz1
  have hz2' : ¬ 9223372036854775807 < 1 + (S (decN 20 op)).size + 1 := by rw [S_size] at *; omega
  clear hz1 hz2 e1 e2 hl
  generalize S (decN 20 op) = DS at *
  generalize S (wSub op) = WS at *
  have HSUB := hid hs0
  clear hs0
  have hw := w_none ⟨op, hop⟩
  simp only at hw
  go_enter Tryz.func166, Tryz.ntmps166
  go_wp2_with fail
  go_loopw [11] (fun i wr => ∃ k : Nat, k ≤ 4 ∧ i = .int .i64 k ∧ Hid (∀ i, i < 4 → wr.cell? ⟨w.heap.size, 2 * i, none⟩ = some (.int .i64 (wRow i).1) ∧ wr.cell? ⟨w.heap.size, 2 * i + 1, none⟩ = some (.string (S (wRow i).2))) ∧ Hid (Below w.heap.size w wr) ∧ Hid (∀ i, i < k → tW op ≠ (wRow i).1)) (fun i _ => 4 - (RowKit.intOf i).toNat)
  case atStart =>
    refine ⟨0, by decide, rfl, hid (fun i hi => ?_), hid ((Below.refl _ _).alloc (Nat.le_refl _) _), hid (fun i hi => by omega)⟩
    have hB := Blk.new w #[.int .i64 1, .string (S (wRow 0).2), .int .i64 2, .string (S (wRow 1).2), .int .i64 4, .string (S (wRow 2).2), .int .i64 8, .string (S (wRow 3).2)] 219 _ rfl
    rcases (by omega : i = 0 ∨ i = 1 ∨ i = 2 ∨ i = 3) with rfl | rfl | rfl | rfl
    · exact ⟨hB.cell (i := 0) rfl, hB.cell (i := 1) rfl⟩
    · exact ⟨hB.cell (i := 2) rfl, hB.cell (i := 3) rfl⟩
    · exact ⟨hB.cell (i := 4) rfl, hB.cell (i := 5) rfl⟩
    · exact ⟨hB.cell (i := 6) rfl, hB.cell (i := 7) rfl⟩
  case round =>
    obtain ⟨k, hk, rfl, HC, HB, HN⟩ := hrel
    have hsz : w.heap.size < wr.heap.size := by
      have h0 := (HC.out 0 (by decide)).1
      rcases Nat.lt_or_ge w.heap.size wr.heap.size with h' | h'
      · exact h'
      · simp [World.cell?, Array.getElem?_eq_none h'] at h0
    have HSZ := hid hsz
    clear hsz
    by_cases hlt : k < 4
    · have hMr := hid (hM.below HB.out)
      have HRK := hid (HR.out k hlt)
      have HNK := hid (fun (h : tW op ≠ (wRow k).1) i (hi : i < k + 1) => show tW op ≠ (wRow i).1 from by
        by_cases e : i = k
        · rw [e]; exact h
        · exact HN.out i (by omega))
      have y0 := (HC.out k hlt).1
      have y1 := (HC.out k hlt).2
      have hm9 : (wRow k).1 < 100 := by rcases (by omega : k = 0 ∨ k = 1 ∨ k = 2 ∨ k = 3) with rfl | rfl | rfl | rfl <;> decide
      generalize (wRow k).1 = m at *
      generalize S (wRow k).2 = ops at *
      obtain ⟨D, hD⟩ : ∃ D, decide (tW op = m) = D := ⟨_, rfl⟩
      rw [hD] at HRK
      have HDE := hid hD
      clear hD hw
      rcases (by omega : k = 0 ∨ k = 1 ∨ k = 2 ∨ k = 3) with rfl | rfl | rfl | rfl
      all_goals
        simp only [Nat.mul_zero, Nat.mul_one, Nat.zero_add, Nat.reduceMul, Nat.reduceAdd] at y0 y1
        have hblk := Blk.new wr #[.int .i64 m, .string ops] 219 _ rfl
        have b0 : (wr.alloc (.cells #[.int .i64 m, .string ops] 219)).drew.cell? ⟨wr.heap.size, 0, none⟩ = some (.int .i64 m) := hblk.cell (i := 0) rfl
        have b1 : (wr.alloc (.cells #[.int .i64 m, .string ops] 219)).drew.cell? ⟨wr.heap.size, 1, none⟩ = some (.string ops) := hblk.cell (i := 1) rfl
        have hA : Below wr.heap.size wr (wr.alloc (.cells #[.int .i64 m, .string ops] 219)).drew := ((Below.refl _ _).alloc (Nat.le_refl _) _).drew
        have HA := hid hA
        clear hblk hA
        go_wp2_with fail
        clear y0 y1
        have hwop : IntKind.i64.wrap (op : Int) = (op : Int) := IntWalk.i64_in _ (by omega)
        have HCC := hid (fun w' (hb : Below (wr.alloc (.cells #[.int .i64 m, .string ops] 219)).drew.heap.size (wr.alloc (.cells #[.int .i64 m, .string ops] 219)).drew w') => And.intro ((hb.cell (by show wr.heap.size < (wr.alloc _).heap.size; simp)).trans b0) ((hb.cell (by show wr.heap.size < (wr.alloc _).heap.size; simp)).trans b1))
        go_region_law (first | (go_simp; go_at_call 169; refine (HD.out _).mono ?_; rintro r w1 ⟨rfl, hb1⟩; obtain ⟨z0, z1⟩ := HCC.out _ hb1; have B1 := hid (HA.out.trans (hb1.mono HA.out.size)); clear hb1) | (go_simp; go_at_call 168; refine (HRK.out _ HSUB.out _ rfl _ (hMr.out.below B1.out)).mono ?_; rintro r w2 ⟨rfl, rfl⟩))
        all_goals
          have HB2 := hid (HB.out.trans (B1.out.mono (Nat.le_of_lt HSZ.out)))
          have HC2 := hid (fun i (hi : i < 4) => And.intro ((B1.out.cell HSZ.out).trans (HC.out i hi).1) ((B1.out.cell HSZ.out).trans (HC.out i hi).2))
          clear HC HCC hwop b0 b1
          cases D with
          | true =>
            have HM := hid (of_decide_eq_true HDE.out)
            go_wp2_with fail
            go_ret
            exact ⟨ret1 (by rw [HM.out]), HB2.out⟩
          | false =>
            have HM := hid (HNK.out (of_decide_eq_false HDE.out))
            go_wp2_with fail
            go_roundw
            case rel => exact ⟨_, by decide, rfl, HC2, HB2, HM⟩
            case measure => simp [RowKit.intOf]
    · obtain rfl : k = 4 := by omega
      have h0 := hw ⟨HN.out 0 (by decide), HN.out 1 (by decide), HN.out 2 (by decide), HN.out 3 (by decide)⟩
      go_wp2_with fail
      go_ret
      exact ⟨ret1 (by rw [h0]; rfl), HB.out⟩
end Go.Proofs.YtakfineljffoaaaGreatDoor
