/-
  SLICES OF BYTES AND STRINGS THAT THE CALL MAKES: append, conversion, chr. Conditions: lengths in the form's reach.
-/
import Derived.Test.YtakfineljffoaaaGreatDoorGFoldSays1
import Derived.Test.YtakfineljffoaaaGreatDoorGFoldSays2
import Derived.Laws.BytesArg
import Derived.Shelf.Strings.Search3
import Derived.Shelf.Strings.IndexAnyAll
import Derived.Shelf.Unicode.ValidAny
import Derived.Ground.NamesProg
import Derived.Test.YtakfineljffoaaaGreatDoorProg
import Derived.Lib.AppendStr
import Derived.Laws.BitsLemmas
namespace Go.Proofs.YtakfineljffoaaaGreatDoor
open Go.RowKit

theorem strOfNums_S (xs : List Int) : strOfNums xs = S (xs.map fun n => UInt8.ofNat n.toNat) := by
  simp [strOfNums, S]

theorem conv_bytes {w : World} {v : Value} {xs : List Int} (h : Ints w .u8 v xs) : (convert 47 9 v).run Tryz.prog w = .ok (.string (S (xs.map fun n => UInt8.ofNat n.toNat))) w := by
  rcases h.open with ⟨ao, cap, rfl, rfl, _⟩ | ⟨b, off, cap, rfl, h0, hcap, hm, hc⟩
  · cases ao with
    | none => exact run_convert_bytes_nil w _ _ Tryz.underlying47 Tryz.underlying5 0 cap _ Tryz.underlying9
    | some a =>
      rw [run_convert_bytes_string w _ _ _ _ _ _ Tryz.underlying47 Tryz.underlying5 Tryz.underlying9, run_bytesToString w _ 0 cap [] (by simp [loadCells, loadCellsFrom, Sem.run_pure])]
      rfl
  · rw [run_convert_bytes_arg w _ _ Tryz.underlying47 Tryz.underlying5 b off _ cap xs rfl (fun i hi => by rw [hc i hi]; simp [List.getD, hi]) _ Tryz.underlying9, strOfNums_S]

set_option maxRecDepth 100000 in
set_option maxHeartbeats 400000 in
theorem chr_any (n : Int) (w : World) :
    Calls Tryz.prog 175 #[.int .i64 n] w fun e w' => e = .returned (.string (S [byteOf n])) ∧ Below w.heap.size w w' := by
  have hc := conv_bytes (Ints.made' w .u8 5 [n % 256] w.heap.size rfl (by simp))
  simp only [List.length_cons, List.length_nil, List.map_cons, List.map_nil, Nat.zero_add] at hc
  go_enter Tryz.func175, Tryz.ntmps175
  go_wp2_with fail
  go_ret
  exact ⟨rfl, (Below.refl _ _).alloc (Nat.le_refl _) _⟩

end Go.Proofs.YtakfineljffoaaaGreatDoor
namespace Go.Proofs
open Go.Shelf
def Tryz.lays144_ren : Go.Shelf.Ren := ⟨fun | 144 => 168 | 143 => 174 | 219 => 180 | 217 => 181 | 225 => 179 | 224 => 178 | 267 => 182 | 266 => 183 | 314 => 184 | n => n, fun | 9 => 9 | 4 => 4 | 3 => 3 | 5 => 5 | 46 => 206 | 146 => 233 | 51 => 181 | n => n, fun | 1 => 4 | n => n⟩
theorem Tryz.lays144 : Go.Proofs.Lays.n144 Tryz.prog Tryz.lays144_ren := {
  mixed := by kernel_rfl
  f143 := Tryz.func174.trans (congrArg some (by kernel_rfl))
  f144 := Tryz.func168.trans (congrArg some (by kernel_rfl))
  f217 := Tryz.func181.trans (congrArg some (by kernel_rfl))
  f219 := Tryz.func180.trans (congrArg some (by kernel_rfl))
  f224 := Tryz.func178.trans (congrArg some (by kernel_rfl))
  f225 := Tryz.func179.trans (congrArg some (by kernel_rfl))
  f266 := Tryz.func183.trans (congrArg some (by kernel_rfl))
  f267 := Tryz.func182.trans (congrArg some (by kernel_rfl))
  f314 := Tryz.func184.trans (congrArg some (by kernel_rfl))
  t3 := Tryz.underlying3
  a3 := Tryz.isAgg3
  z3 := Tryz.sizeOf3
  v3 := Tryz.zeroValue3
  t4 := Tryz.underlying4
  a4 := Tryz.isAgg4
  z4 := Tryz.sizeOf4
  v4 := Tryz.zeroValue4
  t5 := Tryz.underlying5
  a5 := Tryz.isAgg5
  z5 := Tryz.sizeOf5
  v5 := Tryz.zeroValue5
  t9 := Tryz.underlying9
  a9 := Tryz.isAgg9
  z9 := Tryz.sizeOf9
  v9 := Tryz.zeroValue9
  t46 := Tryz.underlying206
  a46 := Tryz.isAgg206
  z46 := Tryz.sizeOf206
  v46 := Tryz.zeroValue206
  t51 := Tryz.underlying181
  a51 := Tryz.isAgg181
  z51 := Tryz.sizeOf181
  v51 := Tryz.zeroValue181
  t146 := Tryz.underlying233
  a146 := Tryz.isAgg233
  z146 := Tryz.sizeOf233
  v146 := Tryz.zeroValue233
  g1 := by kernel_rfl }
open Go.RowKit Go.Lib in
theorem Tryz.strings_Contains (s sub : ByteArray) (m : Int) (w : World) (hs : s.size < 4294967281) (hm : w.cell? ⟨4, 0, none⟩ = some (.int .i64 m)) :
    Calls Tryz.prog 168 #[.string s, .string sub] w fun e w' => e = .returned (.bool (Lib.contains s.data.toList sub.data.toList)) ∧ w' = w := Any.strings_Contains Tryz.lays144 s sub m w hs hm
def Tryz.lays150_ren : Go.Shelf.Ren := ⟨fun | 150 => 161 | 153 => 167 | 152 => 170 | 226 => 171 | 227 => 172 | 228 => 173 | 137 => 176 | 119 => 177 | 224 => 178 | 225 => 179 | 217 => 181 | 266 => 183 | n => n, fun | 9 => 9 | 4 => 4 | 3 => 3 | 5 => 5 | 21 => 21 | 117 => 226 | 116 => 225 | 0 => 0 | 46 => 206 | 124 => 232 | n => n, fun | n => n⟩
theorem Tryz.lays150 : Go.Proofs.Lays.n150 Tryz.prog Tryz.lays150_ren := {
  mixed := by kernel_rfl
  f119 := Tryz.func177.trans (congrArg some (by kernel_rfl))
  f137 := Tryz.func176.trans (congrArg some (by kernel_rfl))
  f150 := Tryz.func161.trans (congrArg some (by kernel_rfl))
  f152 := Tryz.func170.trans (congrArg some (by kernel_rfl))
  f153 := Tryz.func167.trans (congrArg some (by kernel_rfl))
  f217 := Tryz.func181.trans (congrArg some (by kernel_rfl))
  f224 := Tryz.func178.trans (congrArg some (by kernel_rfl))
  f225 := Tryz.func179.trans (congrArg some (by kernel_rfl))
  f226 := Tryz.func171.trans (congrArg some (by kernel_rfl))
  f227 := Tryz.func172.trans (congrArg some (by kernel_rfl))
  f228 := Tryz.func173.trans (congrArg some (by kernel_rfl))
  f266 := Tryz.func183.trans (congrArg some (by kernel_rfl))
  t0 := Tryz.underlying0
  a0 := Tryz.isAgg0
  z0 := Tryz.sizeOf0
  v0 := Tryz.zeroValue0
  t3 := Tryz.underlying3
  a3 := Tryz.isAgg3
  z3 := Tryz.sizeOf3
  v3 := Tryz.zeroValue3
  t4 := Tryz.underlying4
  a4 := Tryz.isAgg4
  z4 := Tryz.sizeOf4
  v4 := Tryz.zeroValue4
  t5 := Tryz.underlying5
  a5 := Tryz.isAgg5
  z5 := Tryz.sizeOf5
  v5 := Tryz.zeroValue5
  t9 := Tryz.underlying9
  a9 := Tryz.isAgg9
  z9 := Tryz.sizeOf9
  v9 := Tryz.zeroValue9
  t21 := Tryz.underlying21
  a21 := Tryz.isAgg21
  z21 := Tryz.sizeOf21
  v21 := Tryz.zeroValue21
  t46 := Tryz.underlying206
  a46 := Tryz.isAgg206
  z46 := Tryz.sizeOf206
  v46 := Tryz.zeroValue206
  t116 := Tryz.underlying225
  a116 := Tryz.isAgg225
  z116 := Tryz.sizeOf225
  t117 := Tryz.underlying226
  a117 := Tryz.isAgg226
  z117 := Tryz.sizeOf226
  v117 := Tryz.zeroValue226
  t124 := Tryz.underlying232
  a124 := Tryz.isAgg232
  z124 := Tryz.sizeOf232
  v124 := Tryz.zeroValue232 }
open Go.RowKit Go.Lib in
theorem Tryz.strings_ContainsAny_laid (s chars : ByteArray) (w : World) (hs : s.size < 4294967281) (hcs : chars.size < 4294967281) (has : ∀ (j : Nat) b, s.data.toList[j]? = some b → b.toNat < 128) (hac : ∀ (j : Nat) b, chars.data.toList[j]? = some b → b.toNat < 128) :
    Calls Tryz.prog 161 #[.string s, .string chars] w fun e w' => e = .returned (.bool (Lib.containsAny s.data.toList chars.data.toList)) ∧ Below w.heap.size w w' := Any.strings_ContainsAny_laid Tryz.lays150 (by kernel_rfl) s chars w hs hcs has hac
end Go.Proofs
namespace Go.Proofs.YtakfineljffoaaaGreatDoor
open Go.RowKit Go.Lib

end Go.Proofs.YtakfineljffoaaaGreatDoor
namespace Go.Proofs.YtakfineljffoaaaGreatDoor
open Go.RowKit Go.Lib

end Go.Proofs.YtakfineljffoaaaGreatDoor
namespace Go.Proofs.YtakfineljffoaaaGreatDoor
open Go.RowKit

end Go.Proofs.YtakfineljffoaaaGreatDoor
namespace Go.Proofs.YtakfineljffoaaaGreatDoor
open Go.RowKit

def sv (c : Nat) : Int := if 64 ≤ c % 128 then ((c % 128 : Nat) : Int) - 128 else ((c % 128 : Nat) : Int)
def rs (b : Nat) : List UInt8 → Nat → Nat → Int × Nat × Nat
  | [], _, _ => (0, 0, 3)
  | c :: r, i, n =>
    if b - 7 * i < 7 ∧ (128 ≤ c.toNat ∨ sv c.toNat < -2 ^ (b - 7 * i - 1) ∨ 2 ^ (b - 7 * i - 1) ≤ sv c.toNat) then (0, 0, 4)
    else if c.toNat < 128 then ((n : Int) + sv c.toNat * 2 ^ (7 * i), i + 1, 0)
    else rs b r (i + 1) (n + c.toNat % 128 * 2 ^ (7 * i))

end Go.Proofs.YtakfineljffoaaaGreatDoor
namespace Go.Proofs.YtakfineljffoaaaGreatDoor
open Go.RowKit

end Go.Proofs.YtakfineljffoaaaGreatDoor
namespace Go.Proofs.YtakfineljffoaaaGreatDoor
open Go.RowKit

end Go.Proofs.YtakfineljffoaaaGreatDoor
