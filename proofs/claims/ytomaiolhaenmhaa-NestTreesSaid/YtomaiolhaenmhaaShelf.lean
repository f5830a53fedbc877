/-
  DERIVED: THE SHELF's CONTRACTS AT THIS DUMP, IN PLAIN WORDS (tools/lay-plain.mjs out of 'YtomaiolhaenmhaaShelf.lean', which tools/lay-shelf.mjs wrote): THE SAME DECLARATIONS UNDER THE SAME NAMES: 'import', 'namespace', 'open', 'def', 'theorem' AND NOTHING ELSE: no command of the shelf's: FOR A HAND-IN. Each laying: the table of numbers ('.._ren') and one theorem, a field a fact of the dump's own or the kernel's comparison; each contract: ONE APPLICATION.
-/
import Derived.Shelf.Strings.Search3
import Derived.Shelf.Strings.IndexAnyAll
import Derived.Ground.NamesProg
import Derived.Test.YtomaiolhaenmhaaProg
namespace Go.Proofs
open Go.Shelf
def Try.lays144_ren : Go.Shelf.Ren := ⟨fun | 144 => 128 | 143 => 174 | 219 => 182 | 217 => 187 | 225 => 188 | 224 => 189 | 267 => 190 | 266 => 193 | 314 => 194 | n => n, fun | 9 => 9 | 4 => 4 | 3 => 3 | 5 => 5 | 46 => 239 | 146 => 276 | 51 => 136 | n => n, fun | 1 => 0 | n => n⟩
theorem Try.lays144 : Go.Proofs.Lays.n144 Try.prog Try.lays144_ren := {
  mixed := by kernel_rfl
  f143 := Try.func174.trans (congrArg some (by kernel_rfl))
  f144 := Try.func128.trans (congrArg some (by kernel_rfl))
  f217 := Try.func187.trans (congrArg some (by kernel_rfl))
  f219 := Try.func182.trans (congrArg some (by kernel_rfl))
  f224 := Try.func189.trans (congrArg some (by kernel_rfl))
  f225 := Try.func188.trans (congrArg some (by kernel_rfl))
  f266 := Try.func193.trans (congrArg some (by kernel_rfl))
  f267 := Try.func190.trans (congrArg some (by kernel_rfl))
  f314 := Try.func194.trans (congrArg some (by kernel_rfl))
  t3 := Try.underlying3
  a3 := Try.isAgg3
  z3 := Try.sizeOf3
  v3 := Try.zeroValue3
  t4 := Try.underlying4
  a4 := Try.isAgg4
  z4 := Try.sizeOf4
  v4 := Try.zeroValue4
  t5 := Try.underlying5
  a5 := Try.isAgg5
  z5 := Try.sizeOf5
  v5 := Try.zeroValue5
  t9 := Try.underlying9
  a9 := Try.isAgg9
  z9 := Try.sizeOf9
  v9 := Try.zeroValue9
  t46 := Try.underlying239
  a46 := Try.isAgg239
  z46 := Try.sizeOf239
  v46 := Try.zeroValue239
  t51 := Try.underlying136
  a51 := Try.isAgg136
  z51 := Try.sizeOf136
  v51 := Try.zeroValue136
  t146 := Try.underlying276
  a146 := Try.isAgg276
  z146 := Try.sizeOf276
  v146 := Try.zeroValue276
  g1 := by kernel_rfl }
open Go.RowKit Go.Lib in
/-- strings.Contains: "Contains reports whether substr is within s.": IT RETURNS 'Lib.contains s substr'; the world is as it was. (LAID: no walk: one application.) -/
theorem Try.strings_Contains (s sub : ByteArray) (m : Int) (w : World) (hs : s.size < 4294967281) (hm : w.cell? ⟨0, 0, none⟩ = some (.int .i64 m)) :
    Calls Try.prog 128 #[.string s, .string sub] w fun e w' => e = .returned (.bool (Lib.contains s.data.toList sub.data.toList)) ∧ w' = w := Any.strings_Contains Try.lays144 s sub m w hs hm
def Try.lays150_ren : Go.Shelf.Ren := ⟨fun | 150 => 132 | 153 => 175 | 152 => 183 | 226 => 184 | 227 => 185 | 228 => 186 | 137 => 191 | 119 => 192 | 224 => 189 | 225 => 188 | 217 => 187 | 266 => 193 | n => n, fun | 9 => 9 | 4 => 4 | 3 => 3 | 5 => 5 | 21 => 21 | 117 => 270 | 116 => 269 | 0 => 0 | 46 => 239 | 124 => 275 | n => n, fun | n => n⟩
theorem Try.lays150 : Go.Proofs.Lays.n150 Try.prog Try.lays150_ren := {
  mixed := by kernel_rfl
  f119 := Try.func192.trans (congrArg some (by kernel_rfl))
  f137 := Try.func191.trans (congrArg some (by kernel_rfl))
  f150 := Try.func132.trans (congrArg some (by kernel_rfl))
  f152 := Try.func183.trans (congrArg some (by kernel_rfl))
  f153 := Try.func175.trans (congrArg some (by kernel_rfl))
  f217 := Try.func187.trans (congrArg some (by kernel_rfl))
  f224 := Try.func189.trans (congrArg some (by kernel_rfl))
  f225 := Try.func188.trans (congrArg some (by kernel_rfl))
  f226 := Try.func184.trans (congrArg some (by kernel_rfl))
  f227 := Try.func185.trans (congrArg some (by kernel_rfl))
  f228 := Try.func186.trans (congrArg some (by kernel_rfl))
  f266 := Try.func193.trans (congrArg some (by kernel_rfl))
  t0 := Try.underlying0
  a0 := Try.isAgg0
  z0 := Try.sizeOf0
  v0 := Try.zeroValue0
  t3 := Try.underlying3
  a3 := Try.isAgg3
  z3 := Try.sizeOf3
  v3 := Try.zeroValue3
  t4 := Try.underlying4
  a4 := Try.isAgg4
  z4 := Try.sizeOf4
  v4 := Try.zeroValue4
  t5 := Try.underlying5
  a5 := Try.isAgg5
  z5 := Try.sizeOf5
  v5 := Try.zeroValue5
  t9 := Try.underlying9
  a9 := Try.isAgg9
  z9 := Try.sizeOf9
  v9 := Try.zeroValue9
  t21 := Try.underlying21
  a21 := Try.isAgg21
  z21 := Try.sizeOf21
  v21 := Try.zeroValue21
  t46 := Try.underlying239
  a46 := Try.isAgg239
  z46 := Try.sizeOf239
  v46 := Try.zeroValue239
  t116 := Try.underlying269
  a116 := Try.isAgg269
  z116 := Try.sizeOf269
  t117 := Try.underlying270
  a117 := Try.isAgg270
  z117 := Try.sizeOf270
  v117 := Try.zeroValue270
  t124 := Try.underlying275
  a124 := Try.isAgg275
  z124 := Try.sizeOf275
  v124 := Try.zeroValue275 }
open Go.RowKit Go.Lib in
theorem Try.strings_ContainsAny_laid (s chars : ByteArray) (w : World) (hs : s.size < 4294967281) (hcs : chars.size < 4294967281) (has : ∀ (j : Nat) b, s.data.toList[j]? = some b → b.toNat < 128) (hac : ∀ (j : Nat) b, chars.data.toList[j]? = some b → b.toNat < 128) :
    Calls Try.prog 132 #[.string s, .string chars] w fun e w' => e = .returned (.bool (Lib.containsAny s.data.toList chars.data.toList)) ∧ Below w.heap.size w w' := Any.strings_ContainsAny_laid Try.lays150 (by kernel_rfl) s chars w hs hcs has hac
end Go.Proofs
