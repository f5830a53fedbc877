/-
  NAMES: both sides. Condition: unicode/utf8's two tables hold what the row lists (the proofs are XWLebNames').
-/
import Derived.Test.YtdiiefhklcchmaaDoorGBinChecks2
import Derived.Test.YtdiiefhklcchmaaDoorLebV
import Derived.Test.YtdiiefhklcchmaaDoorGBinChecks3
import Derived.Test.YtdiiefhklcchmaaDoorGBinChecks5
import Derived.Test.YtdiiefhklcchmaaDoorShelf
import Derived.Test.YtdiiefhklcchmaaDoorNsB
import Derived.Test.YtdiiefhklcchmaaDoorGBinChecks6
import Derived.Test.YtdiiefhklcchmaaDoorGBinChecks7
import Derived.Lib.LaidU8T
namespace Go.Proofs.YtdiiefhklcchmaaDoor
open Go.RowKit

abbrev UTabs (w : World) : Prop := Lib.Utf8Tabs (Tryd.laysValid_ren.g 3) (Tryd.laysValid_ren.g 4) w
theorem u8extra : U8Extra Tryd.prog Tryd.laysValid_ren := ⟨by kernel_rfl, by kernel_rfl, by kernel_rfl, by kernel_rfl, by kernel_rfl, by kernel_rfl, by kernel_rfl⟩
theorem valid_any (s : ByteArray) (hs : s.size ≤ 9223372036854775807) (w : World) (hT : UTabs w) :
    Calls Tryd.prog 49 #[.string s] w fun e w' => e = .returned (.bool (Lib.validD s.data.toList)) ∧ Below w.heap.size w w' :=
  Any.utf8_ValidString Tryd.laysValid s w hs hT

theorem UTabs.below {w w' : World} (h : UTabs w) (hb : Below w.heap.size w w') : UTabs w' := Utf8Tabs_below h hb
theorem encU_one (n : Nat) (h : n < 128) : encU 9 n = [byteOf n] := encU_last h
/-- a name, written -/
def nameX (s : ByteArray) : ByteArray := if 16 < s.size then ⟨#[]⟩ else if Lib.validD s.data.toList = true then S [byteOf s.size] ++ s else ⟨#[]⟩
def nameE (s : ByteArray) : Int := if 16 < s.size then 2 else if Lib.validD s.data.toList = true then 0 else 4
theorem name_cases (s : ByteArray) : (16 < s.size ∧ nameX s = ⟨#[]⟩ ∧ nameE s = 2) ∨ (s.size ≤ 16 ∧ Lib.validD s.data.toList = true ∧ nameX s = S [byteOf s.size] ++ s ∧ nameE s = 0) ∨ (s.size ≤ 16 ∧ Lib.validD s.data.toList = false ∧ nameX s = ⟨#[]⟩ ∧ nameE s = 4) := by
  unfold nameX nameE
  by_cases h : 16 < s.size
  · rw [if_pos h, if_pos h]; exact .inl ⟨h, rfl, rfl⟩
  · rw [if_neg h, if_neg h]
    cases hv : Lib.validD s.data.toList
    · rw [if_neg (by decide), if_neg (by decide)]; exact .inr (.inr ⟨by omega, rfl, rfl, rfl⟩)
    · rw [if_pos rfl, if_pos rfl]; exact .inr (.inl ⟨by omega, rfl, rfl, rfl⟩)
set_option maxRecDepth 100000 in
set_option maxHeartbeats 2000000 in
theorem pname_any (s : ByteArray) (hs : s.size ≤ 9223372036854775807) (w : World) (hT : UTabs w) :
    Calls Tryd.prog 40 #[.string s] w fun e w' => e = .returned (.tuple #[.string (nameX s), .int .i64 (nameE s)]) ∧ Below w.heap.size w w' := by
  have HV := hid (valid_any s hs w hT)
  rcases name_cases s with ⟨h1, h2, h3⟩ | ⟨h1, h2, h3, h4⟩ | ⟨h1, h2, h3, h4⟩
  · rw [h2, h3]
    have g1 : (16 : Int) < s.size := by omega
    clear h2 h3
    go_enter Tryd.func40, Tryd.ntmps40
    go_wp2_with fail
    go_ret2
    exact ⟨rfl, Below.refl _ _⟩
  · rw [h3, h4]
    rw [h2] at HV
    have g1 : ¬ (16 : Int) < s.size := by omega
    have g2 : (s.size : Int) < 18446744073709551616 := by omega
    have HU := hid (fun w' => lebU_any s.size w' (by omega))
    rw [encU_one s.size (by omega)] at HU
    have hB : (S [byteOf s.size]).size = 1 := S_size _
    clear h2 h3 h4
    generalize S [byteOf s.size] = B at *
    have hBs : ¬ 9223372036854775807 < B.size + s.size := by omega
    clear hB
    go_enter Tryd.func40, Tryd.ntmps40
    go_wp2_with (first | (go_at_call 49; refine HV.out.mono ?_; rintro r w1 ⟨rfl, hb1⟩; have B1 := hid hb1; clear hb1) | (go_at_call 50; refine (HU.out _).mono ?_; rintro r w2 ⟨rfl, hb2⟩; have B2 := hid (B1.out.trans (hb2.mono B1.out.size)); clear hb2))
    go_ret2
    exact ⟨rfl, B2.out⟩
  · rw [h3, h4]
    rw [h2] at HV
    have g1 : ¬ (16 : Int) < s.size := by omega
    clear h2 h3 h4
    go_enter Tryd.func40, Tryd.ntmps40
    go_wp2_with (go_at_call 49; refine HV.out.mono ?_; rintro r w1 ⟨rfl, hb1⟩; have B1 := hid hb1; clear hb1)
    go_ret2
    exact ⟨rfl, B1.out⟩
set_option maxRecDepth 100000 in
set_option maxHeartbeats 2000000 in
theorem rname_any (s : ByteArray) (hs : s.size ≤ 9223372036854775807) (w : World) :
    Calls Tryd.prog 47 #[.string s] w fun e w' => e = .returned (.tuple #[.string (nameX s), .int .i64 (nameE s)]) ∧ Below w.heap.size w w' := by
  have HV := hid (isText_any s hs w)
  rcases name_cases s with ⟨h1, h2, h3⟩ | ⟨h1, h2, h3, h4⟩ | ⟨h1, h2, h3, h4⟩
  · rw [h2, h3]
    have g1 : (16 : Int) < s.size := by omega
    clear h2 h3
    go_enter Tryd.func47, Tryd.ntmps47
    go_wp2_with fail
    go_ret2
    exact ⟨rfl, Below.refl _ _⟩
  · rw [h3, h4]
    rw [h2] at HV
    have g1 : ¬ (16 : Int) < s.size := by omega
    have HU := hid (fun w' => chr_any s.size w')
    have hB : (S [byteOf s.size]).size = 1 := S_size _
    clear h2 h3 h4
    generalize S [byteOf s.size] = B at *
    have hBs : ¬ 9223372036854775807 < B.size + s.size := by omega
    clear hB
    go_enter Tryd.func47, Tryd.ntmps47
    go_wp2_with (first | (go_at_call 54; refine HV.out.mono ?_; rintro r w1 ⟨rfl, hb1⟩; have B1 := hid hb1; clear hb1) | (go_at_call 55; refine (HU.out _).mono ?_; rintro r w2 ⟨rfl, hb2⟩; have B2 := hid (B1.out.trans (hb2.mono B1.out.size)); clear hb2))
    go_ret2
    exact ⟨rfl, B2.out⟩
  · rw [h3, h4]
    rw [h2] at HV
    have g1 : ¬ (16 : Int) < s.size := by omega
    clear h2 h3 h4
    go_enter Tryd.func47, Tryd.ntmps47
    go_wp2_with (go_at_call 54; refine HV.out.mono ?_; rintro r w1 ⟨rfl, hb1⟩; have B1 := hid hb1; clear hb1)
    go_ret2
    exact ⟨rfl, B1.out⟩

end Go.Proofs.YtdiiefhklcchmaaDoor
/-
  MODULES AS BYTES: how a module's parts read, and the first fault of each. No condition.
-/
namespace Go.Proofs.YtdiiefhklcchmaaDoor
open Go.RowKit Go.Lib

theorem i64s_ofN {W : World} {v : Value} {zs : List Int} (h : sliceR W 1 8 (intR .i64) [v] zs) : Ints W .i64 v zs := by
  have hf := slice_flat (fun z => [Value.int .i64 z]) (fun z => -9223372036854775808 ≤ z ∧ z ≤ 9223372036854775807) (fun cs z h => by
    obtain ⟨rfl, w⟩ := h
    exact ⟨rfl, wf_i64 w⟩) h
  have h1 : Sl W v zs.length (zs.flatMap fun z => [Value.int .i64 z]) := hf.1
  have e : (zs.flatMap fun z => [Value.int .i64 z]) = zs.map (Value.int .i64) := by
    clear h hf h1
    induction zs with
    | nil => rfl
    | cons z r ih => rw [List.flatMap_cons, ih]; rfl
  rw [e] at h1
  exact h1
def itOf (y : D_api_Ins) : It := ⟨y.1.toNat, y.2.1, y.2.2.1, y.2.2.2.1⟩
theorem body_of {W : World} {v : Value} {ys : List D_api_Ins} (h : R_s_api_Ins W [v] ys) : BodS W v (ys.map itOf) ∧ ∀ x ∈ ys.map itOf, ItOk x := by
  obtain ⟨v', css, hv, hsl, hl, hb, hel⟩ := h
  simp only [List.cons.injEq, and_true] at hv
  subst hv
  have key : ∀ i (h1 : i < css.length) (h2 : i < ys.length), ItAt W css[i] (itOf ys[i]) ∧ ItOk (itOf ys[i]) := by
    intro i h1 h2
    obtain ⟨_, hr⟩ := hel i h1 h2
    generalize css[i] = cs at *
    generalize ys[i] = y at *
    obtain ⟨op, A, B, xs, u⟩ := y
    obtain ⟨_, _, rfl, ⟨rfl, w0⟩, _, _, rfl, ⟨rfl, w1⟩, _, _, rfl, ⟨rfl, w2⟩, c3, _, rfl, hs, rfl⟩ := hr
    have hs2 := hs
    obtain ⟨v2, _, rfl, _⟩ := hs
    have h0 : 0 ≤ op ∧ op < 256 := by simp [Lit.wf, IntKind.min, IntKind.max, IntKind.signed, IntKind.bits] at w0; omega
    obtain ⟨n, rfl⟩ := Int.eq_ofNat_of_zero_le h0.1
    exact ⟨⟨v2, rfl, i64s_ofN hs2⟩, by show ((n : Int).toNat : Nat) < 256; rw [Int.toNat_natCast]; omega, wf_i64 w1⟩
  refine ⟨⟨css, by rw [List.length_map]; exact hl, by rw [List.length_map]; exact hsl, fun i h1 h2 => ?_⟩, ?_⟩
  · rw [List.getElem_map]
    exact (key i h1 (by simpa using h2)).1
  · intro x hx
    obtain ⟨y, hy, rfl⟩ := List.mem_map.1 hx
    obtain ⟨i, hi, rfl⟩ := List.getElem_of_mem hy
    exact (key i (by omega) hi).2
theorem kinds_of {W : World} {v : Value} {zs : List Int} (h : R_s_api_Kind W [v] zs) : Ints W .u8 v zs := by
  have hf := slice_flat (fun z => [Value.int .u8 z]) (fun _ => True) (fun cs z h => by
    obtain ⟨rfl, w⟩ := h
    exact ⟨rfl, trivial⟩) h
  have h1 : Sl W v zs.length (zs.flatMap fun z => [Value.int .u8 z]) := hf.1
  have e : (zs.flatMap fun z => [Value.int .u8 z]) = zs.map (Value.int .u8) := by
    clear h hf h1
    induction zs with
    | nil => rfl
    | cons z r ih => rw [List.flatMap_cons, ih]; rfl
  rw [e] at h1
  exact h1
/-- element k of a list as it lies in memory, now and later -/
theorem sliceR_at {W : World} {s bytes : Nat} {α : Type} {R : List Value → α → Prop} {v : Value} {ys : List α} (h : sliceR W s bytes R [v] ys) (hs : 0 < s) (k : Nat) (hk : k < ys.length) :
    ∃ lb lo cap cs, v = .slice (some ⟨lb, lo, none⟩) ys.length cap ∧ ys.length ≤ cap ∧ cap ≤ 9223372036854775807 ∧ cs.length = s ∧ R cs ys[k] ∧ ∀ wr, Below W.heap.size W wr → ∀ j (_ : j < s), wr.cell? ⟨lb, lo + k * s + j, none⟩ = cs[j]? := by
  obtain ⟨v', css, hv, ⟨ao, cap, rfl, hc1, hc2, _, hcs⟩, hl, _, hel⟩ := h
  simp only [List.cons.injEq, and_true] at hv
  subst hv
  have hlen : ∀ c ∈ css, c.length = s := by
    intro c hc
    obtain ⟨i, hi, rfl⟩ := List.getElem_of_mem hc
    exact (hel i hi (by omega)).1
  have hkc : k < css.length := by omega
  have h0 : css.flatten[k * s + 0]? = (css[k])[0]? := flatten_get css hlen k 0 hs hkc
  rcases hcs with e | ⟨b, off, rfl, hat⟩
  · rw [e] at h0
    have : (css[k])[0]? = none := by rw [← h0]; rfl
    rw [List.getElem?_eq_none_iff] at this
    have := hlen _ (List.getElem_mem hkc)
    omega
  · refine ⟨b, off, cap, css[k], rfl, hc1, hc2, hlen _ (List.getElem_mem hkc), (hel k hkc hk).2, ?_⟩
    intro wr hb j hj
    have e := flatten_get css hlen k j hj hkc
    have hjl : j < (css[k]).length := by rw [hlen _ (List.getElem_mem hkc)]; exact hj
    rw [List.getElem?_eq_getElem hjl] at e ⊢
    obtain ⟨hlt, e2⟩ := List.getElem?_eq_some_iff.1 e
    have hw := hat (k * s + j) hlt
    rw [e2, ← Nat.add_assoc] at hw
    refine (hb.cell ?_).trans hw
    exact World.block_lt_of_cell? W _ hw
theorem ints_of {W : World} {v : Value} {zs : List Int} (h : R_s_int W [v] zs) : Ints W .i64 v zs := i64s_ofN h
theorem sl_shape {W : World} {s bytes : Nat} {α : Type} {R : List Value → α → Prop} {v : Value} {ys : List α} (h : sliceR W s bytes R [v] ys) : ∃ ao cap, v = .slice ao ys.length cap ∧ ys.length ≤ cap ∧ cap ≤ 9223372036854775807 ∧ ys.length * bytes ≤ 140737488351232 := by
  obtain ⟨v', css, hv, ⟨ao, cap, rfl, hc1, hc2, _⟩, _, hb, _⟩ := h
  simp only [List.cons.injEq, and_true] at hv
  exact ⟨ao, cap, hv, hc1, hc2, hb⟩

def fSig (y : D_api_Sig) : Int := orE (eachE fKind y.1 4) (eachE fKind y.2.1 1)
def fImport (y : D_api_Import) : Int := orE (nameE y.1) (fIdx y.2.1)
def fFunc (y : D_api_Func) : Int := orE (fIdx y.1) (orE (eachE fKind y.2.1 16) (ncM (y.2.2.1.map itOf)))
def okG (k n : Int) : Bool := decide (k ≠ 127 ∨ (-2147483648 ≤ n ∧ n ≤ 2147483647))
def fGlobal (y : D_api_Global) : Int := orE (fKind y.1) (ndE (okG y.1 y.2.2.1) 1)
def fExport (y : D_api_Export) : Int := orE (nameE y.1) (fIdx y.2.1)
def fElem (y : D_api_Elem) : Int := orE (fPlc y.1) (eachE fIdx y.2.1 16)
def fData (y : D_api_Data) : Int := orE (fPlc y.1) (ndE (decide ((y.2.1.size : Int) ≤ 64)) 2)
def okPg (p m : Int) : Bool := decide (0 ≤ p ∧ p ≤ m)
def fModule (y : D_api_Module) : Int :=
  orE (orE (orE (orE (orE (orE (orE (orE (orE (orE (orE (orE
    (eachE fSig y.1 16) (eachE fImport y.2.1 16)) (eachE fFunc y.2.2.1 16))
    (ndE (decide (0 ≤ y.2.2.2.1)) 1)) (ndE (decide (y.2.2.2.1 ≤ 16)) 2))
    (ndE (okPg y.2.2.2.2.1 y.2.2.2.2.2.1) 1)) (ndE (decide (y.2.2.2.2.2.1 ≤ 8)) 2))
    (eachE fGlobal y.2.2.2.2.2.2.1 8)) (eachE fExport y.2.2.2.2.2.2.2.1 8)) (fIdx y.2.2.2.2.2.2.2.2.1))
    (eachE fElem y.2.2.2.2.2.2.2.2.2.1 4)) (eachE fData y.2.2.2.2.2.2.2.2.2.2.1 4)) 0
end Go.Proofs.YtdiiefhklcchmaaDoor
