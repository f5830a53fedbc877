/-
  MODULES AS BYTES: how a module's parts read, and the first fault of each. No condition.
-/
import Derived.Test.YthoalneknadheaaGreatDoorGBinWrites9
import Derived.Test.YthoalneknadheaaGreatDoorGBinWrites10
import Derived.Test.YthoalneknadheaaGreatDoorGBinWrites11
import Derived.Test.YthoalneknadheaaGreatDoorGBinWrites16
import Derived.Test.YthoalneknadheaaGreatDoorGBinWrites25
import Derived.Test.YthoalneknadheaaGreatDoorGBinWrites30
namespace Go.Proofs.YthoalneknadheaaGreatDoor
open Go.RowKit Go.Lib

theorem i64s_ofN {W : World} {v : Value} {zs : List Int} (h : sliceR W 1 8 (intR .i64) [v] zs) : Ints W .i64 v zs := by
  have hf := slice_flat (fun z => [Value.int .i64 z]) (fun z => -9223372036854775808 ≤ z ∧ z ≤ 9223372036854775807) (fun cs z h => by
    obtain ⟨rfl, w⟩ := h
    exact ⟨rfl, wf_i64 w⟩) h
  have h1 : Sl W v zs.length (zs.flatMap fun z => [Value.int .i64 z]) := hf.1
  have e : (zs.flatMap fun z => [Value.int .i64 z]) = zs.map (Value.int .i64) := by
    clear h hf h1
    induction zs with
    | nil => rfl
    | cons z r ih => rw [List.flatMap_cons, ih]; rfl
  rw [e] at h1
  exact h1
def itOf (y : D_api_Ins) : It := ⟨y.1.toNat, y.2.1, y.2.2.1, y.2.2.2.1⟩
theorem body_of {W : World} {v : Value} {ys : List D_api_Ins} (h : R_s_api_Ins W [v] ys) : BodS W v (ys.map itOf) ∧ ∀ x ∈ ys.map itOf, ItOk x := by
  obtain ⟨v', css, hv, hsl, hl, hb, hel⟩ := h
  simp only [List.cons.injEq, and_true] at hv
  subst hv
  have key : ∀ i (h1 : i < css.length) (h2 : i < ys.length), ItAt W css[i] (itOf ys[i]) ∧ ItOk (itOf ys[i]) := by
    intro i h1 h2
    obtain ⟨_, hr⟩ := hel i h1 h2
    generalize css[i] = cs at *
    generalize ys[i] = y at *
    obtain ⟨op, A, B, xs, u⟩ := y
    obtain ⟨_, _, rfl, ⟨rfl, w0⟩, _, _, rfl, ⟨rfl, w1⟩, _, _, rfl, ⟨rfl, w2⟩, c3, _, rfl, hs, rfl⟩ := hr
    have hs2 := hs
    obtain ⟨v2, _, rfl, _⟩ := hs
    have h0 : 0 ≤ op ∧ op < 256 := by simp [Lit.wf, IntKind.min, IntKind.max, IntKind.signed, IntKind.bits] at w0; omega
    obtain ⟨n, rfl⟩ := Int.eq_ofNat_of_zero_le h0.1
    exact ⟨⟨v2, rfl, i64s_ofN hs2⟩, by show ((n : Int).toNat : Nat) < 256; rw [Int.toNat_natCast]; omega, wf_i64 w1⟩
  refine ⟨⟨css, by rw [List.length_map]; exact hl, by rw [List.length_map]; exact hsl, fun i h1 h2 => ?_⟩, ?_⟩
  · rw [List.getElem_map]
    exact (key i h1 (by simpa using h2)).1
  · intro x hx
    obtain ⟨y, hy, rfl⟩ := List.mem_map.1 hx
    obtain ⟨i, hi, rfl⟩ := List.getElem_of_mem hy
    exact (key i (by omega) hi).2
theorem kinds_of {W : World} {v : Value} {zs : List Int} (h : R_s_api_Kind W [v] zs) : Ints W .u8 v zs := by
  have hf := slice_flat (fun z => [Value.int .u8 z]) (fun _ => True) (fun cs z h => by
    obtain ⟨rfl, w⟩ := h
    exact ⟨rfl, trivial⟩) h
  have h1 : Sl W v zs.length (zs.flatMap fun z => [Value.int .u8 z]) := hf.1
  have e : (zs.flatMap fun z => [Value.int .u8 z]) = zs.map (Value.int .u8) := by
    clear h hf h1
    induction zs with
    | nil => rfl
    | cons z r ih => rw [List.flatMap_cons, ih]; rfl
  rw [e] at h1
  exact h1
theorem sliceR_at {W : World} {s bytes : Nat} {α : Type} {R : List Value → α → Prop} {v : Value} {ys : List α} (h : sliceR W s bytes R [v] ys) (hs : 0 < s) (k : Nat) (hk : k < ys.length) :
    ∃ lb lo cap cs, v = .slice (some ⟨lb, lo, none⟩) ys.length cap ∧ ys.length ≤ cap ∧ cap ≤ 9223372036854775807 ∧ cs.length = s ∧ R cs ys[k] ∧ ∀ wr, Below W.heap.size W wr → ∀ j (_ : j < s), wr.cell? ⟨lb, lo + k * s + j, none⟩ = cs[j]? := by
  obtain ⟨v', css, hv, ⟨ao, cap, rfl, hc1, hc2, _, hcs⟩, hl, _, hel⟩ := h
  simp only [List.cons.injEq, and_true] at hv
  subst hv
  have hlen : ∀ c ∈ css, c.length = s := by
    intro c hc
    obtain ⟨i, hi, rfl⟩ := List.getElem_of_mem hc
    exact (hel i hi (by omega)).1
  have hkc : k < css.length := by omega
  have h0 : css.flatten[k * s + 0]? = (css[k])[0]? := flatten_get css hlen k 0 hs hkc
  rcases hcs with e | ⟨b, off, rfl, hat⟩
  · rw [e] at h0
    have : (css[k])[0]? = none := by rw [← h0]; rfl
    rw [List.getElem?_eq_none_iff] at this
    have := hlen _ (List.getElem_mem hkc)
    omega
  · refine ⟨b, off, cap, css[k], rfl, hc1, hc2, hlen _ (List.getElem_mem hkc), (hel k hkc hk).2, ?_⟩
    intro wr hb j hj
    have e := flatten_get css hlen k j hj hkc
    have hjl : j < (css[k]).length := by rw [hlen _ (List.getElem_mem hkc)]; exact hj
    rw [List.getElem?_eq_getElem hjl] at e ⊢
    obtain ⟨hlt, e2⟩ := List.getElem?_eq_some_iff.1 e
    have hw := hat (k * s + j) hlt
    rw [e2, ← Nat.add_assoc] at hw
    refine (hb.cell ?_).trans hw
    exact World.block_lt_of_cell? W _ hw
theorem ints_of {W : World} {v : Value} {zs : List Int} (h : R_s_int W [v] zs) : Ints W .i64 v zs := i64s_ofN h
theorem sl_shape {W : World} {s bytes : Nat} {α : Type} {R : List Value → α → Prop} {v : Value} {ys : List α} (h : sliceR W s bytes R [v] ys) : ∃ ao cap, v = .slice ao ys.length cap ∧ ys.length ≤ cap ∧ cap ≤ 9223372036854775807 ∧ ys.length * bytes ≤ 140737488351232 := by
  obtain ⟨v', css, hv, ⟨ao, cap, rfl, hc1, hc2, _⟩, _, hb, _⟩ := h
  simp only [List.cons.injEq, and_true] at hv
  exact ⟨ao, cap, hv, hc1, hc2, hb⟩

def fSig (y : D_api_Sig) : Int := orE (eachE fKind y.1 4) (eachE fKind y.2.1 1)
def fImport (y : D_api_Import) : Int := orE (nameE y.1) (fIdx y.2.1)
def fFunc (y : D_api_Func) : Int := orE (fIdx y.1) (orE (eachE fKind y.2.1 16) (ncM (y.2.2.1.map itOf)))
def okG (k n : Int) : Bool := decide (k ≠ 127 ∨ (-2147483648 ≤ n ∧ n ≤ 2147483647))
def fGlobal (y : D_api_Global) : Int := orE (fKind y.1) (ndE (okG y.1 y.2.2.1) 1)
def fExport (y : D_api_Export) : Int := orE (nameE y.1) (fIdx y.2.1)
def fElem (y : D_api_Elem) : Int := orE (fPlc y.1) (eachE fIdx y.2.1 16)
def fData (y : D_api_Data) : Int := orE (fPlc y.1) (ndE (decide ((y.2.1.size : Int) ≤ 64)) 2)
def okPg (p m : Int) : Bool := decide (0 ≤ p ∧ p ≤ m)
def fModule (y : D_api_Module) : Int :=
  orE (orE (orE (orE (orE (orE (orE (orE (orE (orE (orE (orE
    (eachE fSig y.1 16) (eachE fImport y.2.1 16)) (eachE fFunc y.2.2.1 16))
    (ndE (decide (0 ≤ y.2.2.2.1)) 1)) (ndE (decide (y.2.2.2.1 ≤ 16)) 2))
    (ndE (okPg y.2.2.2.2.1 y.2.2.2.2.2.1) 1)) (ndE (decide (y.2.2.2.2.2.1 ≤ 8)) 2))
    (eachE fGlobal y.2.2.2.2.2.2.1 8)) (eachE fExport y.2.2.2.2.2.2.2.1 8)) (fIdx y.2.2.2.2.2.2.2.2.1))
    (eachE fElem y.2.2.2.2.2.2.2.2.2.1 4)) (eachE fData y.2.2.2.2.2.2.2.2.2.2.1 4)) 0
end Go.Proofs.YthoalneknadheaaGreatDoor
namespace Go.Proofs.YthoalneknadheaaGreatDoor
open Go.RowKit Go.Lib
attribute [local go_sem ↓] Go.wp_at_zero Go.wp_at_succ

def itW (x : It) : List UInt8 := wrI (tB x.op) x.op x.A x.B x.tos
def nwM (l : List It) : ByteArray := if ncM l = 0 then S (l.flatMap itW) else ⟨#[]⟩
theorem flat_bound (l : List It) (c n : Nat) (hl : l.length ≤ n) (h : ∀ x ∈ l, (itW x).length ≤ c) : (l.flatMap itW).length ≤ n * c := by
  induction l generalizing n with
  | nil => simp
  | cons x l ih =>
    simp only [List.length_cons] at hl
    have h1 := ih (n - 1) (by omega) (fun y hy => h y (List.mem_cons_of_mem _ hy))
    have h2 := h x List.mem_cons_self
    have h3 : n * c = (n - 1) * c + c := by
      obtain ⟨m, rfl⟩ : ∃ m, n = m + 1 := ⟨n - 1, by omega⟩
      rw [Nat.add_sub_cancel, Nat.succ_mul]
    rw [List.flatMap_cons, List.length_append, h3]
    omega
theorem encs_bound (xs : List Int) : (xs.flatMap (fun n => encU 9 n.toNat)).length ≤ xs.length * 10 := by
  induction xs with
  | nil => simp
  | cons x l ih =>
    have := encU_len 9 x.toNat
    rw [List.flatMap_cons, List.length_append, List.length_cons, Nat.succ_mul]
    omega
theorem itW_len (x : It) (h : itC x = 0) : (itW x).length ≤ 400 := by
  obtain ⟨_, h16, _⟩ := chk_ok h
  unfold itW wrI
  rw [List.length_cons]
  have a1 := encU_len 9 x.A.toNat
  have a2 := encU_len 9 x.B.toNat
  have a3 := encU_len 9 x.tos.length
  have a4 := encs_bound x.tos
  have a5 := encS_len 9 x.A
  have key : (wrB (tB x.op) x.A x.B x.tos).length ≤ 300 := by
    unfold wrB
    split
    all_goals try simp only [List.length_append, List.length_cons, List.length_nil]
    all_goals omega
  omega

set_option maxRecDepth 100000 in
set_option maxHeartbeats 4000000 in
theorem nwrite_any (w : World) (v : Value) (l : List It) (hok : ∀ x ∈ l, ItOk x) (h : BodS w v l) :
    Calls Tryz.prog 87 #[v] w fun e w' => e = .returned (.tuple #[.string (nwM l), .int .i64 (ncM l)]) ∧ Below w.heap.size w w' := by
  have HC := hid (ncheck_any w v l hok h)
  have H := hid h
  obtain ⟨css, _, ⟨ao, cap, rfl, _⟩, _⟩ := h
  unfold nwM
  by_cases hE : ncM l = 0
  · rw [if_pos hE, hE]
    rw [hE] at HC
    have h2 : l.length ≤ 200 ∧ chkR itC It.op l 0 ([(-1, 2)], false) = 0 := by
      have h := hE
      unfold ncM at h
      split at h
      · omega
      · exact ⟨by omega, h⟩
    obtain ⟨h200, hchk⟩ := h2
    have HZ := hid (chk_zero l 0 _ hchk)
    have HOK := hid hok
    have HFIN := hid (show S ((l.take l.length).flatMap itW) = S (l.flatMap itW) by rw [List.take_length])
    generalize S (l.flatMap itW) = fin at *
    skip
    clear hok hE hchk
    go_enter Tryz.func87, Tryz.ntmps87
    go_wp2_with fail
    refine HC.out.mono ?_
    rintro r w1 ⟨rfl, g1⟩
    have B1 := hid g1
    clear g1
    go_wp2_with fail
    go_loopw [17, 5] (fun i o wr => ∃ (k : Nat) (acc : ByteArray), k ≤ l.length ∧ i = .int .i64 k ∧ o = .string acc ∧ Hid (acc = S ((l.take k).flatMap itW)) ∧ Hid (Below w.heap.size w wr)) (fun i _ _ => l.length - (RowKit.intOf i).toNat)
    case atStart => exact ⟨0, ⟨#[]⟩, Nat.zero_le _, rfl, rfl, hid rfl, B1⟩
    case round =>
      obtain ⟨k, acc, hk, rfl, rfl, HA, BL⟩ := hrel
      by_cases hlt : k < l.length
      · have hlt2 : (k : Int) < (l.length : Int) := by omega
        obtain ⟨b, off, cap', u, hv, _, _, c0, c1, c2, c3, hto⟩ := (H.out.below BL.out).open k hlt
        simp only [Value.slice.injEq] at hv
        obtain ⟨rfl, -, rfl⟩ := hv
        have hxok := HOK.out l[k] (List.getElem_mem hlt)
        have hz := HZ.out l[k] (List.getElem_mem hlt)
        have HST := hid (show S ((l.take (k + 1)).flatMap itW) = acc ++ S (itW l[k]) by
          rw [HA.out, S_append, List.take_succ_eq_append_getElem hlt, List.flatMap_append]; simp)
        have hsz : acc.size ≤ k * 400 := by
          rw [HA.out, S_size]
          exact flat_bound (l.take k) 400 k (by rw [List.length_take]; omega) (fun x hx => itW_len x (HZ.out x (List.mem_of_mem_take hx)))
        have hs2 : (S (itW l[k])).size ≤ 400 := by rw [S_size]; exact itW_len _ hz
        generalize l[k] = x at *
        obtain ⟨op, A, C, xs⟩ := x
        simp only at c0 c1 c2 c3 hto
        obtain ⟨hop, hA⟩ := hxok
        simp only at hop hA
        obtain ⟨au, cu, rfl, -⟩ := id hto
        have X2 := hid (Blk.new wr #[.int .u8 op, .int .i64 A, .int .i64 C, .slice au xs.length cu] 162 _ rfl)
        have B2 := hid (BL.out.alloc BL.out.size (.cells #[.int .u8 op, .int .i64 A, .int .i64 C, .slice au xs.length cu] 162))
        have HW := hid (pinsW_any op hop A C hA xs (.slice au xs.length cu) (wr.alloc (.cells #[.int .u8 op, .int .i64 A, .int .i64 C, .slice au xs.length cu] 162)) (L1.below hto (Below.alloc (Below.refl _ _) (Nat.le_refl _) _)))
        rw [show wrT op A C xs = S (itW ⟨op, A, C, xs⟩) from if_pos hz, show chkI (tB op) A C xs = 0 from hz] at HW
        generalize S (itW ⟨op, A, C, xs⟩) = P at *
        have x0 := X2.out.cell (i := 0) rfl
        have x1 := X2.out.cell (i := 1) rfl
        have x2 := X2.out.cell (i := 2) rfl
        have x3 := X2.out.cell (i := 3) rfl
        have hsum : ¬ 9223372036854775807 < acc.size + P.size := by omega
        clear hto hz hA hop
        go_wp2_with fail
        refine HW.out.mono ?_
        rintro r w3 ⟨rfl, g1⟩
        have B3 := hid (B2.out.trans (g1.mono B2.out.size))
        clear g1 x0 x1 x2 x3
        go_wp2_with fail
        go_roundw
        case rel => exact ⟨k + 1, acc ++ P, by omega, by go_num, rfl, hid HST.out.symm, B3⟩
        case measure => simp [RowKit.intOf]; omega
      · have hlt2 : ¬ (k : Int) < (l.length : Int) := by omega
        have HR := hid (show acc = fin by rw [HA.out, ← HFIN.out, show k = l.length by omega])
        go_wp2_with fail
        go_ret2
        rw [← HR.out]
        exact ⟨rfl, BL.out⟩
  · rw [if_neg hE]
    generalize ncM l = E at *
    have hE2 : (E != 0) = true := by simpa using hE
    clear hE
    go_enter Tryz.func87, Tryz.ntmps87
    go_wp2_with fail
    refine HC.out.mono ?_
    rintro r w1 ⟨rfl, g1⟩
    have B1 := hid g1
    clear g1
    go_wp2_with fail
    go_ret2
    exact ⟨rfl, B1.out⟩
end Go.Proofs.YthoalneknadheaaGreatDoor
