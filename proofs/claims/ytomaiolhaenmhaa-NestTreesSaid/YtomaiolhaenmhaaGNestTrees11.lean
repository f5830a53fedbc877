/-
  TREES OF BODIES: deep and size. Printed by a program of mine. No condition beside lengths.
-/
import Derived.Test.YtomaiolhaenmhaaGNestTrees9
import Derived.Deep.RegionHeld3
import Derived.Laws.Cover1
namespace Go.Proofs.Ytomaiolhaenmhaa
open Go.RowKit Go.Lib
attribute [local go_sem ↓] Go.wp_at_zero Go.wp_at_succ

def DeepC (w0 : World) (t : Value) (d : Nat) : Prop := ∀ w, Below w0.heap.size w0 w → Calls Try.prog 138 #[t] w fun e w' => e = .returned (.int .i64 d) ∧ Below w.heap.size w w'
def SizeC (w0 : World) (t : Value) (d : Nat) : Prop := ∀ w, Below w0.heap.size w0 w → Calls Try.prog 139 #[t] w fun e w' => e = .returned (.int .i64 d) ∧ Below w.heap.size w w'
abbrev zeroB : Value := .agg #[.int .u8 0, .int .i64 0, .int .i64 0, .slice none 0 0, .slice none 0 0]
abbrev zeroC : Value := .agg #[.int .u8 0, .int .i64 0, .int .i64 0, .slice none 0 0, .slice none 0 0, .slice none 0 0, .bool false]
theorem as_bs (r : Value) (w : World) : (Instr.typeAssert (.iface 263 r) 216 259 true).run Try.prog w = .ok (.tuple #[zeroB, .bool false]) w := by kernel_rfl
theorem as_bb (r : Value) (w : World) : (Instr.typeAssert (.iface 259 r) 216 259 true).run Try.prog w = .ok (.tuple #[r, .bool true]) w := by kernel_rfl
theorem as_bc (r : Value) (w : World) : (Instr.typeAssert (.iface 261 r) 216 259 true).run Try.prog w = .ok (.tuple #[zeroB, .bool false]) w := by kernel_rfl
theorem as_cs (r : Value) (w : World) : (Instr.typeAssert (.iface 263 r) 216 261 true).run Try.prog w = .ok (.tuple #[zeroC, .bool false]) w := by kernel_rfl
theorem as_cc (r : Value) (w : World) : (Instr.typeAssert (.iface 261 r) 216 261 true).run Try.prog w = .ok (.tuple #[r, .bool true]) w := by kernel_rfl

theorem le_d {a b c d : Nat} (h : max a (max b c + 1) ≤ d) (h2 : d ≤ 900) : b + 1 ≤ 900 ∧ c + 1 ≤ 900 ∧ a ≤ 900 ∧ True ∧ True := ⟨by omega, by omega, by omega, trivial, trivial⟩
theorem le_s {a b c d : Nat} (h : a + (b + c + 1) ≤ d) (h2 : d ≤ 900) : b + 1 ≤ 900 ∧ c + 1 ≤ 900 ∧ a ≤ 900 ∧ b + c + 2 ≤ 2000 ∧ a + b + c + 2 ≤ 3000 := ⟨by omega, by omega, by omega, by omega, by omega⟩
theorem max_three (m d e : Nat) (ts : Array TypeId) (t : TypeId) (w : World) : (Builtin.max_ ts t #[.int .i64 (m : Int), .int .i64 (1 + (d : Int)), .int .i64 (1 + (e : Int))]).run Try.prog w = .ok (.int .i64 ((max m (max d e + 1) : Nat) : Int)) w := by
  rw [run_max_int3]
  congr 2
  split <;> split <;> omega
theorem wr_one (d : Nat) (h : d + 1 ≤ 900) : IntKind.i64.wrap (1 + (d : Int)) = 1 + (d : Int) ∧ wrap64 (1 + (d : Int)) = 1 + (d : Int) := ⟨IntWalk.i64_in _ (by omega), by unfold wrap64; omega⟩
theorem wr_two (d e : Nat) (h : d + e + 2 ≤ 2000) : IntKind.i64.wrap (1 + (d : Int) + (e : Int)) = 1 + (d : Int) + (e : Int) := IntWalk.i64_in _ (by omega)
theorem wr_three (m d e : Nat) (h : m + d + e + 2 ≤ 3000) : IntKind.i64.wrap ((m : Int) + (1 + (d : Int) + (e : Int))) = (m : Int) + (1 + (d : Int) + (e : Int)) := IntWalk.i64_in _ (by omega)

theorem mostD_take_le (ps : List Nd) (k : Nat) : mostD (ps.take k) ≤ mostD ps := by
  induction ps generalizing k with
  | nil => simp [mostD]
  | cons p ps ih =>
    cases k with
    | zero => simp [mostD]
    | succ k => simp only [List.take_succ_cons, mostD]; have := ih k; omega
theorem sumS_take_le (ps : List Nd) (k : Nat) : sumS (ps.take k) ≤ sumS ps := by
  induction ps generalizing k with
  | nil => simp [sumS]
  | cons p ps ih =>
    cases k with
    | zero => simp [sumS]
    | succ k => simp only [List.take_succ_cons, sumS]; have := ih k; omega

theorem cat_mem {ps : List Nd} {p : Nd} (h : p ∈ ps) : p.2.1.length ≤ (cat ps).length := by
  induction ps with
  | nil => cases h
  | cons q ps ih =>
    simp only [cat, List.length_append]
    rcases List.mem_cons.1 h with rfl | h
    · omega
    · have := ih h; omega

def KindD (w0 : World) (v : Value) (d : Nat) : Prop := (∃ r, v = .iface 263 r ∧ d = 0) ∨ (∃ (x : It) (au : Option Addr) (nu cu : Nat) (a1 : Option Addr) (n1 c1 d1 : Nat), v = .iface 259 (.agg #[.int .u8 x.op, .int .i64 x.A, .int .i64 x.B, .slice au nu cu, .slice a1 n1 c1]) ∧ d = d1 + 1 ∧ DeepC w0 (.slice a1 n1 c1) d1) ∨ (∃ (x : It) (au : Option Addr) (nu cu : Nat) (a1 : Option Addr) (n1 c1 : Nat) (a2 : Option Addr) (n2 c2 : Nat) (b : Bool) (d1 d2 : Nat), v = .iface 261 (.agg #[.int .u8 x.op, .int .i64 x.A, .int .i64 x.B, .slice au nu cu, .slice a1 n1 c1, .slice a2 n2 c2, .bool b]) ∧ d = max d1 d2 + 1 ∧ DeepC w0 (.slice a1 n1 c1) d1 ∧ DeepC w0 (.slice a2 n2 c2) d2)
set_option maxRecDepth 100000 in
set_option maxHeartbeats 4000000 in
theorem deep_row (w0 : World) (F : Nat → Prop) (t : Value) (ps : List Nd) (hr : RowF w0 F t ps) (hp : ∀ p ∈ ps, KindD w0 p.1 p.2.2.1) (hm : mostD ps ≤ 900) : DeepC w0 t (mostD ps) := by
  intro w hb
  obtain ⟨at1, ct1, rfl⟩ := hr.open
  have HR := hid hr
  have HP := hid hp
  have HB := hid hb
  have HM := hid hm
  clear hr hp hb hm
  go_enter Try.func138, Try.ntmps138
  go_wp2_with fail
  go_loopw [3, 10] (fun i j wr => ∃ k : Nat, k ≤ ps.length ∧ i = .int .i64 (mostD (ps.take k) : Nat) ∧ j = .int .i64 k ∧ Hid (Below w.heap.size w wr)) (fun _ j _ => ps.length - (RowKit.intOf j).toNat)
  case atStart => exact ⟨0, Nat.zero_le _, rfl, rfl, hid (Below.refl _ _)⟩
  case round =>
    obtain ⟨k, hk, rfl, rfl, BL⟩ := hrel
    by_cases hlt : k < ps.length
    · have hlt2 : (k : Int) < (ps.length : Int) := by omega
      have BW := hid (HB.out.trans (BL.out.mono HB.out.size))
      obtain ⟨g, cg, hv, _, _, hcell⟩ := RowF.at HR.out k hlt
      simp only [Value.slice.injEq] at hv
      obtain ⟨rfl, -, rfl⟩ := hv
      have hcw := cell_below BW.out hcell
      have hkd := HP.out ps[k] (List.getElem_mem hlt)
      have hstp := mostD_take hlt
      have hle : mostD (ps.take (k + 1)) ≤ mostD ps := mostD_take_le ps (k + 1)
      have hM := HM.out
      clear hcell
      have hst2 := hstp
      rw [hstp] at hle
      generalize mostD (ps.take k) = M1 at *
      generalize ps[k] = p at *
      obtain ⟨pv, pxs, pd, pn⟩ := p
      simp only at hcw hkd hstp hle
      have HST := hid hstp
      clear hstp hst2
      rcases hkd with ⟨rv, rfl, rfl⟩ | ⟨x, au, nu, cu, a1, n1, c1, d1, rfl, rfl, h1⟩ | ⟨x, au, nu, cu, a1, n1, c1, a2, n2, c2, b, d1, d2, rfl, rfl, h1, h2⟩
      · have hA := as_bs rv
        have hB := as_cs rv
        go_wp2_with fail
        go_roundw
        case rel => exact ⟨k + 1, by omega, by rw [HST.out]; simp <;> omega, by go_num, BL⟩
        case measure => simp [RowKit.intOf]; omega
      · have hA := as_bb (.agg #[.int .u8 x.op, .int .i64 x.A, .int .i64 x.B, .slice au nu cu, .slice a1 n1 c1])
        have X1 := hid (Blk.new wr #[.int .u8 x.op, .int .i64 x.A, .int .i64 x.B, .slice au nu cu, .slice a1 n1 c1] 259 _ rfl)
        have B1 := hid (BL.out.alloc BL.out.size (.cells #[.int .u8 x.op, .int .i64 x.A, .int .i64 x.B, .slice au nu cu, .slice a1 n1 c1] 259))
        have HC := hid (h1 (wr.alloc (.cells #[.int .u8 x.op, .int .i64 x.A, .int .i64 x.B, .slice au nu cu, .slice a1 n1 c1] 259)) (HB.out.trans (B1.out.mono HB.out.size)))
        have x4 := X1.out.cell (i := 4) rfl
        clear h1
        have hd1 : d1 + 1 ≤ 900 := by omega
        have hM1 : M1 ≤ 900 := by omega
        go_wp2_with fail
        refine HC.out.mono ?_
        rintro q wn ⟨rfl, bn⟩
        have BN := hid (B1.out.trans (bn.mono B1.out.size))
        clear bn x4
        go_wp2_with fail
        go_roundw
        case rel => exact ⟨k + 1, by omega, by rw [HST.out]; simp <;> omega, by go_num, BN⟩
        case measure => simp [RowKit.intOf]; omega
      · have hA := as_bc (.agg #[.int .u8 x.op, .int .i64 x.A, .int .i64 x.B, .slice au nu cu, .slice a1 n1 c1, .slice a2 n2 c2, .bool b])
        have hB := as_cc (.agg #[.int .u8 x.op, .int .i64 x.A, .int .i64 x.B, .slice au nu cu, .slice a1 n1 c1, .slice a2 n2 c2, .bool b])
        have X1 := hid (Blk.new wr #[.int .u8 x.op, .int .i64 x.A, .int .i64 x.B, .slice au nu cu, .slice a1 n1 c1, .slice a2 n2 c2, .bool b] 261 _ rfl)
        have B1 := hid (BL.out.alloc BL.out.size (.cells #[.int .u8 x.op, .int .i64 x.A, .int .i64 x.B, .slice au nu cu, .slice a1 n1 c1, .slice a2 n2 c2, .bool b] 261))
        have D1 := hid h1
        have D2 := hid h2
        clear h1 h2
        obtain ⟨hd1, hd2, hM1, hs2, hs3⟩ := le_d hle hM
        obtain ⟨hw1, hw3⟩ := wr_one d1 hd1
        obtain ⟨hw2, hw4⟩ := wr_one d2 hd2
        have hmx := max_three M1 d1 d2
        generalize hq : (wr.alloc (.cells #[.int .u8 x.op, .int .i64 x.A, .int .i64 x.B, .slice au nu cu, .slice a1 n1 c1, .slice a2 n2 c2, .bool b] 261)).drew = WD0
        have HQ := hid hq
        have BD := hid (show Below w0.heap.size w0 WD0 from by rw [← hq]; exact drew_bel' (n := 1) (HB.out.trans (B1.out.mono HB.out.size)))
        have BWD := hid (show Below w.heap.size w WD0 from by rw [← hq]; exact drew_bel' (n := 1) B1.out)
        have XD := hid (show Blk WD0 wr.heap.size 261 [.int .u8 x.op, .int .i64 x.A, .int .i64 x.B, .slice au nu cu, .slice a1 n1 c1, .slice a2 n2 c2, .bool b] from by rw [← hq]; exact X1.out)
        clear hq
        have S0 : (WD0.cell? ⟨wr.heap.size, 4, none⟩ = some (.slice a1 n1 c1) ∧ WD0.cell? ⟨wr.heap.size, 5, none⟩ = some (.slice a2 n2 c2) ∧ Hid (Below WD0.heap.size WD0 WD0)) := ⟨XD.out.cell (i := 4) rfl, XD.out.cell (i := 5) rfl, hid (Below.refl _ _)⟩
        have N0 := hid (show ∀ w' w2, (w'.cell? ⟨wr.heap.size, 4, none⟩ = some (.slice a1 n1 c1) ∧ w'.cell? ⟨wr.heap.size, 5, none⟩ = some (.slice a2 n2 c2) ∧ Hid (Below WD0.heap.size WD0 w')) → Below w'.heap.size w' w2 → (w2.cell? ⟨wr.heap.size, 4, none⟩ = some (.slice a1 n1 c1) ∧ w2.cell? ⟨wr.heap.size, 5, none⟩ = some (.slice a2 n2 c2) ∧ Hid (Below WD0.heap.size WD0 w2)) from fun w' w2 h hb => by
          have hb2 := h.2.2.out.trans (hb.mono h.2.2.out.size)
          exact ⟨(XD.out.below hb2).cell (i := 4) rfl, (XD.out.below hb2).cell (i := 5) rfl, hid hb2⟩)
        have E1 := hid (show ∀ w', (w'.cell? ⟨wr.heap.size, 4, none⟩ = some (.slice a1 n1 c1) ∧ w'.cell? ⟨wr.heap.size, 5, none⟩ = some (.slice a2 n2 c2) ∧ Hid (Below WD0.heap.size WD0 w')) → Calls Try.prog 138 #[.slice a1 n1 c1] w' fun e w2 => e = .returned (.int .i64 d1) ∧ (w2.cell? ⟨wr.heap.size, 4, none⟩ = some (.slice a1 n1 c1) ∧ w2.cell? ⟨wr.heap.size, 5, none⟩ = some (.slice a2 n2 c2) ∧ Hid (Below WD0.heap.size WD0 w2)) from fun w' hS => (D1.out w' (BD.out.trans (hS.2.2.out.mono BD.out.size))).mono (by
          rintro e w2 ⟨rfl, hb⟩
          exact ⟨rfl, N0.out _ _ hS hb⟩))
        have E2 := hid (show ∀ w', (w'.cell? ⟨wr.heap.size, 4, none⟩ = some (.slice a1 n1 c1) ∧ w'.cell? ⟨wr.heap.size, 5, none⟩ = some (.slice a2 n2 c2) ∧ Hid (Below WD0.heap.size WD0 w')) → Calls Try.prog 138 #[.slice a2 n2 c2] w' fun e w2 => e = .returned (.int .i64 d2) ∧ (w2.cell? ⟨wr.heap.size, 4, none⟩ = some (.slice a1 n1 c1) ∧ w2.cell? ⟨wr.heap.size, 5, none⟩ = some (.slice a2 n2 c2) ∧ Hid (Below WD0.heap.size WD0 w2)) from fun w' hS => (D2.out w' (BD.out.trans (hS.2.2.out.mono BD.out.size))).mono (by
          rintro e w2 ⟨rfl, hb⟩
          exact ⟨rfl, N0.out _ _ hS hb⟩))
        have F0 := hid (show ∀ w', (w'.cell? ⟨wr.heap.size, 4, none⟩ = some (.slice a1 n1 c1) ∧ w'.cell? ⟨wr.heap.size, 5, none⟩ = some (.slice a2 n2 c2) ∧ Hid (Below WD0.heap.size WD0 w')) → Below w.heap.size w w' from fun w' h => BWD.out.trans (h.2.2.out.mono BWD.out.size))
        clear D1 D2 N0 BD BWD XD X1 B1
        go_wp2_with fail
        go_region_held3 (fun w' => w'.cell? ⟨wr.heap.size, 4, none⟩ = some (.slice a1 n1 c1) ∧ w'.cell? ⟨wr.heap.size, 5, none⟩ = some (.slice a2 n2 c2) ∧ Hid (Below WD0.heap.size WD0 w')) (first | assumption | (rw [HQ.out]; exact S0)) (first | (go_at_call 138; (first | (with_reducible refine (E1.out _ (by assumption)).mono ?_) | (with_reducible refine (E2.out _ (by assumption)).mono ?_)); rintro r w5 ⟨rfl, hS5⟩))
        all_goals
          have HF := hid (F0.out _ (by assumption))
          clear E1 E2 F0
          go_wp2_with fail
          go_roundw
          case rel => exact ⟨k + 1, by omega, by first | (rw [HST.out]; done) | (rw [HST.out]; simp; omega) | (rw [HST.out, hw1]; simp; omega), by go_num, HF⟩
          case measure => simp [RowKit.intOf]; omega
    · obtain rfl : k = ps.length := by omega
      have hnl : ¬ ((ps.length : Int) < (ps.length : Int)) := by omega
      rw [List.take_of_length_le (Nat.le_refl _)]
      go_wp2_with fail
      go_ret
      exact ⟨rfl, BL.out⟩

def KindS (w0 : World) (v : Value) (d : Nat) : Prop := (∃ r, v = .iface 263 r ∧ d = 0) ∨ (∃ (x : It) (au : Option Addr) (nu cu : Nat) (a1 : Option Addr) (n1 c1 d1 : Nat), v = .iface 259 (.agg #[.int .u8 x.op, .int .i64 x.A, .int .i64 x.B, .slice au nu cu, .slice a1 n1 c1]) ∧ d = d1 + 1 ∧ SizeC w0 (.slice a1 n1 c1) d1) ∨ (∃ (x : It) (au : Option Addr) (nu cu : Nat) (a1 : Option Addr) (n1 c1 : Nat) (a2 : Option Addr) (n2 c2 : Nat) (b : Bool) (d1 d2 : Nat), v = .iface 261 (.agg #[.int .u8 x.op, .int .i64 x.A, .int .i64 x.B, .slice au nu cu, .slice a1 n1 c1, .slice a2 n2 c2, .bool b]) ∧ d = d1 + d2 + 1 ∧ SizeC w0 (.slice a1 n1 c1) d1 ∧ SizeC w0 (.slice a2 n2 c2) d2)
set_option maxRecDepth 100000 in
set_option maxHeartbeats 4000000 in
theorem size_row (w0 : World) (F : Nat → Prop) (t : Value) (ps : List Nd) (hr : RowF w0 F t ps) (hp : ∀ p ∈ ps, KindS w0 p.1 p.2.2.2) (hm : sumS ps ≤ 900) : SizeC w0 t (sumS ps) := by
  intro w hb
  obtain ⟨at1, ct1, rfl⟩ := hr.open
  have HR := hid hr
  have HP := hid hp
  have HB := hid hb
  have HM := hid hm
  clear hr hp hb hm
  go_enter Try.func139, Try.ntmps139
  go_wp2_with fail
  go_loopw [3, 10] (fun i j wr => ∃ k : Nat, k ≤ ps.length ∧ i = .int .i64 (sumS (ps.take k) : Nat) ∧ j = .int .i64 k ∧ Hid (Below w.heap.size w wr)) (fun _ j _ => ps.length - (RowKit.intOf j).toNat)
  case atStart => exact ⟨0, Nat.zero_le _, rfl, rfl, hid (Below.refl _ _)⟩
  case round =>
    obtain ⟨k, hk, rfl, rfl, BL⟩ := hrel
    by_cases hlt : k < ps.length
    · have hlt2 : (k : Int) < (ps.length : Int) := by omega
      have BW := hid (HB.out.trans (BL.out.mono HB.out.size))
      obtain ⟨g, cg, hv, _, _, hcell⟩ := RowF.at HR.out k hlt
      simp only [Value.slice.injEq] at hv
      obtain ⟨rfl, -, rfl⟩ := hv
      have hcw := cell_below BW.out hcell
      have hkd := HP.out ps[k] (List.getElem_mem hlt)
      have hstp := sumS_take hlt
      have hle : sumS (ps.take (k + 1)) ≤ sumS ps := sumS_take_le ps (k + 1)
      have hM := HM.out
      clear hcell
      have hst2 := hstp
      rw [hstp] at hle
      generalize sumS (ps.take k) = M1 at *
      generalize ps[k] = p at *
      obtain ⟨pv, pxs, pd, pn⟩ := p
      simp only at hcw hkd hstp hle
      have HST := hid hstp
      clear hstp hst2
      rcases hkd with ⟨rv, rfl, rfl⟩ | ⟨x, au, nu, cu, a1, n1, c1, d1, rfl, rfl, h1⟩ | ⟨x, au, nu, cu, a1, n1, c1, a2, n2, c2, b, d1, d2, rfl, rfl, h1, h2⟩
      · have hA := as_bs rv
        have hB := as_cs rv
        go_wp2_with fail
        go_roundw
        case rel => exact ⟨k + 1, by omega, by rw [HST.out]; simp <;> omega, by go_num, BL⟩
        case measure => simp [RowKit.intOf]; omega
      · have hA := as_bb (.agg #[.int .u8 x.op, .int .i64 x.A, .int .i64 x.B, .slice au nu cu, .slice a1 n1 c1])
        have X1 := hid (Blk.new wr #[.int .u8 x.op, .int .i64 x.A, .int .i64 x.B, .slice au nu cu, .slice a1 n1 c1] 259 _ rfl)
        have B1 := hid (BL.out.alloc BL.out.size (.cells #[.int .u8 x.op, .int .i64 x.A, .int .i64 x.B, .slice au nu cu, .slice a1 n1 c1] 259))
        have HC := hid (h1 (wr.alloc (.cells #[.int .u8 x.op, .int .i64 x.A, .int .i64 x.B, .slice au nu cu, .slice a1 n1 c1] 259)) (HB.out.trans (B1.out.mono HB.out.size)))
        have x4 := X1.out.cell (i := 4) rfl
        clear h1
        have hd1 : d1 + 1 ≤ 900 := by omega
        have hM1 : M1 ≤ 900 := by omega
        go_wp2_with fail
        refine HC.out.mono ?_
        rintro q wn ⟨rfl, bn⟩
        have BN := hid (B1.out.trans (bn.mono B1.out.size))
        clear bn x4
        go_wp2_with fail
        go_roundw
        case rel => exact ⟨k + 1, by omega, by rw [HST.out]; simp <;> omega, by go_num, BN⟩
        case measure => simp [RowKit.intOf]; omega
      · have hA := as_bc (.agg #[.int .u8 x.op, .int .i64 x.A, .int .i64 x.B, .slice au nu cu, .slice a1 n1 c1, .slice a2 n2 c2, .bool b])
        have hB := as_cc (.agg #[.int .u8 x.op, .int .i64 x.A, .int .i64 x.B, .slice au nu cu, .slice a1 n1 c1, .slice a2 n2 c2, .bool b])
        have X1 := hid (Blk.new wr #[.int .u8 x.op, .int .i64 x.A, .int .i64 x.B, .slice au nu cu, .slice a1 n1 c1, .slice a2 n2 c2, .bool b] 261 _ rfl)
        have B1 := hid (BL.out.alloc BL.out.size (.cells #[.int .u8 x.op, .int .i64 x.A, .int .i64 x.B, .slice au nu cu, .slice a1 n1 c1, .slice a2 n2 c2, .bool b] 261))
        have D1 := hid h1
        have D2 := hid h2
        clear h1 h2
        obtain ⟨hd1, hd2, hM1, hs2, hs3⟩ := le_s hle hM
        obtain ⟨hw1, hw3⟩ := wr_one d1 hd1
        obtain ⟨hw2, hw4⟩ := wr_one d2 hd2
        have hw5 := wr_two d1 d2 hs2
        have hw6 := wr_three M1 d1 d2 hs3
        generalize hq : (wr.alloc (.cells #[.int .u8 x.op, .int .i64 x.A, .int .i64 x.B, .slice au nu cu, .slice a1 n1 c1, .slice a2 n2 c2, .bool b] 261)).drew = WD0
        have HQ := hid hq
        have BD := hid (show Below w0.heap.size w0 WD0 from by rw [← hq]; exact drew_bel' (n := 1) (HB.out.trans (B1.out.mono HB.out.size)))
        have BWD := hid (show Below w.heap.size w WD0 from by rw [← hq]; exact drew_bel' (n := 1) B1.out)
        have XD := hid (show Blk WD0 wr.heap.size 261 [.int .u8 x.op, .int .i64 x.A, .int .i64 x.B, .slice au nu cu, .slice a1 n1 c1, .slice a2 n2 c2, .bool b] from by rw [← hq]; exact X1.out)
        clear hq
        have S0 : (WD0.cell? ⟨wr.heap.size, 4, none⟩ = some (.slice a1 n1 c1) ∧ WD0.cell? ⟨wr.heap.size, 5, none⟩ = some (.slice a2 n2 c2) ∧ Hid (Below WD0.heap.size WD0 WD0)) := ⟨XD.out.cell (i := 4) rfl, XD.out.cell (i := 5) rfl, hid (Below.refl _ _)⟩
        have N0 := hid (show ∀ w' w2, (w'.cell? ⟨wr.heap.size, 4, none⟩ = some (.slice a1 n1 c1) ∧ w'.cell? ⟨wr.heap.size, 5, none⟩ = some (.slice a2 n2 c2) ∧ Hid (Below WD0.heap.size WD0 w')) → Below w'.heap.size w' w2 → (w2.cell? ⟨wr.heap.size, 4, none⟩ = some (.slice a1 n1 c1) ∧ w2.cell? ⟨wr.heap.size, 5, none⟩ = some (.slice a2 n2 c2) ∧ Hid (Below WD0.heap.size WD0 w2)) from fun w' w2 h hb => by
          have hb2 := h.2.2.out.trans (hb.mono h.2.2.out.size)
          exact ⟨(XD.out.below hb2).cell (i := 4) rfl, (XD.out.below hb2).cell (i := 5) rfl, hid hb2⟩)
        have E1 := hid (show ∀ w', (w'.cell? ⟨wr.heap.size, 4, none⟩ = some (.slice a1 n1 c1) ∧ w'.cell? ⟨wr.heap.size, 5, none⟩ = some (.slice a2 n2 c2) ∧ Hid (Below WD0.heap.size WD0 w')) → Calls Try.prog 139 #[.slice a1 n1 c1] w' fun e w2 => e = .returned (.int .i64 d1) ∧ (w2.cell? ⟨wr.heap.size, 4, none⟩ = some (.slice a1 n1 c1) ∧ w2.cell? ⟨wr.heap.size, 5, none⟩ = some (.slice a2 n2 c2) ∧ Hid (Below WD0.heap.size WD0 w2)) from fun w' hS => (D1.out w' (BD.out.trans (hS.2.2.out.mono BD.out.size))).mono (by
          rintro e w2 ⟨rfl, hb⟩
          exact ⟨rfl, N0.out _ _ hS hb⟩))
        have E2 := hid (show ∀ w', (w'.cell? ⟨wr.heap.size, 4, none⟩ = some (.slice a1 n1 c1) ∧ w'.cell? ⟨wr.heap.size, 5, none⟩ = some (.slice a2 n2 c2) ∧ Hid (Below WD0.heap.size WD0 w')) → Calls Try.prog 139 #[.slice a2 n2 c2] w' fun e w2 => e = .returned (.int .i64 d2) ∧ (w2.cell? ⟨wr.heap.size, 4, none⟩ = some (.slice a1 n1 c1) ∧ w2.cell? ⟨wr.heap.size, 5, none⟩ = some (.slice a2 n2 c2) ∧ Hid (Below WD0.heap.size WD0 w2)) from fun w' hS => (D2.out w' (BD.out.trans (hS.2.2.out.mono BD.out.size))).mono (by
          rintro e w2 ⟨rfl, hb⟩
          exact ⟨rfl, N0.out _ _ hS hb⟩))
        have F0 := hid (show ∀ w', (w'.cell? ⟨wr.heap.size, 4, none⟩ = some (.slice a1 n1 c1) ∧ w'.cell? ⟨wr.heap.size, 5, none⟩ = some (.slice a2 n2 c2) ∧ Hid (Below WD0.heap.size WD0 w')) → Below w.heap.size w w' from fun w' h => BWD.out.trans (h.2.2.out.mono BWD.out.size))
        clear D1 D2 N0 BD BWD XD X1 B1
        go_wp2_with fail
        go_region_held3 (fun w' => w'.cell? ⟨wr.heap.size, 4, none⟩ = some (.slice a1 n1 c1) ∧ w'.cell? ⟨wr.heap.size, 5, none⟩ = some (.slice a2 n2 c2) ∧ Hid (Below WD0.heap.size WD0 w')) (first | assumption | (rw [HQ.out]; exact S0)) (first | (go_at_call 139; (first | (with_reducible refine (E1.out _ (by assumption)).mono ?_) | (with_reducible refine (E2.out _ (by assumption)).mono ?_)); rintro r w5 ⟨rfl, hS5⟩))
        all_goals
          have HF := hid (F0.out _ (by assumption))
          clear E1 E2 F0
          go_wp2_with fail
          go_roundw
          case rel => exact ⟨k + 1, by omega, by first | (rw [HST.out]; done) | (rw [HST.out]; simp; omega) | (rw [HST.out, hw5, hw6]; simp; omega), by go_num, HF⟩
          case measure => simp [RowKit.intOf]; omega
    · obtain rfl : k = ps.length := by omega
      have hnl : ¬ ((ps.length : Int) < (ps.length : Int)) := by omega
      rw [List.take_of_length_le (Nat.le_refl _)]
      go_wp2_with fail
      go_ret
      exact ⟨rfl, BL.out⟩

theorem kinds_node {w0 : World} {F : Nat → Prop} {v : Value} {xs : List It} {d s : Nat} (h : NodeI w0 F v xs d s) (hl : xs.length ≤ 900) : KindD w0 v d ∧ KindS w0 v s := by
  induction h with
  | single x u hx hu => exact ⟨.inl ⟨_, rfl, rfl⟩, .inl ⟨_, rfl, rfl⟩⟩
  | block x u t ps hx hu ht hp ih =>
    simp only [List.length_cons, List.length_append, List.length_nil] at hl
    have hk := fun p (g : p ∈ ps) => ih p g (by have := cat_mem g; omega)
    have hle := PartsI.le hp
    obtain ⟨au, cu, rfl, -⟩ := own_sl hu
    obtain ⟨a1, c1, rfl⟩ := ht.open
    exact ⟨.inr (.inl ⟨x, _, _, _, _, _, _, _, rfl, rfl, deep_row w0 F _ ps ht (fun p g => (hk p g).1) (by omega)⟩), .inr (.inl ⟨x, _, _, _, _, _, _, _, rfl, rfl, size_row w0 F _ ps ht (fun p g => (hk p g).2) (by omega)⟩)⟩
  | half x u t ps hx hu ht hp ih =>
    simp only [List.length_cons, List.length_append, List.length_nil] at hl
    have hk := fun p (g : p ∈ ps) => ih p g (by have := cat_mem g; omega)
    have hle := PartsI.le hp
    obtain ⟨au, cu, rfl, -⟩ := own_sl hu
    obtain ⟨a1, c1, rfl⟩ := ht.open
    have hn : RowF w0 F (.slice none 0 0) [] := ⟨World.ownsRow_nil _ _ _ _, fun k g => by simp [Value.ownBlock] at g⟩
    refine ⟨.inr (.inr ⟨x, _, _, _, _, _, _, _, _, _, _, mostD ps, 0, rfl, by omega, deep_row w0 F _ ps ht (fun p g => (hk p g).1) (by omega), deep_row w0 F _ [] hn (fun p g => by cases g) (by simp [mostD])⟩), .inr (.inr ⟨x, _, _, _, _, _, _, _, _, _, _, sumS ps, 0, rfl, by omega, size_row w0 F _ ps ht (fun p g => (hk p g).2) (by omega), size_row w0 F _ [] hn (fun p g => by cases g) (by simp [sumS])⟩)⟩
  | both x u t o ps qs hx hu ht hp ho hq ih ih2 =>
    simp only [List.length_cons, List.length_append, List.length_nil] at hl
    have hk := fun p (g : p ∈ ps) => ih p g (by have := cat_mem g; omega)
    have hk2 := fun p (g : p ∈ qs) => ih2 p g (by have := cat_mem g; omega)
    have hle := PartsI.le hp
    have hle2 := PartsI.le hq
    obtain ⟨au, cu, rfl, -⟩ := own_sl hu
    obtain ⟨a1, c1, rfl⟩ := ht.open
    obtain ⟨a2, c2, rfl⟩ := ho.open
    exact ⟨.inr (.inr ⟨x, _, _, _, _, _, _, _, _, _, _, mostD ps, mostD qs, rfl, rfl, deep_row w0 F _ ps ht (fun p g => (hk p g).1) (by omega), deep_row w0 F _ qs ho (fun p g => (hk2 p g).1) (by omega)⟩), .inr (.inr ⟨x, _, _, _, _, _, _, _, _, _, _, sumS ps, sumS qs, rfl, rfl, size_row w0 F _ ps ht (fun p g => (hk p g).2) (by omega), size_row w0 F _ qs ho (fun p g => (hk2 p g).2) (by omega)⟩)⟩

set_option maxRecDepth 100000 in
set_option maxHeartbeats 1000000 in
theorem deep_tree (w0 : World) (F : Nat → Prop) (t : Value) (ps : List Nd) (hr : RowF w0 F t ps) (hp : PartsI w0 F ps) (B : Nat) (hB : Blk w0 B 214 [t]) (hl : (cat ps).length ≤ 900) (w : World) (hb : Below w0.heap.size w0 w) :
    Calls Try.prog 73 #[.pointer (some ⟨B, 0, none⟩)] w fun e w' => e = .returned (.int .i64 (mostD ps : Nat)) ∧ Below w.heap.size w w' := by
  have HC := hid (deep_row w0 F t ps hr (fun p g => (kinds_node (hp p g) (by have := cat_mem g; omega)).1) (by have := hp.le; omega) w hb)
  obtain ⟨a1, c1, rfl⟩ := hr.open
  have x0 := cell_below hb (hB.cell (i := 0) rfl)
  clear hr hp hB hb hl
  generalize mostD ps = M at *
  go_enter Try.func73, Try.ntmps73
  go_wp2_with fail
  refine HC.out.mono ?_
  rintro q wn ⟨rfl, bn⟩
  have BN := hid bn
  clear bn
  go_wp2_with fail
  go_ret
  exact ⟨rfl, BN.out⟩

set_option maxRecDepth 100000 in
set_option maxHeartbeats 1000000 in
theorem size_tree (w0 : World) (F : Nat → Prop) (t : Value) (ps : List Nd) (hr : RowF w0 F t ps) (hp : PartsI w0 F ps) (B : Nat) (hB : Blk w0 B 214 [t]) (hl : (cat ps).length ≤ 900) (w : World) (hb : Below w0.heap.size w0 w) :
    Calls Try.prog 74 #[.pointer (some ⟨B, 0, none⟩)] w fun e w' => e = .returned (.int .i64 (sumS ps : Nat)) ∧ Below w.heap.size w w' := by
  have HC := hid (size_row w0 F t ps hr (fun p g => (kinds_node (hp p g) (by have := cat_mem g; omega)).2) (by have := hp.le; omega) w hb)
  obtain ⟨a1, c1, rfl⟩ := hr.open
  have x0 := cell_below hb (hB.cell (i := 0) rfl)
  clear hr hp hB hb hl
  generalize sumS ps = M at *
  go_enter Try.func74, Try.ntmps74
  go_wp2_with fail
  refine HC.out.mono ?_
  rintro q wn ⟨rfl, bn⟩
  have BN := hid bn
  clear bn
  go_wp2_with fail
  go_ret
  exact ⟨rfl, BN.out⟩
end Go.Proofs.Ytomaiolhaenmhaa
