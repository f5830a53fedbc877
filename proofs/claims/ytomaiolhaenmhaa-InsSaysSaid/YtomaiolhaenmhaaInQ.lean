/-
  INSTRUCTIONS: the reference's InsPlain. Condition: the number is a byte.
-/
import Derived.Test.YtomaiolhaenmhaaInP
namespace Go.Proofs.Ytomaiolhaenmhaa
open Go.RowKit Go.Lib

theorem S_get (l : List UInt8) (i : Nat) (h : i < (S l).size) : ((S l)[i]'h) ∈ l := by
  have h2 : (S l).data[i]'h ∈ (S l).data.toList := Array.mem_toList_iff.2 (Array.getElem_mem h)
  rw [S_data] at h2
  exact h2
theorem kinds_lit (l : List UInt8) (xs : List Int) (hx : kindsL l = xs) (h : l.length ≤ 1000) (ha : ∀ b ∈ l, b.toNat < 128) (w : World) : Calls Try.prog 127 #[.string (S l)] w fun e w' => ∃ v, e = .returned v ∧ Kinds w' v xs ∧ Below w.heap.size w w' := by
  refine (kinds_any w (S l) (by rw [S_size]; omega) (fun i hi => ha _ (S_get l i hi))).mono ?_
  rintro e w' ⟨v, rfl, ho, hb⟩
  rw [S_data, hx] at ho
  exact ⟨v, rfl, OwnI.ints ho, hb⟩

set_option maxRecDepth 100000 in
set_option maxHeartbeats 2000000 in
theorem rplain_0 (op : Nat) (hop : op < 256) (ht : tT op = 0) (w : World) :
    Calls Try.prog 55 #[.int .u8 op] w fun e w' => ∃ v u, e = .returned (.tuple #[v, u, .bool (decide (0 ≠ 0))]) ∧ Kinds w' v (kI (0)) ∧ Kinds w' u (kO (0)) ∧ Below w.heap.size w w' := by
  have HT := hid (fun w2 => takes_any op hop w2)
  rw [ht, show S (tkL 0) = ⟨#[63]⟩ from rfl] at HT
  clear ht
  go_enter Try.func55, Try.ntmps55
  go_wp2_with (go_at_call 125; refine (HT.out _).mono ?_; rintro r w1 ⟨rfl, rfl⟩)
  go_ret3
  exact ⟨_, _, rfl, kinds_nil _, kinds_nil _, Below.refl _ _⟩

set_option maxRecDepth 100000 in
set_option maxHeartbeats 2000000 in
theorem rplain_1 (op : Nat) (hop : op < 256) (ht : tT op = 1) (w : World) :
    Calls Try.prog 55 #[.int .u8 op] w fun e w' => ∃ v u, e = .returned (.tuple #[v, u, .bool (decide (1 ≠ 0))]) ∧ Kinds w' v (kI (1)) ∧ Kinds w' u (kO (1)) ∧ Below w.heap.size w w' := by
  have HT := hid (fun w2 => takes_any op hop w2)
  rw [ht, show S (tkL 1) = ⟨#[105, 62, 105]⟩ from rfl] at HT
  have HCU : Hid (∀ w', Calls Try.prog 126 #[.string ⟨#[105, 62, 105]⟩, .string ⟨#[62]⟩] w' fun e w2 => e = .returned (.tuple #[.string (S [105]), .string (S [105]), .bool true]) ∧ Below w'.heap.size w' w2) := hid (fun w' => cut_any [105] [105] 62 (by decide) w' (by decide) (by decide))
  have HK1 := hid (fun w' => kinds_lit [105] (kI 1) (by decide) (by decide) (by decide) w')
  have HK2 := hid (fun w' => kinds_lit [105] (kO 1) (by decide) (by decide) (by decide) w')
  clear ht
  generalize kI 1 = XI at *
  generalize kO 1 = XO at *
  generalize S [105] = SA at *
  
  go_enter Try.func55, Try.ntmps55
  go_wp2_with (first | (go_at_call 125; refine (HT.out _).mono ?_; rintro r w1 ⟨rfl, rfl⟩) | (go_at_call 126; refine (HCU.out _).mono ?_; rintro r w2 ⟨rfl, hb2⟩; have B2 := hid hb2; clear hb2))
  refine (HK1.out _).mono ?_
  rintro r w3 ⟨v, rfl, hk3, hb3⟩
  have B3 := hid (B2.out.trans (hb3.mono B2.out.size))
  have K3 := hid hk3
  clear hk3 hb3
  go_wp2_with fail
  refine (HK2.out _).mono ?_
  rintro r w4 ⟨u, rfl, hk4, hb4⟩
  have K4 := hid (L1.below K3.out hb4)
  have B4 := hid (B3.out.trans (hb4.mono B3.out.size))
  have U4 := hid hk4
  clear hk4 hb4
  go_wp2_with fail
  go_ret3
  exact ⟨_, _, rfl, K4.out, U4.out, B4.out⟩

set_option maxRecDepth 100000 in
set_option maxHeartbeats 2000000 in
theorem rplain_2 (op : Nat) (hop : op < 256) (ht : tT op = 2) (w : World) :
    Calls Try.prog 55 #[.int .u8 op] w fun e w' => ∃ v u, e = .returned (.tuple #[v, u, .bool (decide (2 ≠ 0))]) ∧ Kinds w' v (kI (2)) ∧ Kinds w' u (kO (2)) ∧ Below w.heap.size w w' := by
  have HT := hid (fun w2 => takes_any op hop w2)
  rw [ht, show S (tkL 2) = ⟨#[108, 62, 105]⟩ from rfl] at HT
  have HCU : Hid (∀ w', Calls Try.prog 126 #[.string ⟨#[108, 62, 105]⟩, .string ⟨#[62]⟩] w' fun e w2 => e = .returned (.tuple #[.string (S [108]), .string (S [105]), .bool true]) ∧ Below w'.heap.size w' w2) := hid (fun w' => cut_any [108] [105] 62 (by decide) w' (by decide) (by decide))
  have HK1 := hid (fun w' => kinds_lit [108] (kI 2) (by decide) (by decide) (by decide) w')
  have HK2 := hid (fun w' => kinds_lit [105] (kO 2) (by decide) (by decide) (by decide) w')
  clear ht
  generalize kI 2 = XI at *
  generalize kO 2 = XO at *
  generalize S [108] = SA at *
  generalize S [105] = SB at *
  go_enter Try.func55, Try.ntmps55
  go_wp2_with (first | (go_at_call 125; refine (HT.out _).mono ?_; rintro r w1 ⟨rfl, rfl⟩) | (go_at_call 126; refine (HCU.out _).mono ?_; rintro r w2 ⟨rfl, hb2⟩; have B2 := hid hb2; clear hb2))
  refine (HK1.out _).mono ?_
  rintro r w3 ⟨v, rfl, hk3, hb3⟩
  have B3 := hid (B2.out.trans (hb3.mono B2.out.size))
  have K3 := hid hk3
  clear hk3 hb3
  go_wp2_with fail
  refine (HK2.out _).mono ?_
  rintro r w4 ⟨u, rfl, hk4, hb4⟩
  have K4 := hid (L1.below K3.out hb4)
  have B4 := hid (B3.out.trans (hb4.mono B3.out.size))
  have U4 := hid hk4
  clear hk4 hb4
  go_wp2_with fail
  go_ret3
  exact ⟨_, _, rfl, K4.out, U4.out, B4.out⟩

set_option maxRecDepth 100000 in
set_option maxHeartbeats 2000000 in
theorem rplain_3 (op : Nat) (hop : op < 256) (ht : tT op = 3) (w : World) :
    Calls Try.prog 55 #[.int .u8 op] w fun e w' => ∃ v u, e = .returned (.tuple #[v, u, .bool (decide (3 ≠ 0))]) ∧ Kinds w' v (kI (3)) ∧ Kinds w' u (kO (3)) ∧ Below w.heap.size w w' := by
  have HT := hid (fun w2 => takes_any op hop w2)
  rw [ht, show S (tkL 3) = ⟨#[105, 105, 62, 105]⟩ from rfl] at HT
  have HCU : Hid (∀ w', Calls Try.prog 126 #[.string ⟨#[105, 105, 62, 105]⟩, .string ⟨#[62]⟩] w' fun e w2 => e = .returned (.tuple #[.string (S [105, 105]), .string (S [105]), .bool true]) ∧ Below w'.heap.size w' w2) := hid (fun w' => cut_any [105, 105] [105] 62 (by decide) w' (by decide) (by decide))
  have HK1 := hid (fun w' => kinds_lit [105, 105] (kI 3) (by decide) (by decide) (by decide) w')
  have HK2 := hid (fun w' => kinds_lit [105] (kO 3) (by decide) (by decide) (by decide) w')
  clear ht
  generalize kI 3 = XI at *
  generalize kO 3 = XO at *
  generalize S [105, 105] = SA at *
  generalize S [105] = SB at *
  go_enter Try.func55, Try.ntmps55
  go_wp2_with (first | (go_at_call 125; refine (HT.out _).mono ?_; rintro r w1 ⟨rfl, rfl⟩) | (go_at_call 126; refine (HCU.out _).mono ?_; rintro r w2 ⟨rfl, hb2⟩; have B2 := hid hb2; clear hb2))
  refine (HK1.out _).mono ?_
  rintro r w3 ⟨v, rfl, hk3, hb3⟩
  have B3 := hid (B2.out.trans (hb3.mono B2.out.size))
  have K3 := hid hk3
  clear hk3 hb3
  go_wp2_with fail
  refine (HK2.out _).mono ?_
  rintro r w4 ⟨u, rfl, hk4, hb4⟩
  have K4 := hid (L1.below K3.out hb4)
  have B4 := hid (B3.out.trans (hb4.mono B3.out.size))
  have U4 := hid hk4
  clear hk4 hb4
  go_wp2_with fail
  go_ret3
  exact ⟨_, _, rfl, K4.out, U4.out, B4.out⟩

set_option maxRecDepth 100000 in
set_option maxHeartbeats 2000000 in
theorem rplain_4 (op : Nat) (hop : op < 256) (ht : tT op = 4) (w : World) :
    Calls Try.prog 55 #[.int .u8 op] w fun e w' => ∃ v u, e = .returned (.tuple #[v, u, .bool (decide (4 ≠ 0))]) ∧ Kinds w' v (kI (4)) ∧ Kinds w' u (kO (4)) ∧ Below w.heap.size w w' := by
  have HT := hid (fun w2 => takes_any op hop w2)
  rw [ht, show S (tkL 4) = ⟨#[108, 108, 62, 105]⟩ from rfl] at HT
  have HCU : Hid (∀ w', Calls Try.prog 126 #[.string ⟨#[108, 108, 62, 105]⟩, .string ⟨#[62]⟩] w' fun e w2 => e = .returned (.tuple #[.string (S [108, 108]), .string (S [105]), .bool true]) ∧ Below w'.heap.size w' w2) := hid (fun w' => cut_any [108, 108] [105] 62 (by decide) w' (by decide) (by decide))
  have HK1 := hid (fun w' => kinds_lit [108, 108] (kI 4) (by decide) (by decide) (by decide) w')
  have HK2 := hid (fun w' => kinds_lit [105] (kO 4) (by decide) (by decide) (by decide) w')
  clear ht
  generalize kI 4 = XI at *
  generalize kO 4 = XO at *
  generalize S [108, 108] = SA at *
  generalize S [105] = SB at *
  go_enter Try.func55, Try.ntmps55
  go_wp2_with (first | (go_at_call 125; refine (HT.out _).mono ?_; rintro r w1 ⟨rfl, rfl⟩) | (go_at_call 126; refine (HCU.out _).mono ?_; rintro r w2 ⟨rfl, hb2⟩; have B2 := hid hb2; clear hb2))
  refine (HK1.out _).mono ?_
  rintro r w3 ⟨v, rfl, hk3, hb3⟩
  have B3 := hid (B2.out.trans (hb3.mono B2.out.size))
  have K3 := hid hk3
  clear hk3 hb3
  go_wp2_with fail
  refine (HK2.out _).mono ?_
  rintro r w4 ⟨u, rfl, hk4, hb4⟩
  have K4 := hid (L1.below K3.out hb4)
  have B4 := hid (B3.out.trans (hb4.mono B3.out.size))
  have U4 := hid hk4
  clear hk4 hb4
  go_wp2_with fail
  go_ret3
  exact ⟨_, _, rfl, K4.out, U4.out, B4.out⟩

set_option maxRecDepth 100000 in
set_option maxHeartbeats 2000000 in
theorem rplain_5 (op : Nat) (hop : op < 256) (ht : tT op = 5) (w : World) :
    Calls Try.prog 55 #[.int .u8 op] w fun e w' => ∃ v u, e = .returned (.tuple #[v, u, .bool (decide (5 ≠ 0))]) ∧ Kinds w' v (kI (5)) ∧ Kinds w' u (kO (5)) ∧ Below w.heap.size w w' := by
  have HT := hid (fun w2 => takes_any op hop w2)
  rw [ht, show S (tkL 5) = ⟨#[108, 62, 108]⟩ from rfl] at HT
  have HCU : Hid (∀ w', Calls Try.prog 126 #[.string ⟨#[108, 62, 108]⟩, .string ⟨#[62]⟩] w' fun e w2 => e = .returned (.tuple #[.string (S [108]), .string (S [108]), .bool true]) ∧ Below w'.heap.size w' w2) := hid (fun w' => cut_any [108] [108] 62 (by decide) w' (by decide) (by decide))
  have HK1 := hid (fun w' => kinds_lit [108] (kI 5) (by decide) (by decide) (by decide) w')
  have HK2 := hid (fun w' => kinds_lit [108] (kO 5) (by decide) (by decide) (by decide) w')
  clear ht
  generalize kI 5 = XI at *
  generalize kO 5 = XO at *
  generalize S [108] = SA at *
  
  go_enter Try.func55, Try.ntmps55
  go_wp2_with (first | (go_at_call 125; refine (HT.out _).mono ?_; rintro r w1 ⟨rfl, rfl⟩) | (go_at_call 126; refine (HCU.out _).mono ?_; rintro r w2 ⟨rfl, hb2⟩; have B2 := hid hb2; clear hb2))
  refine (HK1.out _).mono ?_
  rintro r w3 ⟨v, rfl, hk3, hb3⟩
  have B3 := hid (B2.out.trans (hb3.mono B2.out.size))
  have K3 := hid hk3
  clear hk3 hb3
  go_wp2_with fail
  refine (HK2.out _).mono ?_
  rintro r w4 ⟨u, rfl, hk4, hb4⟩
  have K4 := hid (L1.below K3.out hb4)
  have B4 := hid (B3.out.trans (hb4.mono B3.out.size))
  have U4 := hid hk4
  clear hk4 hb4
  go_wp2_with fail
  go_ret3
  exact ⟨_, _, rfl, K4.out, U4.out, B4.out⟩

set_option maxRecDepth 100000 in
set_option maxHeartbeats 2000000 in
theorem rplain_6 (op : Nat) (hop : op < 256) (ht : tT op = 6) (w : World) :
    Calls Try.prog 55 #[.int .u8 op] w fun e w' => ∃ v u, e = .returned (.tuple #[v, u, .bool (decide (6 ≠ 0))]) ∧ Kinds w' v (kI (6)) ∧ Kinds w' u (kO (6)) ∧ Below w.heap.size w w' := by
  have HT := hid (fun w2 => takes_any op hop w2)
  rw [ht, show S (tkL 6) = ⟨#[108, 108, 62, 108]⟩ from rfl] at HT
  have HCU : Hid (∀ w', Calls Try.prog 126 #[.string ⟨#[108, 108, 62, 108]⟩, .string ⟨#[62]⟩] w' fun e w2 => e = .returned (.tuple #[.string (S [108, 108]), .string (S [108]), .bool true]) ∧ Below w'.heap.size w' w2) := hid (fun w' => cut_any [108, 108] [108] 62 (by decide) w' (by decide) (by decide))
  have HK1 := hid (fun w' => kinds_lit [108, 108] (kI 6) (by decide) (by decide) (by decide) w')
  have HK2 := hid (fun w' => kinds_lit [108] (kO 6) (by decide) (by decide) (by decide) w')
  clear ht
  generalize kI 6 = XI at *
  generalize kO 6 = XO at *
  generalize S [108, 108] = SA at *
  generalize S [108] = SB at *
  go_enter Try.func55, Try.ntmps55
  go_wp2_with (first | (go_at_call 125; refine (HT.out _).mono ?_; rintro r w1 ⟨rfl, rfl⟩) | (go_at_call 126; refine (HCU.out _).mono ?_; rintro r w2 ⟨rfl, hb2⟩; have B2 := hid hb2; clear hb2))
  refine (HK1.out _).mono ?_
  rintro r w3 ⟨v, rfl, hk3, hb3⟩
  have B3 := hid (B2.out.trans (hb3.mono B2.out.size))
  have K3 := hid hk3
  clear hk3 hb3
  go_wp2_with fail
  refine (HK2.out _).mono ?_
  rintro r w4 ⟨u, rfl, hk4, hb4⟩
  have K4 := hid (L1.below K3.out hb4)
  have B4 := hid (B3.out.trans (hb4.mono B3.out.size))
  have U4 := hid hk4
  clear hk4 hb4
  go_wp2_with fail
  go_ret3
  exact ⟨_, _, rfl, K4.out, U4.out, B4.out⟩

set_option maxRecDepth 100000 in
set_option maxHeartbeats 2000000 in
theorem rplain_7 (op : Nat) (hop : op < 256) (ht : tT op = 7) (w : World) :
    Calls Try.prog 55 #[.int .u8 op] w fun e w' => ∃ v u, e = .returned (.tuple #[v, u, .bool (decide (7 ≠ 0))]) ∧ Kinds w' v (kI (7)) ∧ Kinds w' u (kO (7)) ∧ Below w.heap.size w w' := by
  have HT := hid (fun w2 => takes_any op hop w2)
  rw [ht, show S (tkL 7) = ⟨#[105, 62, 108]⟩ from rfl] at HT
  have HCU : Hid (∀ w', Calls Try.prog 126 #[.string ⟨#[105, 62, 108]⟩, .string ⟨#[62]⟩] w' fun e w2 => e = .returned (.tuple #[.string (S [105]), .string (S [108]), .bool true]) ∧ Below w'.heap.size w' w2) := hid (fun w' => cut_any [105] [108] 62 (by decide) w' (by decide) (by decide))
  have HK1 := hid (fun w' => kinds_lit [105] (kI 7) (by decide) (by decide) (by decide) w')
  have HK2 := hid (fun w' => kinds_lit [108] (kO 7) (by decide) (by decide) (by decide) w')
  clear ht
  generalize kI 7 = XI at *
  generalize kO 7 = XO at *
  generalize S [105] = SA at *
  generalize S [108] = SB at *
  go_enter Try.func55, Try.ntmps55
  go_wp2_with (first | (go_at_call 125; refine (HT.out _).mono ?_; rintro r w1 ⟨rfl, rfl⟩) | (go_at_call 126; refine (HCU.out _).mono ?_; rintro r w2 ⟨rfl, hb2⟩; have B2 := hid hb2; clear hb2))
  refine (HK1.out _).mono ?_
  rintro r w3 ⟨v, rfl, hk3, hb3⟩
  have B3 := hid (B2.out.trans (hb3.mono B2.out.size))
  have K3 := hid hk3
  clear hk3 hb3
  go_wp2_with fail
  refine (HK2.out _).mono ?_
  rintro r w4 ⟨u, rfl, hk4, hb4⟩
  have K4 := hid (L1.below K3.out hb4)
  have B4 := hid (B3.out.trans (hb4.mono B3.out.size))
  have U4 := hid hk4
  clear hk4 hb4
  go_wp2_with fail
  go_ret3
  exact ⟨_, _, rfl, K4.out, U4.out, B4.out⟩

set_option maxRecDepth 100000 in
set_option maxHeartbeats 2000000 in
theorem rplain_8 (op : Nat) (hop : op < 256) (ht : tT op = 8) (w : World) :
    Calls Try.prog 55 #[.int .u8 op] w fun e w' => ∃ v u, e = .returned (.tuple #[v, u, .bool (decide (8 ≠ 0))]) ∧ Kinds w' v (kI (8)) ∧ Kinds w' u (kO (8)) ∧ Below w.heap.size w w' := by
  have HT := hid (fun w2 => takes_any op hop w2)
  rw [ht, show S (tkL 8) = ⟨#[105, 105, 62]⟩ from rfl] at HT
  have HCU : Hid (∀ w', Calls Try.prog 126 #[.string ⟨#[105, 105, 62]⟩, .string ⟨#[62]⟩] w' fun e w2 => e = .returned (.tuple #[.string (S [105, 105]), .string (S []), .bool true]) ∧ Below w'.heap.size w' w2) := hid (fun w' => cut_any [105, 105] [] 62 (by decide) w' (by decide) (by decide))
  have HK1 := hid (fun w' => kinds_lit [105, 105] (kI 8) (by decide) (by decide) (by decide) w')
  have HK2 := hid (fun w' => kinds_lit [] (kO 8) (by decide) (by decide) (by decide) w')
  clear ht
  generalize kI 8 = XI at *
  generalize kO 8 = XO at *
  generalize S [105, 105] = SA at *
  generalize S [] = SB at *
  go_enter Try.func55, Try.ntmps55
  go_wp2_with (first | (go_at_call 125; refine (HT.out _).mono ?_; rintro r w1 ⟨rfl, rfl⟩) | (go_at_call 126; refine (HCU.out _).mono ?_; rintro r w2 ⟨rfl, hb2⟩; have B2 := hid hb2; clear hb2))
  refine (HK1.out _).mono ?_
  rintro r w3 ⟨v, rfl, hk3, hb3⟩
  have B3 := hid (B2.out.trans (hb3.mono B2.out.size))
  have K3 := hid hk3
  clear hk3 hb3
  go_wp2_with fail
  refine (HK2.out _).mono ?_
  rintro r w4 ⟨u, rfl, hk4, hb4⟩
  have K4 := hid (L1.below K3.out hb4)
  have B4 := hid (B3.out.trans (hb4.mono B3.out.size))
  have U4 := hid hk4
  clear hk4 hb4
  go_wp2_with fail
  go_ret3
  exact ⟨_, _, rfl, K4.out, U4.out, B4.out⟩

set_option maxRecDepth 100000 in
set_option maxHeartbeats 2000000 in
theorem rplain_9 (op : Nat) (hop : op < 256) (ht : tT op = 9) (w : World) :
    Calls Try.prog 55 #[.int .u8 op] w fun e w' => ∃ v u, e = .returned (.tuple #[v, u, .bool (decide (9 ≠ 0))]) ∧ Kinds w' v (kI (9)) ∧ Kinds w' u (kO (9)) ∧ Below w.heap.size w w' := by
  have HT := hid (fun w2 => takes_any op hop w2)
  rw [ht, show S (tkL 9) = ⟨#[105, 108, 62]⟩ from rfl] at HT
  have HCU : Hid (∀ w', Calls Try.prog 126 #[.string ⟨#[105, 108, 62]⟩, .string ⟨#[62]⟩] w' fun e w2 => e = .returned (.tuple #[.string (S [105, 108]), .string (S []), .bool true]) ∧ Below w'.heap.size w' w2) := hid (fun w' => cut_any [105, 108] [] 62 (by decide) w' (by decide) (by decide))
  have HK1 := hid (fun w' => kinds_lit [105, 108] (kI 9) (by decide) (by decide) (by decide) w')
  have HK2 := hid (fun w' => kinds_lit [] (kO 9) (by decide) (by decide) (by decide) w')
  clear ht
  generalize kI 9 = XI at *
  generalize kO 9 = XO at *
  generalize S [105, 108] = SA at *
  generalize S [] = SB at *
  go_enter Try.func55, Try.ntmps55
  go_wp2_with (first | (go_at_call 125; refine (HT.out _).mono ?_; rintro r w1 ⟨rfl, rfl⟩) | (go_at_call 126; refine (HCU.out _).mono ?_; rintro r w2 ⟨rfl, hb2⟩; have B2 := hid hb2; clear hb2))
  refine (HK1.out _).mono ?_
  rintro r w3 ⟨v, rfl, hk3, hb3⟩
  have B3 := hid (B2.out.trans (hb3.mono B2.out.size))
  have K3 := hid hk3
  clear hk3 hb3
  go_wp2_with fail
  refine (HK2.out _).mono ?_
  rintro r w4 ⟨u, rfl, hk4, hb4⟩
  have K4 := hid (L1.below K3.out hb4)
  have B4 := hid (B3.out.trans (hb4.mono B3.out.size))
  have U4 := hid hk4
  clear hk4 hb4
  go_wp2_with fail
  go_ret3
  exact ⟨_, _, rfl, K4.out, U4.out, B4.out⟩

set_option maxRecDepth 100000 in
set_option maxHeartbeats 2000000 in
theorem rplain_10 (op : Nat) (hop : op < 256) (ht : tT op = 10) (w : World) :
    Calls Try.prog 55 #[.int .u8 op] w fun e w' => ∃ v u, e = .returned (.tuple #[v, u, .bool (decide (10 ≠ 0))]) ∧ Kinds w' v (kI (10)) ∧ Kinds w' u (kO (10)) ∧ Below w.heap.size w w' := by
  have HT := hid (fun w2 => takes_any op hop w2)
  rw [ht, show S (tkL 10) = ⟨#[62, 105]⟩ from rfl] at HT
  have HCU : Hid (∀ w', Calls Try.prog 126 #[.string ⟨#[62, 105]⟩, .string ⟨#[62]⟩] w' fun e w2 => e = .returned (.tuple #[.string (S []), .string (S [105]), .bool true]) ∧ Below w'.heap.size w' w2) := hid (fun w' => cut_any [] [105] 62 (by decide) w' (by decide) (by decide))
  have HK1 := hid (fun w' => kinds_lit [] (kI 10) (by decide) (by decide) (by decide) w')
  have HK2 := hid (fun w' => kinds_lit [105] (kO 10) (by decide) (by decide) (by decide) w')
  clear ht
  generalize kI 10 = XI at *
  generalize kO 10 = XO at *
  generalize S [] = SA at *
  generalize S [105] = SB at *
  go_enter Try.func55, Try.ntmps55
  go_wp2_with (first | (go_at_call 125; refine (HT.out _).mono ?_; rintro r w1 ⟨rfl, rfl⟩) | (go_at_call 126; refine (HCU.out _).mono ?_; rintro r w2 ⟨rfl, hb2⟩; have B2 := hid hb2; clear hb2))
  refine (HK1.out _).mono ?_
  rintro r w3 ⟨v, rfl, hk3, hb3⟩
  have B3 := hid (B2.out.trans (hb3.mono B2.out.size))
  have K3 := hid hk3
  clear hk3 hb3
  go_wp2_with fail
  refine (HK2.out _).mono ?_
  rintro r w4 ⟨u, rfl, hk4, hb4⟩
  have K4 := hid (L1.below K3.out hb4)
  have B4 := hid (B3.out.trans (hb4.mono B3.out.size))
  have U4 := hid hk4
  clear hk4 hb4
  go_wp2_with fail
  go_ret3
  exact ⟨_, _, rfl, K4.out, U4.out, B4.out⟩

set_option maxRecDepth 100000 in
set_option maxHeartbeats 2000000 in
theorem rplain_11 (op : Nat) (hop : op < 256) (ht : tT op = 11) (w : World) :
    Calls Try.prog 55 #[.int .u8 op] w fun e w' => ∃ v u, e = .returned (.tuple #[v, u, .bool (decide (11 ≠ 0))]) ∧ Kinds w' v (kI (11)) ∧ Kinds w' u (kO (11)) ∧ Below w.heap.size w w' := by
  have HT := hid (fun w2 => takes_any op hop w2)
  rw [ht, show S (tkL 11) = ⟨#[62, 108]⟩ from rfl] at HT
  have HCU : Hid (∀ w', Calls Try.prog 126 #[.string ⟨#[62, 108]⟩, .string ⟨#[62]⟩] w' fun e w2 => e = .returned (.tuple #[.string (S []), .string (S [108]), .bool true]) ∧ Below w'.heap.size w' w2) := hid (fun w' => cut_any [] [108] 62 (by decide) w' (by decide) (by decide))
  have HK1 := hid (fun w' => kinds_lit [] (kI 11) (by decide) (by decide) (by decide) w')
  have HK2 := hid (fun w' => kinds_lit [108] (kO 11) (by decide) (by decide) (by decide) w')
  clear ht
  generalize kI 11 = XI at *
  generalize kO 11 = XO at *
  generalize S [] = SA at *
  generalize S [108] = SB at *
  go_enter Try.func55, Try.ntmps55
  go_wp2_with (first | (go_at_call 125; refine (HT.out _).mono ?_; rintro r w1 ⟨rfl, rfl⟩) | (go_at_call 126; refine (HCU.out _).mono ?_; rintro r w2 ⟨rfl, hb2⟩; have B2 := hid hb2; clear hb2))
  refine (HK1.out _).mono ?_
  rintro r w3 ⟨v, rfl, hk3, hb3⟩
  have B3 := hid (B2.out.trans (hb3.mono B2.out.size))
  have K3 := hid hk3
  clear hk3 hb3
  go_wp2_with fail
  refine (HK2.out _).mono ?_
  rintro r w4 ⟨u, rfl, hk4, hb4⟩
  have K4 := hid (L1.below K3.out hb4)
  have B4 := hid (B3.out.trans (hb4.mono B3.out.size))
  have U4 := hid hk4
  clear hk4 hb4
  go_wp2_with fail
  go_ret3
  exact ⟨_, _, rfl, K4.out, U4.out, B4.out⟩

theorem tT_le : ∀ op : Fin 256, tT op.val ≤ 11 := by decide +kernel
theorem rplain_any (op : Nat) (hop : op < 256) (w : World) :
    Calls Try.prog 55 #[.int .u8 op] w fun e w' => ∃ v u, e = .returned (.tuple #[v, u, .bool (decide (tT op ≠ 0))]) ∧ Kinds w' v (kI (tT op)) ∧ Kinds w' u (kO (tT op)) ∧ Below w.heap.size w w' := by
  have hle := tT_le ⟨op, hop⟩
  simp only at hle
  rcases (by omega : tT op = 0 ∨ tT op = 1 ∨ tT op = 2 ∨ tT op = 3 ∨ tT op = 4 ∨ tT op = 5 ∨ tT op = 6 ∨ tT op = 7 ∨ tT op = 8 ∨ tT op = 9 ∨ tT op = 10 ∨ tT op = 11) with ht | ht | ht | ht | ht | ht | ht | ht | ht | ht | ht | ht
  · rw [ht]; exact rplain_0 op hop ht w
  · rw [ht]; exact rplain_1 op hop ht w
  · rw [ht]; exact rplain_2 op hop ht w
  · rw [ht]; exact rplain_3 op hop ht w
  · rw [ht]; exact rplain_4 op hop ht w
  · rw [ht]; exact rplain_5 op hop ht w
  · rw [ht]; exact rplain_6 op hop ht w
  · rw [ht]; exact rplain_7 op hop ht w
  · rw [ht]; exact rplain_8 op hop ht w
  · rw [ht]; exact rplain_9 op hop ht w
  · rw [ht]; exact rplain_10 op hop ht w
  · rw [ht]; exact rplain_11 op hop ht w
end Go.Proofs.Ytomaiolhaenmhaa
