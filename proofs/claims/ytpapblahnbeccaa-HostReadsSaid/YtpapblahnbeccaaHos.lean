/-
  HOST: what an import takes and gives, on both sides. No condition. Printed by a program of mine.
-/
import Derived.Test.YtpapblahnbeccaaKin
import Derived.Test.YtpapblahnbeccaaEqK
namespace Go.Proofs.Ytpapblahnbeccaa
open Go.RowKit Go.Lib

def kindN (l : List UInt8) : Int := bif l == [115, 101, 108, 102] then 1 else bif l == [115, 101, 110, 100] then 2 else bif l == [116, 97, 107, 101] then 3 else bif l == [115, 112, 97, 119, 110] then 4 else bif l == [108, 105, 110, 107] then 5 else bif l == [117, 110, 108, 105, 110, 107] then 6 else bif l == [119, 97, 116, 99, 104] then 7 else bif l == [101, 120, 105, 116] then 8 else bif l == [116, 114, 97, 112] then 9 else bif l == [108, 111, 103] then 10 else bif l == [110, 111, 119] then 11 else 0
def formL (k : Int) : List UInt8 := if k = 1 then [62, 105] else if k = 2 then [105, 105, 105, 105, 62, 105] else if k = 3 then [108, 105, 105, 62, 105] else if k = 4 then [105, 62, 105] else if k = 5 then [105, 62, 105] else if k = 6 then [105, 62, 105] else if k = 7 then [105, 62, 105] else if k = 8 then [105, 62] else if k = 9 then [105, 62, 105] else if k = 10 then [108, 62] else if k = 11 then [62, 108] else []
def inK (k : Int) : List Int := if k = 1 then [] else if k = 2 then [127, 127, 127, 127] else if k = 3 then [126, 127, 127] else if k = 4 then [127] else if k = 5 then [127] else if k = 6 then [127] else if k = 7 then [127] else if k = 8 then [127] else if k = 9 then [127] else if k = 10 then [126] else if k = 11 then [] else []
def outK (k : Int) : List Int := if k = 1 then [127] else if k = 2 then [127] else if k = 3 then [127] else if k = 4 then [127] else if k = 5 then [127] else if k = 6 then [127] else if k = 7 then [127] else if k = 8 then [] else if k = 9 then [127] else if k = 10 then [] else if k = 11 then [126] else []
theorem kindN_in (l : List UInt8) : kindN l = 0 ∨ kindN l = 1 ∨ kindN l = 2 ∨ kindN l = 3 ∨ kindN l = 4 ∨ kindN l = 5 ∨ kindN l = 6 ∨ kindN l = 7 ∨ kindN l = 8 ∨ kindN l = 9 ∨ kindN l = 10 ∨ kindN l = 11 := by
  unfold kindN
  simp only [cond_eq_ite]
  repeat' split
  all_goals simp

set_option maxRecDepth 100000 in
set_option maxHeartbeats 2000000 in
theorem kindOf_any (s : ByteArray) (w : World) : Calls Try.prog 112 #[.string s] w fun e w' => e = .returned (.int .i64 (kindN s.toList)) ∧ w = w' := by
  go_enter Try.func112, Try.ntmps112
  go_wp2_with fail
  all_goals
    go_ret
    exact ⟨ret1 (by simp only [kindN, *, cond_true, cond_false]), rfl⟩
theorem retIS {a b : Int} {l : List UInt8} (h1 : b = a) (h2 : l = formL a) : Ending.returned (.tuple #[.int .i64 a, .string ⟨l.toArray⟩]) = .returned (.tuple #[.int .i64 b, .string (S (formL b))]) := by subst h1; subst h2; rfl
set_option maxRecDepth 100000 in
set_option maxHeartbeats 2000000 in
theorem hostRow_any (s : ByteArray) (w : World) : Calls Try.prog 113 #[.string s] w fun e w' => e = .returned (.tuple #[.int .i64 (kindN s.toList), .string (S (formL (kindN s.toList)))]) ∧ w = w' := by
  go_enter Try.func113, Try.ntmps113
  go_wp2_with fail
  all_goals
    go_ret2
    exact ⟨retIS (by simp only [kindN, *, cond_true, cond_false]) (by rfl), rfl⟩

theorem blk_ints {w : World} {b n : Nat} {ty : TypeId} {k : IntKind} {xs : List Int} (h : Blk w b ty (xs.map (Value.int k))) (hn : n = xs.length) (hb : n ≤ 9223372036854775807) : Ints w k (.slice (some ⟨b, 0, none⟩) n n) xs := by
  subst hn
  refine ⟨_, _, rfl, Nat.le_refl _, hb, (fun e => by cases e), .inr ⟨b, 0, rfl, fun j hj => ?_⟩⟩
  rw [Nat.zero_add]
  exact h.cell (List.getElem?_eq_getElem hj)
theorem nil_ints (w : World) (k : IntKind) : Ints w k (.slice none 0 0) [] := OwnI.ints (OwnI.nil w 0 k 0)
def SigP (w : World) (k : Int) (e : Ending) (w' : World) : Prop := ∃ vi vo, e = .returned (.tuple #[.agg #[vi, vo], .bool (k != 0)]) ∧ Ints w' .u8 vi (inK k) ∧ Ints w' .u8 vo (outK k) ∧ Below w.heap.size w w'

set_option maxRecDepth 100000 in
set_option maxHeartbeats 2000000 in
theorem sig_0 (s : ByteArray) (w : World) (hk : kindN s.toList = 0) : Calls Try.prog 55 #[.string s] w (SigP w 0) := by
  have HK := hid (fun w' => kindOf_any s w')
  rw [hk] at HK
  clear hk
  go_enter Try.func55, Try.ntmps55
  go_wp2_with (go_at_call 112; refine (HK.out _).mono ?_; rintro e w1 ⟨rfl, rfl⟩)
  refine bodyPost_ret (v := .tuple #[.agg #[.slice none 0 0, .slice none 0 0], .bool false]) (by simp [results, Try.results55, go_sem]) rfl ?_
  refine ⟨_, _, rfl, nil_ints _ _, nil_ints _ _, (((Below.refl _ _).alloc (Nat.le_refl _) _).alloc (by simp) _).alloc (by simp; omega) _⟩

set_option maxRecDepth 100000 in
set_option maxHeartbeats 2000000 in
theorem sig_1 (s : ByteArray) (w : World) (hk : kindN s.toList = 1) : Calls Try.prog 55 #[.string s] w (SigP w 1) := by
  have HK := hid (fun w' => kindOf_any s w')
  rw [hk] at HK
  clear hk
  go_enter Try.func55, Try.ntmps55
  go_wp2_with (go_at_call 112; refine (HK.out _).mono ?_; rintro e w1 ⟨rfl, rfl⟩)
  refine bodyPost_ret (v := .tuple #[.agg #[.slice none 0 0, .slice (some ⟨w.heap.size + 1, 0, none⟩) 1 1], .bool true]) (by simp [results, Try.results55, go_sem]) rfl ?_
  refine ⟨_, _, rfl, nil_ints _ _, blk_ints (xs := [127]) ((Blk.new (World.alloc w _) #[.int .u8 127] 200 _ (by simp)).alloc _) rfl (by decide), (((Below.refl _ _).alloc (Nat.le_refl _) _).alloc (by simp) _).alloc (by simp; omega) _⟩

set_option maxRecDepth 100000 in
set_option maxHeartbeats 2000000 in
theorem sig_2 (s : ByteArray) (w : World) (hk : kindN s.toList = 2) : Calls Try.prog 55 #[.string s] w (SigP w 2) := by
  have HK := hid (fun w' => kindOf_any s w')
  rw [hk] at HK
  clear hk
  go_enter Try.func55, Try.ntmps55
  go_wp2_with (go_at_call 112; refine (HK.out _).mono ?_; rintro e w1 ⟨rfl, rfl⟩)
  refine bodyPost_ret (v := .tuple #[.agg #[.slice (some ⟨w.heap.size + 1 + 1 + 1, 0, none⟩) 4 4, .slice (some ⟨w.heap.size + 1, 0, none⟩) 1 1], .bool true]) (by simp [results, Try.results55, go_sem]) rfl ?_
  refine ⟨_, _, rfl, blk_ints (xs := [127, 127, 127, 127]) (Blk.new (World.alloc (World.alloc (World.alloc w _) _) _) #[.int .u8 127, .int .u8 127, .int .u8 127, .int .u8 127] 200 _ (by simp)) rfl (by decide), blk_ints (xs := [127]) (((Blk.new (World.alloc w _) #[.int .u8 127] 200 _ (by simp)).alloc _).alloc _) rfl (by decide), ((((Below.refl _ _).alloc (Nat.le_refl _) _).alloc (by simp) _).alloc (by simp; omega) _).alloc (by simp; omega) _⟩

set_option maxRecDepth 100000 in
set_option maxHeartbeats 2000000 in
theorem sig_3 (s : ByteArray) (w : World) (hk : kindN s.toList = 3) : Calls Try.prog 55 #[.string s] w (SigP w 3) := by
  have HK := hid (fun w' => kindOf_any s w')
  rw [hk] at HK
  clear hk
  go_enter Try.func55, Try.ntmps55
  go_wp2_with (go_at_call 112; refine (HK.out _).mono ?_; rintro e w1 ⟨rfl, rfl⟩)
  refine bodyPost_ret (v := .tuple #[.agg #[.slice (some ⟨w.heap.size + 1 + 1 + 1, 0, none⟩) 3 3, .slice (some ⟨w.heap.size + 1, 0, none⟩) 1 1], .bool true]) (by simp [results, Try.results55, go_sem]) rfl ?_
  refine ⟨_, _, rfl, blk_ints (xs := [126, 127, 127]) (Blk.new (World.alloc (World.alloc (World.alloc w _) _) _) #[.int .u8 126, .int .u8 127, .int .u8 127] 200 _ (by simp)) rfl (by decide), blk_ints (xs := [127]) (((Blk.new (World.alloc w _) #[.int .u8 127] 200 _ (by simp)).alloc _).alloc _) rfl (by decide), ((((Below.refl _ _).alloc (Nat.le_refl _) _).alloc (by simp) _).alloc (by simp; omega) _).alloc (by simp; omega) _⟩

set_option maxRecDepth 100000 in
set_option maxHeartbeats 2000000 in
theorem sig_4 (s : ByteArray) (w : World) (hk : kindN s.toList = 4) : Calls Try.prog 55 #[.string s] w (SigP w 4) := by
  have HK := hid (fun w' => kindOf_any s w')
  rw [hk] at HK
  clear hk
  go_enter Try.func55, Try.ntmps55
  go_wp2_with (go_at_call 112; refine (HK.out _).mono ?_; rintro e w1 ⟨rfl, rfl⟩)
  refine bodyPost_ret (v := .tuple #[.agg #[.slice (some ⟨w.heap.size + 1 + 1 + 1, 0, none⟩) 1 1, .slice (some ⟨w.heap.size + 1, 0, none⟩) 1 1], .bool true]) (by simp [results, Try.results55, go_sem]) rfl ?_
  refine ⟨_, _, rfl, blk_ints (xs := [127]) (Blk.new (World.alloc (World.alloc (World.alloc w _) _) _) #[.int .u8 127] 200 _ (by simp)) rfl (by decide), blk_ints (xs := [127]) (((Blk.new (World.alloc w _) #[.int .u8 127] 200 _ (by simp)).alloc _).alloc _) rfl (by decide), ((((Below.refl _ _).alloc (Nat.le_refl _) _).alloc (by simp) _).alloc (by simp; omega) _).alloc (by simp; omega) _⟩

set_option maxRecDepth 100000 in
set_option maxHeartbeats 2000000 in
theorem sig_5 (s : ByteArray) (w : World) (hk : kindN s.toList = 5) : Calls Try.prog 55 #[.string s] w (SigP w 5) := by
  have HK := hid (fun w' => kindOf_any s w')
  rw [hk] at HK
  clear hk
  go_enter Try.func55, Try.ntmps55
  go_wp2_with (go_at_call 112; refine (HK.out _).mono ?_; rintro e w1 ⟨rfl, rfl⟩)
  refine bodyPost_ret (v := .tuple #[.agg #[.slice (some ⟨w.heap.size + 1 + 1 + 1, 0, none⟩) 1 1, .slice (some ⟨w.heap.size + 1, 0, none⟩) 1 1], .bool true]) (by simp [results, Try.results55, go_sem]) rfl ?_
  refine ⟨_, _, rfl, blk_ints (xs := [127]) (Blk.new (World.alloc (World.alloc (World.alloc w _) _) _) #[.int .u8 127] 200 _ (by simp)) rfl (by decide), blk_ints (xs := [127]) (((Blk.new (World.alloc w _) #[.int .u8 127] 200 _ (by simp)).alloc _).alloc _) rfl (by decide), ((((Below.refl _ _).alloc (Nat.le_refl _) _).alloc (by simp) _).alloc (by simp; omega) _).alloc (by simp; omega) _⟩

set_option maxRecDepth 100000 in
set_option maxHeartbeats 2000000 in
theorem sig_6 (s : ByteArray) (w : World) (hk : kindN s.toList = 6) : Calls Try.prog 55 #[.string s] w (SigP w 6) := by
  have HK := hid (fun w' => kindOf_any s w')
  rw [hk] at HK
  clear hk
  go_enter Try.func55, Try.ntmps55
  go_wp2_with (go_at_call 112; refine (HK.out _).mono ?_; rintro e w1 ⟨rfl, rfl⟩)
  refine bodyPost_ret (v := .tuple #[.agg #[.slice (some ⟨w.heap.size + 1 + 1 + 1, 0, none⟩) 1 1, .slice (some ⟨w.heap.size + 1, 0, none⟩) 1 1], .bool true]) (by simp [results, Try.results55, go_sem]) rfl ?_
  refine ⟨_, _, rfl, blk_ints (xs := [127]) (Blk.new (World.alloc (World.alloc (World.alloc w _) _) _) #[.int .u8 127] 200 _ (by simp)) rfl (by decide), blk_ints (xs := [127]) (((Blk.new (World.alloc w _) #[.int .u8 127] 200 _ (by simp)).alloc _).alloc _) rfl (by decide), ((((Below.refl _ _).alloc (Nat.le_refl _) _).alloc (by simp) _).alloc (by simp; omega) _).alloc (by simp; omega) _⟩

set_option maxRecDepth 100000 in
set_option maxHeartbeats 2000000 in
theorem sig_7 (s : ByteArray) (w : World) (hk : kindN s.toList = 7) : Calls Try.prog 55 #[.string s] w (SigP w 7) := by
  have HK := hid (fun w' => kindOf_any s w')
  rw [hk] at HK
  clear hk
  go_enter Try.func55, Try.ntmps55
  go_wp2_with (go_at_call 112; refine (HK.out _).mono ?_; rintro e w1 ⟨rfl, rfl⟩)
  refine bodyPost_ret (v := .tuple #[.agg #[.slice (some ⟨w.heap.size + 1 + 1 + 1, 0, none⟩) 1 1, .slice (some ⟨w.heap.size + 1, 0, none⟩) 1 1], .bool true]) (by simp [results, Try.results55, go_sem]) rfl ?_
  refine ⟨_, _, rfl, blk_ints (xs := [127]) (Blk.new (World.alloc (World.alloc (World.alloc w _) _) _) #[.int .u8 127] 200 _ (by simp)) rfl (by decide), blk_ints (xs := [127]) (((Blk.new (World.alloc w _) #[.int .u8 127] 200 _ (by simp)).alloc _).alloc _) rfl (by decide), ((((Below.refl _ _).alloc (Nat.le_refl _) _).alloc (by simp) _).alloc (by simp; omega) _).alloc (by simp; omega) _⟩

set_option maxRecDepth 100000 in
set_option maxHeartbeats 2000000 in
theorem sig_8 (s : ByteArray) (w : World) (hk : kindN s.toList = 8) : Calls Try.prog 55 #[.string s] w (SigP w 8) := by
  have HK := hid (fun w' => kindOf_any s w')
  rw [hk] at HK
  clear hk
  go_enter Try.func55, Try.ntmps55
  go_wp2_with (go_at_call 112; refine (HK.out _).mono ?_; rintro e w1 ⟨rfl, rfl⟩)
  refine bodyPost_ret (v := .tuple #[.agg #[.slice (some ⟨w.heap.size + 1, 0, none⟩) 1 1, .slice none 0 0], .bool true]) (by simp [results, Try.results55, go_sem]) rfl ?_
  refine ⟨_, _, rfl, blk_ints (xs := [127]) ((Blk.new (World.alloc w _) #[.int .u8 127] 200 _ (by simp)).alloc _) rfl (by decide), nil_ints _ _, (((Below.refl _ _).alloc (Nat.le_refl _) _).alloc (by simp) _).alloc (by simp; omega) _⟩

set_option maxRecDepth 100000 in
set_option maxHeartbeats 2000000 in
theorem sig_9 (s : ByteArray) (w : World) (hk : kindN s.toList = 9) : Calls Try.prog 55 #[.string s] w (SigP w 9) := by
  have HK := hid (fun w' => kindOf_any s w')
  rw [hk] at HK
  clear hk
  go_enter Try.func55, Try.ntmps55
  go_wp2_with (go_at_call 112; refine (HK.out _).mono ?_; rintro e w1 ⟨rfl, rfl⟩)
  refine bodyPost_ret (v := .tuple #[.agg #[.slice (some ⟨w.heap.size + 1 + 1 + 1, 0, none⟩) 1 1, .slice (some ⟨w.heap.size + 1, 0, none⟩) 1 1], .bool true]) (by simp [results, Try.results55, go_sem]) rfl ?_
  refine ⟨_, _, rfl, blk_ints (xs := [127]) (Blk.new (World.alloc (World.alloc (World.alloc w _) _) _) #[.int .u8 127] 200 _ (by simp)) rfl (by decide), blk_ints (xs := [127]) (((Blk.new (World.alloc w _) #[.int .u8 127] 200 _ (by simp)).alloc _).alloc _) rfl (by decide), ((((Below.refl _ _).alloc (Nat.le_refl _) _).alloc (by simp) _).alloc (by simp; omega) _).alloc (by simp; omega) _⟩

set_option maxRecDepth 100000 in
set_option maxHeartbeats 2000000 in
theorem sig_10 (s : ByteArray) (w : World) (hk : kindN s.toList = 10) : Calls Try.prog 55 #[.string s] w (SigP w 10) := by
  have HK := hid (fun w' => kindOf_any s w')
  rw [hk] at HK
  clear hk
  go_enter Try.func55, Try.ntmps55
  go_wp2_with (go_at_call 112; refine (HK.out _).mono ?_; rintro e w1 ⟨rfl, rfl⟩)
  refine bodyPost_ret (v := .tuple #[.agg #[.slice (some ⟨w.heap.size + 1 + 1, 0, none⟩) 1 1, .slice none 0 0], .bool true]) (by simp [results, Try.results55, go_sem]) rfl ?_
  refine ⟨_, _, rfl, blk_ints (xs := [126]) (Blk.new (World.alloc (World.alloc w _) _) #[.int .u8 126] 200 _ (by simp)) rfl (by decide), nil_ints _ _, (((Below.refl _ _).alloc (Nat.le_refl _) _).alloc (by simp) _).alloc (by simp; omega) _⟩

set_option maxRecDepth 100000 in
set_option maxHeartbeats 2000000 in
theorem sig_11 (s : ByteArray) (w : World) (hk : kindN s.toList = 11) : Calls Try.prog 55 #[.string s] w (SigP w 11) := by
  have HK := hid (fun w' => kindOf_any s w')
  rw [hk] at HK
  clear hk
  go_enter Try.func55, Try.ntmps55
  go_wp2_with (go_at_call 112; refine (HK.out _).mono ?_; rintro e w1 ⟨rfl, rfl⟩)
  refine bodyPost_ret (v := .tuple #[.agg #[.slice none 0 0, .slice (some ⟨w.heap.size + 1 + 1, 0, none⟩) 1 1], .bool true]) (by simp [results, Try.results55, go_sem]) rfl ?_
  refine ⟨_, _, rfl, nil_ints _ _, blk_ints (xs := [126]) (Blk.new (World.alloc (World.alloc w _) _) #[.int .u8 126] 200 _ (by simp)) rfl (by decide), (((Below.refl _ _).alloc (Nat.le_refl _) _).alloc (by simp) _).alloc (by simp; omega) _⟩

end Go.Proofs.Ytpapblahnbeccaa
