/-
  ROWS OF STRUCTS THAT THE CALL OWNS: prefixes, appends in place, clears; what a call touches. No condition beside lengths.
-/
import Derived.Test.YthoalneknadheaaGreatDoorGBinWrites2
import Derived.Test.YthoalneknadheaaGreatDoorGBinWrites3
import Derived.Laws.OwnMore
import Derived.Deep.QuietTactic
import Derived.Laws.StructEq
import Derived.BigQuiet
namespace Go.Proofs.YthoalneknadheaaGreatDoor
open Go.RowKit Go.Lib

structure Touch (F : Nat → Prop) (w w' : World) : Prop where
  os : w'.os = w.os
  tape : w'.tape = w.tape
  output : w'.output = w.output
  size : w.heap.size ≤ w'.heap.size
  block : ∀ k, k < w.heap.size → ¬ F k → w'.heap[k]? = w.heap[k]?
theorem Touch.refl (F : Nat → Prop) (w : World) : Touch F w w := ⟨rfl, rfl, rfl, Nat.le_refl _, fun _ _ _ => rfl⟩
theorem Touch.trans {F : Nat → Prop} {a b c : World} (h : Touch F a b) (k : Touch F b c) : Touch F a c :=
  ⟨k.os.trans h.os, k.tape.trans h.tape, k.output.trans h.output, Nat.le_trans h.size k.size, fun i hi hF => (k.block i (Nat.lt_of_lt_of_le hi h.size) hF).trans (h.block i hi hF)⟩
theorem Touch.mono {F G : Nat → Prop} {a b : World} (h : Touch F a b) (hFG : ∀ k, k < a.heap.size → F k → G k) : Touch G a b := ⟨h.os, h.tape, h.output, h.size, fun k hk hG => h.block k hk (fun hF => hG (hFG k hk hF))⟩
theorem Touch.trans' {F G : Nat → Prop} {a b c : World} (h : Touch F a b) (k : Touch G b c) (hG : ∀ i, i < a.heap.size → G i → F i) : Touch F a c :=
  ⟨k.os.trans h.os, k.tape.trans h.tape, k.output.trans h.output, Nat.le_trans h.size k.size, fun i hi hF => (k.block i (Nat.lt_of_lt_of_le hi h.size) (fun g => hF (hG i hi g))).trans (h.block i hi hF)⟩
theorem Touch.of_below {F : Nat → Prop} {w w' : World} (h : Below w.heap.size w w') : Touch F w w' := ⟨h.os, h.tape, h.output, h.size, fun k hk _ => h.block k hk⟩
theorem Touch.below {F : Nat → Prop} {w w' : World} {B : Nat} (h : Touch F w w') (hB : B ≤ w.heap.size) (hF : ∀ k, F k → B ≤ k) : Below B w w' :=
  ⟨h.os, h.tape, h.output, h.size, fun k hk => h.block k (by omega) (fun hf => by have := hF k hf; omega)⟩
theorem Touch.setCell {F : Nat → Prop} {w : World} {a : Addr} (hF : F a.block) (v : Value) : Touch F w (w.setCell a v) :=
  ⟨rfl, rfl, rfl, by simp, fun k _ hk => Below.heap_setCell _ _ _ _ (fun e => hk (e ▸ hF))⟩
theorem Touch.grown {F : Nat → Prop} {w w' : World} {row : Option Nat} (h : w.grownBy w' row) (hF : ∀ k, row = some k → F k) : Touch F w w' :=
  ⟨h.os, h.tape, h.output, h.size, fun k hk hk2 => h.block k hk (fun e => hk2 (hF k e.symm))⟩
theorem Touch.drew {F : Nat → Prop} {w w' : World} (h : Touch F w w') (n : Nat) : Touch F w (w'.drewN n) := ⟨h.os, h.tape, h.output, h.size, h.block⟩
theorem Touch.alloc {F : Nat → Prop} {w w' : World} (h : Touch F w w') (o : Obj) : Touch F w (w'.alloc o) := h.trans (Touch.of_below ((Below.refl _ _).alloc (Nat.le_refl _) _))
theorem own_touch {w w' : World} {F : Nat → Prop} {base : Nat} {e : TypeId} {size : Nat} {v : Value} {n : Nat} {cs : List Value} (h : w.ownsRow base e size v n cs) (ht : Touch F w w') (hF : ∀ k, v.ownBlock = some k → ¬ F k) : w'.ownsRow base e size v n cs := by
  obtain ⟨h1, h2⟩ := h
  refine ⟨h1, ?_⟩
  rcases h2 with h2 | ⟨g, cap, cur, hv, hg, hh, r⟩
  · exact .inl h2
  · refine .inr ⟨g, cap, cur, hv, hg, ?_, r⟩
    rw [ht.block g (lt_of_block hh) (hF g (by rw [hv]; rfl))]; exact hh

theorem own_prefix {w : World} {base : Nat} {e : TypeId} {size : Nat} {g n cap : Nat} {cs : List Value} (h : w.ownsRow base e size (.slice (some ⟨g, 0, none⟩) n cap) n cs) (i : Nat) (hi : i ≤ n) :
    w.ownsRow base e size (.slice (some ⟨g, 0, none⟩) i cap) i (cs.take (i * size)) := by
  obtain ⟨h1, h2⟩ := h
  have him : i * size ≤ n * size := Nat.mul_le_mul_right _ hi
  refine ⟨by rw [List.length_take, h1]; omega, ?_⟩
  rcases h2 with ⟨h2, _⟩ | ⟨g', cap', cur, hv, hg, hh, hn, hc, hs, ht⟩
  · simp at h2
  · simp only [Value.slice.injEq, Option.some.injEq, Addr.mk.injEq, and_true, true_and] at hv
    obtain ⟨rfl, rfl⟩ := hv
    refine .inr ⟨g, cap, cur, rfl, hg, hh, by omega, hc, hs, ?_⟩
    rw [← ht, List.take_take, Nat.min_eq_left him]

def Blk (w : World) (b : Nat) (ty : TypeId) (cs : List Value) : Prop := w.heap[b]? = some (.cells cs.toArray ty (0, 0))
theorem Blk.cell {w : World} {b : Nat} {ty : TypeId} {cs : List Value} (h : Blk w b ty cs) {i : Nat} {v : Value} (hi : cs[i]? = some v) : w.cell? ⟨b, i, none⟩ = some v := by
  unfold Blk at h
  simp [World.cell?, h, hi]
theorem Blk.free {w : World} {b : Nat} {ty : TypeId} {cs : List Value} (h : Blk w b ty cs) (i : Nat) : w.frozen? ⟨b, i, none⟩ = false := by
  unfold Blk at h
  simp [World.frozen?, h]
theorem Blk.lt {w : World} {b : Nat} {ty : TypeId} {cs : List Value} (h : Blk w b ty cs) : b < w.heap.size := lt_of_block h
theorem Blk.set {w : World} {b : Nat} {ty : TypeId} {cs : List Value} (h : Blk w b ty cs) (i : Nat) (v : Value) : Blk (w.setCell ⟨b, i, none⟩ v) b ty (cs.set i v) := by
  have := heap_setCell_same w b i cs.toArray ty v h
  unfold Blk
  rw [this]
  simp
theorem Blk.new (w : World) (cs : Array Value) (ty : TypeId) (b : Nat) (hb : b = w.heap.size) : Blk (w.alloc (.cells cs ty)) b ty cs.toList := by
  subst hb
  unfold Blk
  simpa using heap_alloc_new w (.cells cs ty)
theorem Blk.touch {F : Nat → Prop} {w w' : World} {b : Nat} {ty : TypeId} {cs : List Value} (h : Blk w b ty cs) (ht : Touch F w w') (hF : ¬ F b) : Blk w' b ty cs := by
  unfold Blk
  rw [ht.block b h.lt hF]; exact h
theorem Blk.below {w w' : World} {b : Nat} {ty : TypeId} {cs : List Value} (h : Blk w b ty cs) (hb : Below w.heap.size w w') : Blk w' b ty cs := by
  unfold Blk
  rw [hb.block b h.lt]; exact h
theorem Blk.drew {w : World} {b : Nat} {ty : TypeId} {cs : List Value} (h : Blk w b ty cs) (n : Nat) : Blk (w.drewN n) b ty cs := h
theorem Blk.alloc {w : World} {b : Nat} {ty : TypeId} {cs : List Value} (h : Blk w b ty cs) (o : Obj) : Blk (w.alloc o) b ty cs := h.below ((Below.refl _ _).alloc (Nat.le_refl _) _)
theorem Blk.other {w : World} {b : Nat} {ty : TypeId} {cs : List Value} (h : Blk w b ty cs) {a : Addr} (ha : a.block ≠ b) (v : Value) : Blk (w.setCell a v) b ty cs := by
  unfold Blk
  rw [Below.heap_setCell _ _ _ _ (Ne.symm ha)]; exact h

theorem cell_alloc {w : World} {a : Addr} {v : Value} (o : Obj) (h : w.cell? a = some v) : (w.alloc o).cell? a = some v :=
  (((Below.refl w.heap.size w).alloc (Nat.le_refl _) o).cell (World.block_lt_of_cell? w a h)).trans h

theorem drew_bel' {W w : World} {B n : Nat} (h : Below B W w) : Below B W (w.drewN n) := ⟨h.os, h.tape, h.output, h.size, h.block⟩
theorem qHC {w : World} {op A B : Int} {v : Value} {ty : TypeId} (hblk : Blk (w.alloc (.cells #[.int .u8 op, .int .i64 A, .int .i64 B, v] ty)) w.heap.size ty [.int .u8 op, .int .i64 A, .int .i64 B, v]) (w' : World) (hb : Below (w.alloc (.cells #[.int .u8 op, .int .i64 A, .int .i64 B, v] ty)).heap.size (w.alloc (.cells #[.int .u8 op, .int .i64 A, .int .i64 B, v] ty)) w') :
    w'.cell? ⟨w.heap.size, 0, none⟩ = some (.int .u8 op) ∧ w'.cell? ⟨w.heap.size, 1, none⟩ = some (.int .i64 A) ∧ w'.cell? ⟨w.heap.size, 2, none⟩ = some (.int .i64 B) ∧ w'.cell? ⟨w.heap.size, 3, none⟩ = some v :=
  And.intro ((hblk.below hb).cell (i := 0) rfl) (And.intro ((hblk.below hb).cell (i := 1) rfl) (And.intro ((hblk.below hb).cell (i := 2) rfl) ((hblk.below hb).cell (i := 3) rfl)))
theorem qHX {α : Type} {enc : α → Value} {w : World} {u : Value} {xs : List α} (hx : L1 enc w u xs) (op A B : Int) (v : Value) (ty : TypeId) (w' : World) (hb : Below (w.alloc (.cells #[.int .u8 op, .int .i64 A, .int .i64 B, v] ty)).heap.size (w.alloc (.cells #[.int .u8 op, .int .i64 A, .int .i64 B, v] ty)) w') : L1 enc w' u xs :=
  L1.below (L1.below hx ((Below.refl _ _).alloc (Nat.le_refl _) _)) hb
end Go.Proofs.YthoalneknadheaaGreatDoor
namespace Go.Proofs.YthoalneknadheaaGreatDoor
open Go.RowKit

structure Part (base : Nat) (F : Nat → Prop) (R : World → Prop) (w : World) : Prop where
  holds : R w
  le : base ≤ w.heap.size
  lt : ∀ k, F k → base ≤ k ∧ k < w.heap.size
  keep : ∀ w', w.heap.size ≤ w'.heap.size → (∀ k, F k → w'.heap[k]? = w.heap[k]?) → R w'
theorem Part.same {base : Nat} {F : Nat → Prop} {R : World → Prop} {w w' : World} (h : Part base F R w) (hs : w.heap.size ≤ w'.heap.size) (hb : ∀ k, F k → w'.heap[k]? = w.heap[k]?) : Part base F R w' :=
  ⟨h.keep w' hs hb, Nat.le_trans h.le hs, fun k hk => ⟨(h.lt k hk).1, Nat.lt_of_lt_of_le (h.lt k hk).2 hs⟩, fun w2 h2 hk2 => h.keep w2 (Nat.le_trans hs h2) (fun k hk => (hk2 k hk).trans (hb k hk))⟩
theorem Part.below {base : Nat} {F : Nat → Prop} {R : World → Prop} {w w' : World} (h : Part base F R w) (hb : Below w.heap.size w w') : Part base F R w' :=
  h.same hb.size (fun k hk => hb.block k (h.lt k hk).2)
theorem Part.touch {base : Nat} {F G : Nat → Prop} {R : World → Prop} {w w' : World} (h : Part base F R w) (ht : Touch G w w') (hd : ∀ k, F k → ¬ G k) : Part base F R w' :=
  h.same ht.size (fun k hk => ht.block k (h.lt k hk).2 (hd k hk))
theorem Part.drew {base : Nat} {F : Nat → Prop} {R : World → Prop} {w : World} (h : Part base F R w) (n : Nat) : Part base F R (w.drewN n) :=
  h.same (Nat.le_refl _) (fun _ _ => rfl)
theorem Part.drew1 {base : Nat} {F : Nat → Prop} {R : World → Prop} {w : World} (h : Part base F R w) : Part base F R w.drew :=
  h.same (Nat.le_refl _) (fun _ _ => rfl)
theorem own_same {w w' : World} {base : Nat} {e : TypeId} {size : Nat} {v : Value} {n : Nat} {cs : List Value} (h : w.ownsRow base e size v n cs) (hb : ∀ k, v.ownBlock = some k → w'.heap[k]? = w.heap[k]?) : w'.ownsRow base e size v n cs := by
  obtain ⟨h1, h2⟩ := h
  refine ⟨h1, ?_⟩
  rcases h2 with h2 | ⟨g, cap, cur, hv, hg, hh, r⟩
  · exact .inl h2
  · refine .inr ⟨g, cap, cur, hv, hg, ?_, r⟩
    rw [hb g (by rw [hv]; rfl)]; exact hh
theorem Blk.same {w w' : World} {b : Nat} {ty : TypeId} {cs : List Value} (h : Blk w b ty cs) (hb : w'.heap[b]? = w.heap[b]?) : Blk w' b ty cs := by
  unfold Blk
  rw [hb]; exact h

theorem Touch.put {F : Nat → Prop} {w w1 : World} (h : Touch F w w1) {a : Addr} (hF : F a.block) (v : Value) : Touch F w (w1.setCell a v) := h.trans (Touch.setCell hF v)
theorem Touch.drew1 {F : Nat → Prop} {w w1 : World} (h : Touch F w w1) : Touch F w w1.drew := ⟨h.os, h.tape, h.output, h.size, h.block⟩

structure Duo (base : Nat) (F G : Nat → Prop) (R S : World → Prop) (w : World) : Prop where
  p : Part base F R w
  q : Part base G S w
  apart : ∀ k, F k → ¬ G k
theorem Duo.below {base : Nat} {F G : Nat → Prop} {R S : World → Prop} {w w' : World} (h : Duo base F G R S w) (hb : Below w.heap.size w w') : Duo base F G R S w' := ⟨h.p.below hb, h.q.below hb, h.apart⟩
theorem Duo.drew {base : Nat} {F G : Nat → Prop} {R S : World → Prop} {w : World} (h : Duo base F G R S w) (n : Nat) : Duo base F G R S (w.drewN n) := ⟨h.p.drew n, h.q.drew n, h.apart⟩
theorem Duo.drew1 {base : Nat} {F G : Nat → Prop} {R S : World → Prop} {w : World} (h : Duo base F G R S w) : Duo base F G R S w.drew := ⟨h.p.drew1, h.q.drew1, h.apart⟩
theorem Duo.alloc {base : Nat} {F G : Nat → Prop} {R S : World → Prop} {w : World} (h : Duo base F G R S w) (o : Obj) : Duo base F G R S (w.alloc o) := h.below ((Below.refl _ _).alloc (Nat.le_refl _) _)
end Go.Proofs.YthoalneknadheaaGreatDoor
namespace Go.Proofs.YthoalneknadheaaGreatDoor
open Go.RowKit

def encU : Nat → Nat → List UInt8
  | 0, n => [byteOf n]
  | f + 1, n => if n < 128 then [byteOf n] else byteOf ((n : Int) % 128 + 128) :: encU f (n / 128)

set_option maxRecDepth 100000 in
theorem fitsU (n : Int) (w : World) : Calls Tryz.prog 83 #[.int .u64 n] w fun e w' => e = .returned (.bool (decide (n < 128))) ∧ w = w' := by
  go_enter Tryz.func83, Tryz.ntmps83
  go_wp2
  go_ret
  exact ⟨rfl, rfl⟩

theorem u64_and127 (n : Nat) (h : n < 18446744073709551616) : bits .and .u64 (n : Int) 127 = ((n % 128 : Nat) : Int) := by
  have h := bits_mask .u64 64 (by decide) (fun x h0 h1 => by rw [Go.IntKind.wrap_u64]; omega) 7 (by decide) (n : Int) (by omega) (by omega)
  have e : ((2 : Int) ^ 7 - 1) = 127 := by decide
  rw [e] at h
  rw [h]; simp
theorem u8_or128' (c : Nat) (h : c < 128) : bits .or .u8 (c : Int) 128 = ((c + 128 : Nat) : Int) := by
  have := or_add .u8 (c : Int) 128 7 (by decide) (by omega) (by omega) (by decide)
  rw [this, Go.IntKind.wrap_u8]; omega

theorem encU_len (f n : Nat) : (encU f n).length ≤ f + 1 := by
  induction f generalizing n with
  | zero => simp [encU]
  | succ f ih =>
    rw [encU]
    split
    · simp
    · have := ih (n / 128); simp; omega
theorem encU_last {f m : Nat} (h : m < 128) : encU f m = [byteOf m] := by
  cases f <;> simp [encU, h]
theorem encU_lt {f m : Nat} (h : Hid (m < 128 ^ (f + 1 + 1))) (_ : ¬ m < 128) : Hid (m / 128 < 128 ^ (f + 1)) := by
  have := h.out
  rw [Nat.pow_succ] at this
  exact Nat.div_lt_of_lt_mul (by rw [Nat.mul_comm]; exact this)
theorem encU_next {f m n : Nat} {xs : List Int} (h : Hid ((xs.map fun n => UInt8.ofNat n.toNat) ++ encU (f + 1) m = encU 9 n)) (hm : ¬ m < 128) :
    Hid (((xs ++ [((m % 128 + 128 : Nat) : Int)]).map fun n => UInt8.ofNat n.toNat) ++ encU f (m / 128) = encU 9 n) := by
  rw [← h.out, encU, if_neg hm]
  show _ = _
  simp only [List.map_append, List.map_cons, List.map_nil, List.append_assoc, List.cons_append, List.nil_append]
  congr 2
  rw [byteOf]
  congr 1
  omega

set_option maxRecDepth 100000 in
set_option maxHeartbeats 1000000 in
theorem writeU (n : Nat) (w : World) (hn : n < 18446744073709551616) :
    Calls Tryz.prog 82 #[.int .u64 n, .func (.func 83) #[] #[]] w fun e w' => e = .returned (.string (S (encU 9 n))) ∧ Below w.heap.size w w' := by
  go_enter Tryz.func82, Tryz.ntmps82
  go_wp2_with fail
  go_loopw [0, 5] (fun t v wr => ∃ (m f : Nat) (xs : List Int), t = .int .u64 m ∧ m < 18446744073709551616 ∧ f ≤ 9 ∧ OwnI wr w.heap.size .u8 5 v xs ∧ Below w.heap.size w wr ∧ xs.length = 9 - f ∧ Hid (m < 128 ^ (f + 1)) ∧ Hid ((xs.map fun n => UInt8.ofNat n.toNat) ++ encU f m = encU 9 n)) (fun t _ _ => (intOf t).toNat)
  case atStart => exact ⟨n, 9, [], rfl, hn, by omega, OwnI.nil _ _ _ _, Below.refl _ _, rfl, by show _ < _; omega, by simp [Hid]⟩
  case round =>
    obtain ⟨m, f, xs, rfl, hm, hf, hown, hb, hxl, hmf, henc⟩ := hrel
    by_cases hlt : m < 128
    · have hd : decide ((m : Int) < 128) = true := by simp; omega
      have hsz := hb.size
      go_wp2_with (first | (go_at_call 83; refine (fitsU _ _).mono ?_; rintro e w' ⟨rfl, rfl⟩) | (at_builtin; refine app_int elem_u8 (base := w.heap.size) rfl (.tmp 19) (.tmp 23) rfl rfl rfl (by simp) hown (by omega) (by omega) hsz ?_; intro v' w' ho hbel _; have hcv := conv_bytes ho.ints))
      go_ret
      refine ⟨?_, hb.trans hbel⟩
      rw [← henc.out, encU_last hlt]
      exact retS (by rw [u64_and127 _ hm, byteOf]; congr 4; omega)
    · have hd : decide ((m : Int) < 128) = false := by simp; omega
      have hsz := hb.size
      go_wp2_with (first | (go_at_call 83; refine (fitsU _ _).mono ?_; rintro e w' ⟨rfl, rfl⟩) | (at_builtin; refine app_int elem_u8 (base := w.heap.size) rfl (.tmp 10) (.tmp 15) rfl rfl rfl (by simp) hown (by omega) (by omega) hsz ?_; intro v' w' ho hbel _))
      cases f with
      | zero => exact absurd hmf.out (by omega)
      | succ f =>
        go_roundw
        case rel => exact ⟨m / 128, f, xs ++ [((m % 128 + 128 : Nat) : Int)], by simp, by omega, by omega, by rw [u64_and127 _ hm, show (((m % 128 : Nat) : Int) % 256) = ((m % 128 : Nat) : Int) by omega, u8_or128' _ (Nat.mod_lt _ (by decide))] at ho; exact ho, hb.trans hbel, by simp; omega, encU_lt hmf hlt, encU_next henc hlt⟩
        case measure => simp [intOf]; omega

set_option maxRecDepth 100000 in
set_option maxHeartbeats 1000000 in
theorem lebU_any (n : Nat) (w : World) (hn : n < 18446744073709551616) :
    Calls Tryz.prog 12 #[.int .u64 n] w fun e w' => e = .returned (.string (S (encU 9 n))) ∧ Below w.heap.size w w' := by
  go_enter Tryz.func12, Tryz.ntmps12
  go_wp2_with (go_at_call 82; refine (writeU n _ hn).mono ?_; rintro e w' ⟨rfl, hb⟩)
  go_ret
  exact ⟨rfl, hb⟩
end Go.Proofs.YthoalneknadheaaGreatDoor
