/-
  MODULES READ, plain: sections and the whole. No condition.
-/
import Derived.Test.YtakfineljffoaaaGreatDoorGBinReads26
namespace Go.Proofs.YtakfineljffoaaaGreatDoor
open Go.RowKit Go.Lib

abbrev Im := ByteArray × Int
abbrev Fn := Int × List Int × List It
abbrev El := Int × List Int
abbrev Cd := List Int × List It
structure Mdl where
  types : List Sg
  imports : List Im
  funcs : List Fn
  table : Int
  pages : Int
  most : Int
  globals : List Gb
  exports : List Im
  start : Int
  elems : List El
  data : List (Int × ByteArray)
def Mdl.zero : Mdl := ⟨[], [], [], 0, 0, 0, [], [], 0, [], []⟩
abbrev MC := Mdl × List Cd

/-- a name, a nought, a number -/
def expC (v : ByteArray) (s : SB) : Im × SB := ((v, (numM s).1), (numM s).2)
def expB (v : ByteArray) (s : SB) : Im × SB := expC v (mustM 0 6 s)
def expM (s : SB) : Im × SB := expB (namM s).1 (namM s).2
def impA (v : ByteArray) (s : SB) : Im × SB := expM (sayM (!(v.toList == ([104, 111, 115, 116] : List UInt8))) 6 s)
def impM (s : SB) : Im × SB := impA (namM s).1 (namM s).2
theorem expC_st {v : ByteArray} {s : SB} (h : s.2 ≠ 0) : (expC v s).2 = s := num_st h
theorem expB_st {v : ByteArray} {s : SB} (h : s.2 ≠ 0) : (expB v s).2 = s := by unfold expB; rw [mst_st h]; exact expC_st h
theorem expM_st {s : SB} (h : s.2 ≠ 0) : (expM s).2 = s := by unfold expM; rw [nam_st h]; exact expB_st h
theorem impA_st {v : ByteArray} {s : SB} (h : s.2 ≠ 0) : (impA v s).2 = s := by unfold impA; rw [say_on h]; exact expM_st h
theorem impM_st {s : SB} (h : s.2 ≠ 0) : (impM s).2 = s := by unfold impM; rw [nam_st h]; exact impA_st h

def elmB (p : Int) (n : Nat) (xs : List Int) (s : SB) : El × SB := ((p, (numsA n xs s).1), (numsA n xs s).2)
def elmA (p : Int) (s : SB) : El × SB := elmB p (cntM 16 s).1.toNat [] (cntM 16 s).2
def elmM (s : SB) : El × SB := elmA (plcM s).1 (plcM s).2
theorem elmB_st {p : Int} {n : Nat} {xs : List Int} {s : SB} (h : s.2 ≠ 0) : (elmB p n xs s).2 = s := nums_st n h
theorem elmA_st {p : Int} {s : SB} (h : s.2 ≠ 0) : (elmA p s).2 = s := by unfold elmA; rw [cnt_st h]; exact elmB_st h
theorem elmM_st {s : SB} (h : s.2 ≠ 0) : (elmM s).2 = s := by unfold elmM; rw [plcM_st h]; exact elmA_st h
theorem elmB_succ (p : Int) (n : Nat) (xs : List Int) (s : SB) : elmB p (n + 1) xs s = elmB p n (xs ++ [(numM s).1]) (numM s).2 := rfl

abbrev Da := Int × ByteArray
def datC (p n : Int) (s : SB) : Da × SB := if s.2 = 0 then ((p, s.1.extract 0 n.toNat), (s.1.extract n.toNat s.1.size, 0)) else ((p, ⟨#[]⟩), s)
def datB (p n : Int) (s : SB) : Da × SB := datC p n (sayM (decide ((s.1.size : Int) < n)) 3 s)
def datA (p : Int) (s : SB) : Da × SB := datB p (cntM 64 s).1 (cntM 64 s).2
def datM (s : SB) : Da × SB := datA (plcM s).1 (plcM s).2
theorem datC_st {p n : Int} {s : SB} (h : s.2 ≠ 0) : (datC p n s).2 = s := by unfold datC; rw [if_neg h]
theorem datB_st {p n : Int} {s : SB} (h : s.2 ≠ 0) : (datB p n s).2 = s := by unfold datB; rw [say_on h]; exact datC_st h
theorem datA_st {p : Int} {s : SB} (h : s.2 ≠ 0) : (datA p s).2 = s := by unfold datA; rw [cnt_st h]; exact datB_st h
theorem datM_st {s : SB} (h : s.2 ≠ 0) : (datM s).2 = s := by unfold datM; rw [plcM_st h]; exact datA_st h

/-- places of the table; pages -/
def tblA (s : SB) : Int × SB := cntM 16 (mustM 0 6 s)
def tblM (s : SB) : Int × SB := tblA (mustM 112 6 s)
theorem tblA_st {s : SB} (h : s.2 ≠ 0) : (tblA s).2 = s := by unfold tblA; rw [mst_st h, cnt_st h]
theorem tblM_st {s : SB} (h : s.2 ≠ 0) : (tblM s).2 = s := by unfold tblM; rw [mst_st h]; exact tblA_st h
def memD (p q : Int) (s : SB) : (Int × Int) × SB := ((p, q), sayM (decide (q < p)) 4 s)
def memC (p q : Int) (s : SB) : (Int × Int) × SB := memD p q (sayM (decide (8 < q)) 2 s)
def memB (p : Int) (s : SB) : (Int × Int) × SB := memC p (numM s).1 (numM s).2
def memA (s : SB) : (Int × Int) × SB := memB (numM s).1 (numM s).2
def memM (s : SB) : (Int × Int) × SB := memA (mustM 1 6 s)
theorem memD_st {p q : Int} {s : SB} (h : s.2 ≠ 0) : (memD p q s).2 = s := say_on h
theorem memC_st {p q : Int} {s : SB} (h : s.2 ≠ 0) : (memC p q s).2 = s := by unfold memC; rw [say_on h]; exact memD_st h
theorem memB_st {p : Int} {s : SB} (h : s.2 ≠ 0) : (memB p s).2 = s := by unfold memB; rw [num_st h]; exact memC_st h
theorem memA_st {s : SB} (h : s.2 ≠ 0) : (memA s).2 = s := by unfold memA; rw [num_st h]; exact memB_st h
theorem memM_st {s : SB} (h : s.2 ≠ 0) : (memM s).2 = s := by unfold memM; rw [mst_st h]; exact memA_st h
def staA (v : Int) (s : SB) : Int × SB := (v + 1, sayM (decide (4294967295 < v + 1)) 4 s)
def staM (s : SB) : Int × SB := staA (numM s).1 (numM s).2
theorem staA_st {v : Int} {s : SB} (h : s.2 ≠ 0) : (staA v s).2 = s := say_on h
theorem staM_st {s : SB} (h : s.2 ≠ 0) : (staM s).2 = s := by unfold staM; rw [num_st h]; exact staA_st h

/-- so many bytes by themselves -/
def withB {α : Type} (F : SB → α × SB) (s p : SB) (q : ByteArray) : α × SB :=
  ((F (q, 0)).1, if (dneM (F (q, 0)).2).2 ≠ 0 then ((numM s).2.1, (dneM (F (q, 0)).2).2) else p)
def withM {α : Type} (F : SB → α × SB) (d : α) (s : SB) : α × SB :=
  if (pieM s).2.2 ≠ 0 then (d, (pieM s).2) else withB F s (pieM s).2 (pieM s).1
theorem dne_st {s : SB} (h : s.2 ≠ 0) : dneM s = s := say_on h
theorem withM_st {α : Type} {F : SB → α × SB} {d : α} {s : SB} (h : s.2 ≠ 0) : withM F d s = (d, s) := by unfold withM; rw [pie_st h, if_pos h]

/-- a group of locals -/
def grpC (xs : List Int) (n k : Int) (s : SB) : List Int × SB := if s.2 = 0 then (xs ++ List.replicate n.toNat k, s) else (xs, s)
def grpB (xs : List Int) (n k : Int) (s : SB) : List Int × SB := grpC xs n k (sayM (decide (16 < (xs.length : Int) + n)) 2 s)
def grpA (xs : List Int) (n : Int) (s : SB) : List Int × SB := grpB xs n (kndM s).1 (kndM s).2
def grpM (xs : List Int) (s : SB) : List Int × SB := grpA xs (numM s).1 (numM s).2
theorem grpC_st {xs : List Int} {n k : Int} {s : SB} (h : s.2 ≠ 0) : grpC xs n k s = (xs, s) := if_neg h
theorem grpB_st {xs : List Int} {n k : Int} {s : SB} (h : s.2 ≠ 0) : grpB xs n k s = (xs, s) := by unfold grpB; rw [say_on h]; exact grpC_st h
theorem grpA_st {xs : List Int} {n : Int} {s : SB} (h : s.2 ≠ 0) : grpA xs n s = (xs, s) := by unfold grpA; rw [knd_st h]; exact grpB_st h
theorem grpM_st {xs : List Int} {s : SB} (h : s.2 ≠ 0) : grpM xs s = (xs, s) := by unfold grpM; rw [num_st h]; exact grpA_st h
/-- what stands in a function's code -/
def codZ (xs : List Int) (q : Int × Nat × List It) (s : SB) : Cd × SB := ((xs, q.2.2), if q.1 ≠ 0 then (s.1, q.1) else (s.1.extract q.2.1 s.1.size, 0))
def codC (xs : List Int) (s : SB) : Cd × SB := if s.2 = 0 then codZ xs (rlM s.1 201 [] 0 [(-1, 2)]) s else ((xs, []), s)
def codB : Nat → List Int → SB → Cd × SB
  | 0, xs, s => codC xs s
  | n + 1, xs, s => codB n (grpM xs s).1 (grpM xs s).2
def codA (s : SB) : Cd × SB := codB (cntM 16 s).1.toNat [] (cntM 16 s).2
theorem codC_st {xs : List Int} {s : SB} (h : s.2 ≠ 0) : (codC xs s).2 = s := by unfold codC; rw [if_neg h]
theorem codB_st (n : Nat) : ∀ {xs : List Int} {s : SB}, s.2 ≠ 0 → (codB n xs s).2 = s := by
  induction n with
  | zero => intro _ _ h; exact codC_st h
  | succ n ih => intro xs s h; rw [codB, grpM_st h]; exact ih h
theorem codA_st {s : SB} (h : s.2 ≠ 0) : (codA s).2 = s := by unfold codA; rw [cnt_st h]; exact codB_st _ h
def codeM (s : SB) : Cd × SB := withM codA ([], []) s

/-- one part of section id -/
def oneM (id : Nat) (x : MC) (s : SB) : MC × SB :=
  match id with
  | 1 => (({ x.1 with types := x.1.types ++ [(sigM s).1] }, x.2), (sigM s).2)
  | 2 => (({ x.1 with imports := x.1.imports ++ [(impM s).1] }, x.2), (impM s).2)
  | 3 => (({ x.1 with funcs := x.1.funcs ++ [((numM s).1, [], [])] }, x.2), (numM s).2)
  | 4 => (({ x.1 with table := (tblM s).1 }, x.2), (tblM s).2)
  | 5 => (({ x.1 with pages := (memM s).1.1, most := (memM s).1.2 }, x.2), (memM s).2)
  | 6 => (({ x.1 with globals := x.1.globals ++ [(glbM s).1] }, x.2), (glbM s).2)
  | 7 => (({ x.1 with exports := x.1.exports ++ [(expM s).1] }, x.2), (expM s).2)
  | 9 => (({ x.1 with elems := x.1.elems ++ [(elmM s).1] }, x.2), (elmM s).2)
  | 10 => ((x.1, x.2 ++ [(codeM s).1]), (codeM s).2)
  | 11 => (({ x.1 with data := x.1.data ++ [(datM s).1] }, x.2), (datM s).2)
  | _ => (x, s)
def loopM (id : Nat) : Nat → MC → SB → MC × SB
  | 0, x, s => (x, s)
  | n + 1, x, s => if s.2 ≠ 0 then (x, s) else loopM id n (oneM id x s).1 (oneM id x s).2
theorem loop_st {id n : Nat} {x : MC} {s : SB} (h : s.2 ≠ 0) : loopM id n x s = (x, s) := by
  cases n with
  | zero => rfl
  | succ n => rw [loopM, if_pos h]
def limM (id : Nat) : Int := match id with
  | 1 => 16 | 2 => 16 | 3 => 16 | 4 => 1 | 5 => 1 | 6 => 8 | 7 => 8 | 9 => 4 | 10 => 16 | 11 => 4 | _ => 0
def secM (id : Nat) (x : MC) (s : SB) : MC × SB :=
  if id = 8 then (({ x.1 with start := (staM s).1 }, x.2), (staM s).2) else loopM id (cntM (limM id) s).1.toNat x (cntM (limM id) s).2
/-- a section's number, looked at -/
def tS (last : Nat) (s : SB) : SB := sayM (decide ((octM s).1 ≤ last)) 4 (sayM (decide ((octM s).1 = 0 ∨ 11 < (octM s).1)) 6 (octM s).2)
/-- the sections -/
def topM : Nat → Nat → MC → SB → MC × SB
  | 0, _, x, s => (x, s)
  | f + 1, last, x, s => if s.2 ≠ 0 ∨ s.1.size = 0 then (x, s) else topM f (octM s).1 (withM (secM (octM s).1 x) x (tS last s)).1 (withM (secM (octM s).1 x) x (tS last s)).2
theorem top_stop {f last : Nat} {x : MC} {s : SB} (h : s.2 ≠ 0 ∨ s.1.size = 0) : topM f last x s = (x, s) := by
  cases f with
  | zero => rfl
  | succ f => rw [topM, if_pos h]
/-- behind the number's two checks -/
def topB (f id : Nat) (x : MC) (s : SB) : MC × SB := topM f id (withM (secM id x) x s).1 (withM (secM id x) x s).2
theorem topB_st {f id : Nat} {x : MC} {s : SB} (h : s.2 ≠ 0) : topB f id x s = (x, s) := by unfold topB; rw [withM_st h]; exact top_stop (.inl h)
def topA (f last : Nat) (x : MC) (id : Nat) (s : SB) : MC × SB := topB f id x (sayM (decide (id ≤ last)) 4 (sayM (decide (id = 0 ∨ 11 < id)) 6 s))
theorem topA_st {f last id : Nat} {x : MC} {s : SB} (h : s.2 ≠ 0) : topA f last x id s = (x, s) := by unfold topA; rw [say_on h, say_on h, topB_st h]
theorem top_go {f last : Nat} {x : MC} {s : SB} (h : ¬ (s.2 ≠ 0 ∨ s.1.size = 0)) : topM (f + 1) last x s = topA f last x (octM s).1 (octM s).2 := by rw [topM, if_neg h]; rfl
def updF : List Fn → List Cd → List Fn
  | fs, [] => fs
  | [], _ :: _ => []
  | f :: fs, c :: cs => (f.1, c.1, c.2) :: updF fs cs
def finM (x : MC) (s : SB) : Mdl × Int :=
  if (sayM (decide (x.2.length ≠ x.1.funcs.length)) 4 s).2 ≠ 0 then (Mdl.zero, (sayM (decide (x.2.length ≠ x.1.funcs.length)) 4 s).2) else ({ x.1 with funcs := updF x.1.funcs x.2 }, 0)
def mgcM (s : SB) : SB := [(0 : Int), 97, 115, 109, 1, 0, 0, 0].foldl (fun s b => mustM b 4 s) s
def allB (q : MC × SB) : Mdl × Int := finM q.1 q.2
def allA (s : SB) : Mdl × Int := allB (topM 12 0 (Mdl.zero, []) s)
def readMd (t : ByteArray) : Mdl × Int := if 4096 < t.size then (Mdl.zero, 2) else allA (mgcM (t, 0))
theorem updF_len (fs : List Fn) : ∀ cs, (updF fs cs).length = fs.length := by
  induction fs with
  | nil => intro cs; cases cs <;> rfl
  | cons f fs ih => intro cs; cases cs with
    | nil => rfl
    | cons c cs => simp [updF, ih]
theorem updF_nil (fs : List Fn) : updF fs [] = fs := by cases fs <;> rfl
/-- one code more -/
theorem updF_snoc (fs : List Fn) : ∀ (cs : List Cd) (c : Cd), updF fs (cs ++ [c]) = if h : cs.length < fs.length then (updF fs cs).set cs.length ((fs[cs.length]'h).1, c.1, c.2) else updF fs cs := by
  induction fs with
  | nil => intro cs c; cases cs <;> simp [updF]
  | cons f fs ih =>
    intro cs c
    cases cs with
    | nil => simp [updF, updF_nil]
    | cons d ds =>
      simp only [List.cons_append, updF, ih ds c, List.length_cons, Nat.add_lt_add_iff_right]
      split <;> simp
theorem updF_fst (fs : List Fn) : ∀ (cs : List Cd) (i : Nat) (h : i < fs.length), ((updF fs cs)[i]'(by rw [updF_len]; exact h)).1 = fs[i].1 := by
  induction fs with
  | nil => intro cs i h; simp at h
  | cons f fs ih =>
    intro cs i h
    cases cs with
    | nil => rfl
    | cons c cs =>
      cases i with
      | zero => rfl
      | succ i => simp only [updF, List.getElem_cons_succ]; exact ih cs i (by simpa using h)
end Go.Proofs.YtakfineljffoaaaGreatDoor
namespace Go.Proofs.YtakfineljffoaaaGreatDoor
open Go.RowKit Go.Lib
attribute [local go_sem ↓] Go.wp_at_zero Go.wp_at_succ

/-- what a body's Read gives -/
def RdB (w : World) (fin : Int × Nat × List It) (e : Ending) (w' : World) : Prop := ∃ v, e = .returned (.tuple #[v, .int .i64 fin.2.1, .int .i64 fin.1]) ∧ OwnB w' w.heap.size v fin.2.2 ∧ Below w.heap.size w w'
/-- one instruction read off the text: what both walks take of it -/
theorem rd_step (t : ByteArray) (a : Nat) (ha : a ≤ t.size) : (rdI (left t a)).2.2.2 = 0 → ∃ k : Nat, ((left t a).size : Int) - ((rdI (left t a)).2.2.1.size : Int) = (k : Int) ∧ a + k = t.size - (rdI (left t a)).2.2.1.size ∧ a + k ≤ t.size := by
  intro h
  have h1 := (rd_well _ h).2.2
  rw [left_size] at h1 ⊢
  exact ⟨t.size - a - (rdI (left t a)).2.2.1.size, by omega, by omega, by omega⟩

set_option maxRecDepth 100000 in
set_option maxHeartbeats 4000000 in
theorem pnread_any (w : World) (t : ByteArray) (ht : t.size ≤ 140737488351232) :
    Calls Tryz.prog 88 #[.string t] w fun e w' => RdB w (rlM t 201 [] 0 [(-1, 2)]) e w' := by
  generalize hfin : rlM t 201 [] 0 [(-1, 2)] = fin
  have HFIN := hid (show (if false = true then (0, 0, []) else rlM t (201 - ([] : List It).length) [] 0 [(-1, 2)]) = fin from hfin)
  clear hfin
  have HBG := hid (begin_any w)
  unfold RdB
  go_enter Tryz.func88, Tryz.ntmps88
  go_wp2_with fail
  refine HBG.out.mono ?_
  rintro r w1 ⟨vo, vl, B, rfl, g1, g2⟩
  have W1 := hid g1
  have B1 := hid g2
  have O1 := hid (OwnB.nil w1 w.heap.size)
  clear g1 g2
  go_wp2_with fail
  go_loopw [5, 6] (fun i j wr => ∃ (l : List It) (a : Nat) (T : Stk) (ov : Bool) (vo vl : Value), a ≤ t.size ∧ j = .int .i64 a ∧ l.length ≤ 200 ∧ Hid (OwnB wr w.heap.size i l) ∧ Hid (WkB wr B w.heap.size vo vl (T, ov)) ∧ Hid (Below w.heap.size w wr) ∧ Hid ((if ov = true then (0, a, l) else rlM t (201 - l.length) l a T) = fin)) (fun i _ _ => 201 - slLen i)
  case atStart => exact ⟨[], 0, _, _, vo, vl, Nat.zero_le _, rfl, by simp, O1, W1, B1, HFIN⟩
  case round =>
    obtain ⟨l, a, T, ov, vo, vl, ha, rfl, hl200, OB, WK, BL, HF⟩ := hrel
    have hwo := WK.out.blk.cell (i := 2) rfl
    have HLN := hid OB.out.len
    obtain ⟨css, hits, hown⟩ := OB.out
    obtain ⟨ao, cap, rfl, -⟩ := own_sl hown
    have ITS := hid hits
    have OWN := hid hown
    clear hits hown
    cases ov with
    | true =>
      have HF2 := hid (show (0, a, l) = fin from HF.out)
      go_wp2_with fail
      go_ret3
      have hr := HF2.out
      subst hr
      exact ⟨_, rfl, OB.out, BL.out⟩
    | false =>
      have hf : 201 - l.length = (200 - l.length) + 1 := by omega
      have HF2 := hid (show rlM t (200 - l.length + 1) l a T = fin from by rw [← hf]; exact HF.out)
      have HBAD := hid (fun h => (rl_bad (t := t) (f := 200 - l.length) (a := a) (l := l) (T := T) h).symm.trans HF2.out)
      have HLAR := hid (fun h h2 => (rl_large (t := t) (f := 200 - l.length) (a := a) (l := l) (T := T) h h2).symm.trans HF2.out)
      have HWRO := hid (fun h h2 h3 => (rl_wrong (t := t) (f := 200 - l.length) (a := a) (l := l) (T := T) h h2 h3).symm.trans HF2.out)
      have HOVE := hid (fun h h2 h3 h4 => (rl_over (t := t) (f := 200 - l.length) (a := a) (l := l) (T := T) h h2 h3 h4).symm.trans HF2.out)
      have HNEX := hid (fun h h2 h3 h4 => (rl_next (t := t) (f := 200 - l.length) (a := a) (l := l) (T := T) h h2 h3 h4).symm.trans HF2.out)
      have HWEL := hid (rd_well (left t a))
      have HSTP := hid (rd_step t a ha)
      have HP := hid (fun wx => pread_any wx (left t a) (by rw [left_size]; omega))
      unfold RdP at HP
      unfold rdX at HWRO HOVE HNEX HWEL
      generalize rdI (left t a) = q at *
      obtain ⟨op, ⟨A, C, xs⟩, s⟩ := q
      simp only at HBAD HLAR HWRO HOVE HNEX HWEL HSTP HP
      clear hf HF HF2 HFIN HBG
      have hk1 : (a : Int) ≤ (t.size : Int) := by omega
      have hk0 : (0 : Int) ≤ (a : Int) := by omega
      have hx : ¬ (9223372036854775807 < t.size) := by omega
      have hsz := left_size t a
      by_cases hb : s.2 = 0
      · simp only [if_pos hb] at HP
        obtain ⟨k, hk2, hk3, hk4⟩ := HSTP.out hb
        rw [hk2] at HP
        have HLR2 := hid (HLAR.out hb)
        have HWR2 := hid (HWRO.out hb)
        have HOV2 := hid (HOVE.out hb)
        have HNE2 := hid (HNEX.out hb)
        have HOK := hid (HWEL.out hb).1
        rw [← hk3] at HOV2 HNE2
        clear HBAD HLAR HWRO HOVE HNEX HWEL HSTP hb hk2 hk3 hsz
        unfold left at HP
        go_wp2_with fail
        refine (HP.out _).mono ?_
        rintro r w2 ⟨u, ⟨rfl, ho⟩, g2⟩
        obtain ⟨au, cu, rfl, -⟩ := own_sl ho
        have hsw := BL.out.size
        have g3 : Below w2.heap.size w2 (w2.alloc (.cells #[.int .u8 op, .int .i64 A, .int .i64 C, .slice au xs.length cu] 97)) := (Below.refl _ _).alloc (Nat.le_refl _) _
        have g4 : Below wr.heap.size wr (w2.alloc (.cells #[.int .u8 op, .int .i64 A, .int .i64 C, .slice au xs.length cu] 97)) := g2.trans (g3.mono g2.size)
        have X3 := hid (Blk.new w2 #[.int .u8 op, .int .i64 A, .int .i64 C, .slice au xs.length cu] 97 _ rfl)
        have U3 := hid (show OwnI (w2.alloc (.cells #[.int .u8 op, .int .i64 A, .int .i64 C, .slice au xs.length cu] 97)) w.heap.size .i64 2 (.slice au xs.length cu) xs from own_mono' (OwnI.below ho g3) hsw)
        have W3 := hid (WK.out.below g4)
        have K3 := hid (KI.below g4)
        have IT3 := hid (ITS.out.ki K3.out)
        have OW3 := hid (K3.out.own (.inl rfl) OWN.out)
        have B3 := hid (BL.out.trans (g4.mono hsw))
        clear ho g2 g3 g4 hsw
        have x0 := X3.out.cell (i := 0) rfl
        have x1 := X3.out.cell (i := 1) rfl
        have x2 := X3.out.cell (i := 2) rfl
        have x3 := X3.out.cell (i := 3) rfl
        by_cases h200 : l.length = 200
        · have hz : ((l.length : Int) == 200) = true := by rw [h200]; rfl
          have HR := hid (HLR2.out h200)
          have HO := hid (OwnB.nil (w2.alloc (.cells #[.int .u8 op, .int .i64 A, .int .i64 C, .slice au xs.length cu] 97)) w.heap.size)
          clear h200
          go_wp2_with fail
          go_ret3
          have hr := HR.out
          subst hr
          exact ⟨_, rfl, HO.out, B3.out⟩
        · have hz : ((l.length : Int) == 200) = false := by simp; omega
          have HN := hid (next_any (w2.alloc (.cells #[.int .u8 op, .int .i64 A, .int .i64 C, .slice au xs.length cu] 97)) B w.heap.size vo vl T false op HOK.out.1 A C (.slice au xs.length cu) l.length W3.out)
          have HW3 := hid (HWR2.out h200)
          have HO3 := hid (HOV2.out h200)
          have HN3 := hid (HNE2.out h200)
          have hlt : l.length < 200 := by omega
          clear h200 HLR2 HWR2 HOV2 HNE2
          generalize wnext (T, false) op l.length = nx at *
          obtain ⟨⟨is, e⟩, T2, ov2⟩ := nx
          simp only at HN HW3 HO3 HN3
          go_wp2_with fail
          refine HN.out.mono ?_
          rintro r w4 ⟨rfl, ⟨vo', vl', g1⟩, g2⟩
          have hF : ∀ j, Fw B vo vl j → w.heap.size ≤ j ∧ j < (w2.alloc (.cells #[.int .u8 op, .int .i64 A, .int .i64 C, .slice au xs.length cu] 97)).heap.size := W3.out.feet
          have W4 := hid g1
          have K4 := hid (KI.fw W3.out g2)
          have IT4 := hid (IT3.out.ki K4.out)
          have OW4 := hid (K4.out.own (.inl rfl) OW3.out)
          have U4 := hid (show OwnI w4 w.heap.size .i64 2 (.slice au xs.length cu) xs from K4.out.own (.inr rfl) U3.out)
          have B4 := hid (B3.out.trans (g2.below B3.out.size (fun j hj => (hF j hj).1)))
          have X4 := hid (show Blk w4 w2.heap.size 97 [.int .u8 op, .int .i64 A, .int .i64 C, .slice au xs.length cu] from X3.out.same (K4.out _ _ _ _ (.inl rfl) X3.out))
          clear g1 g2 hF x0 x1 x2 x3
          have x0 := X4.out.cell (i := 0) rfl
          have x1 := X4.out.cell (i := 1) rfl
          have x2 := X4.out.cell (i := 2) rfl
          have x3 := X4.out.cell (i := 3) rfl
          by_cases he : e = 0
          · subst he
            have HO4 := hid (HO3.out rfl)
            have HN4 := hid (HN3.out rfl)
            have hsz4 := B4.out.size
            clear HW3 HO3 HN3
            go_wp2_with (at_builtin; go_must (refine app_one elem_insv (base := w.heap.size) (cs := [.int .u8 op, .int .i64 A, .int .i64 C, .slice au xs.length cu]) rfl _ _ rfl rfl rfl rfl OW4.out rfl (by intro c hc; simp at hc; rcases hc with rfl | rfl | rfl | rfl <;> rfl) (by omega) (by omega) hsz4 ?_); intro v' w5 ho hb2 hg)
            have O5 := hid (OwnB.push IT4.out OW4.out U4.out hg.1 ho)
            have W5 := hid (W4.out.kt (KT.grown hg.1 OW4.out))
            have B5 := hid (B4.out.trans hb2)
            have HL5 := hid O5.out.len
            obtain ⟨ao5, cap5, rfl, -⟩ := own_sl ho
            clear ho hb2 hg hsz4
            go_wp2_with fail
            go_roundw
            case rel =>
              refine ⟨l ++ [⟨op, A, C, xs⟩], a + k, T2, ov2, vo', vl', hk4, by go_num, by simp; omega, O5, W5, B5, hid ?_⟩
              cases ov2 with
              | true => rw [if_pos rfl]; exact HO4.out rfl
              | false =>
                rw [if_neg (by decide), show 201 - (l ++ [(⟨op, A, C, xs⟩ : It)]).length = 200 - l.length by simp]
                exact HN4.out rfl
            case measure => rw [HL5.out, HLN.out]; simp; omega
          · have he2 : (e != 0) = true := by simpa using he
            have HR := hid (HW3.out he)
            have HO := hid (OwnB.nil w4 w.heap.size)
            clear he
            go_wp2_with fail
            go_ret3
            have hr := HR.out
            subst hr
            exact ⟨_, rfl, HO.out, B4.out⟩
      · simp only [if_neg hb] at HP
        have hbn : (s.2 != 0) = true := by simpa using hb
        have HR := hid (HBAD.out hb)
        clear hb
        unfold left at HP
        go_wp2_with fail
        refine (HP.out _).mono ?_
        rintro r w2 ⟨u, rfl, g2⟩
        have B2 := hid ((BL.out.trans (g2.mono BL.out.size)).alloc (Nat.le_trans BL.out.size g2.size) (.cells #[.int .u8 0, .int .i64 0, .int .i64 0, .slice none 0 0] 97))
        have HO := hid (OwnB.nil (w2.alloc (.cells #[.int .u8 0, .int .i64 0, .int .i64 0, .slice none 0 0] 97)) w.heap.size)
        clear g2
        go_wp2_with fail
        go_ret3
        have hr := HR.out
        subst hr
        exact ⟨_, rfl, HO.out, B2.out⟩
end Go.Proofs.YtakfineljffoaaaGreatDoor
