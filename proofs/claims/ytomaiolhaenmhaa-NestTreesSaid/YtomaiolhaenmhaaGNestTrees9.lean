/-
  TREES OF BODIES: the program's parts. Printed by a program of mine. No condition beside a body that passes.
-/
import Derived.Test.YtomaiolhaenmhaaGNestTrees8
namespace Go.Proofs.Ytomaiolhaenmhaa
open Go.RowKit Go.Lib
attribute [local go_sem ↓] Go.wp_at_zero Go.wp_at_succ

/-- what parts gives -/
def PartP (w0 w : World) (ys : List It) (d s : Nat) (l2 : List It) (ret : Ending) (w' : World) : Prop :=
  ∃ (ps : List Nd) (F : Nat → Prop) (u rv : Value), ret = .returned (.tuple #[u, rv]) ∧ RowF w' F u ps ∧ PartsI w' F ps ∧ (∀ k, F k → w.heap.size ≤ k ∧ k < w'.heap.size) ∧ cat ps = ys ∧ mostD ps = d ∧ sumS ps = s ∧ BodS w0 rv l2 ∧ Below w.heap.size w w'
/-- parts, under way -/
structure PtS (w0 w : World) (ys : List It) (e : It) (r : List It) (d s : Nat) (wr : World) (i j : Value) (ys2 : List It) (d2 s2 : Nat) (ps : List Nd) (F : Nat → Prop) : Prop where
  seg : Seg ys2 d2 s2
  bod : BodS w0 i (ys2 ++ e :: r)
  its : ∀ x ∈ ys2 ++ e :: r, ItS x
  len : (ys2 ++ e :: r).length ≤ 200
  row : wr.ownsRow w.heap.size 216 1 j ps.length (ps.map (·.1))
  par : PartsI wr F ps
  fb : ∀ k, F k → w.heap.size ≤ k ∧ k < wr.heap.size ∧ j.ownBlock ≠ some k
  cat : cat ps ++ ys2 = ys
  dd : max (mostD ps) d2 = d
  ss : sumS ps + s2 = s
  bel : Below w.heap.size w wr
  cnt : ps.length + ys2.length ≤ 200
  sub : ys2.length ≤ ys.length
section
variable {w0 w wr : World} {ys ys2 zs : List It} {e : It} {r : List It} {d s d2 s2 dn sn : Nat} {i j : Value} {ps : List Nd} {F : Nat → Prop}
theorem PtS.done (h : PtS w0 w ys e r d s wr i j [] d2 s2 ps F) (hd : d2 = 0) (hs : s2 = 0) {w' : World} (hb : Below wr.heap.size wr w') : PartP w0 w ys d s (e :: r) (.returned (.tuple #[j, i])) w' := by
  subst hd
  subst hs
  have hsz := hb.size
  refine ⟨ps, fun k => F k ∨ j.ownBlock = some k, j, i, rfl, ⟨own_mono' (own_below h.row hb) (Nat.zero_le _), fun k hk => .inr hk⟩, h.par.keep (KN.below hb) (fun k hk => .inl hk), fun k hk => ?_, by simpa using h.cat, by have := h.dd; omega, by have := h.ss; omega, h.bod, h.bel.trans (hb.mono h.bel.size)⟩
  rcases hk with hk | hk
  · have := h.fb k hk; omega
  · have := World.ownsRow.lt h.row k hk; omega
theorem PtS.push (h : PtS w0 w ys e r d s wr i j (zs ++ ys2) (max dn d2) (sn + s2) ps F) {w3 w4 : World} {G : Nat → Prop} {i2 j2 nv : Value} (hb3 : Below wr.heap.size wr w3) (hFG : ∀ k, F k → G k) (hG : ∀ k, G k → F k ∨ (wr.heap.size ≤ k ∧ k < w3.heap.size)) (hseg : Seg ys2 d2 s2)
    (hbod : BodS w0 i2 (ys2 ++ e :: r)) (hnode : NodeI w3 G nv zs dn sn) (hz : 1 ≤ zs.length) (hown : w4.ownsRow w.heap.size 216 1 j2 (ps.length + 1) (ps.map (·.1) ++ [nv])) (hgrew : Grew w3 j w4 j2) (hbel : Below w.heap.size w3 w4) :
    PtS w0 w ys e r d s w4 i2 j2 ys2 d2 s2 (ps ++ [(nv, zs, dn, sn)]) G := by
  have hs3 := hb3.size
  have hs4 := hgrew.1.size
  have hGj : ∀ k, G k → j.ownBlock ≠ some k := fun k hk hj => by
    rcases hG k hk with g | g
    · exact (h.fb k g).2.2 hj
    · have := World.ownsRow.lt h.row k hj; omega
  have hKN : KN G w3 w4 := KN.grown (own_below h.row hb3) hgrew.1 hGj
  have hcnt := h.cnt
  have hlen := h.len
  have hsub := h.sub
  simp only [List.length_append] at hcnt hlen hsub
  refine ⟨hseg, hbod, fun x hx => h.its x ?_, ?_, by simpa using hown, ?_, fun k hk => ?_, ?_, ?_, ?_, (h.bel.trans (hb3.mono h.bel.size)).trans hbel, ?_, ?_⟩
  · rw [List.append_assoc]; exact List.mem_append_right _ hx
  · simp only [List.length_append]; omega
  · exact ((h.par.keep (KN.below hb3) hFG).keep hKN (fun _ g => g)).snoc (hnode.keep hKN (fun _ g => g))
  · refine ⟨?_, ?_, fun hj => ?_⟩
    · rcases hG k hk with g | g
      · exact (h.fb k g).1
      · have := h.bel.size; omega
    · rcases hG k hk with g | g
      · have := h.fb k g; omega
      · omega
    · rcases grew_block hgrew hj with g | g
      · exact hGj k hk g
      · rcases hG k hk with g2 | g2
        · have := h.fb k g2; omega
        · omega
  · rw [cat_snoc, List.append_assoc]; exact h.cat
  · rw [mostD_snoc]; have := h.dd; simp only; omega
  · rw [sumS_snoc]; have := h.ss; simp only; omega
  · simp only [List.length_append, List.length_singleton]; omega
  · omega
end

set_option maxRecDepth 100000 in
set_option maxHeartbeats 8000000 in
theorem parts_any (w0 : World) (n : Nat) : ∀ (ys : List It) (e : It) (r : List It) (d s : Nat) (v : Value) (w : World), ys.length ≤ n → (e.op = 5 ∨ e.op = 11) → Seg ys d s → (∀ x ∈ ys ++ e :: r, ItS x) → BodS w0 v (ys ++ e :: r) → (ys ++ e :: r).length ≤ 200 → Below w0.heap.size w0 w →
    Calls Try.prog 137 #[v] w fun ret w' => PartP w0 w ys d s (e :: r) ret w' := by
  induction n using Nat.strongRecOn with
  | ind n ih =>
  intro ys e r d s v w hn he hseg hits hbod hlen hbel
  have IH := hid (fun (zs : List It) (hlt : zs.length < ys.length) e1 r1 d1 s1 v1 w1 ho hs hi hb hl hB => ih zs.length (Nat.lt_of_lt_of_le hlt hn) zs e1 r1 d1 s1 v1 w1 (Nat.le_refl _) ho hs hi hb hl hB)
  have HE := hid he
  have HB := hid hbel
  have ST0 : Hid (PtS w0 w ys e r d s w v (.slice none 0 0) ys d s [] (fun _ => False)) := hid ⟨hseg, hbod, hits, hlen, World.ownsRow_nil _ _ _ _, fun p hp => (by cases hp), fun k hk => hk.elim, rfl, by simp [mostD], by simp [sumS], Below.refl _ _, by simp only [List.length_append, List.length_nil] at hlen ⊢; omega, Nat.le_refl _⟩
  clear ih hn he hseg hits hbod hlen hbel
  go_enter Try.func137, Try.ntmps137
  go_wp2_with fail
  go_loopw [0, 2] (fun i j wr => ∃ (ys2 : List It) (d2 s2 : Nat) (ps : List Nd) (F : Nat → Prop), Hid (PtS w0 w ys e r d s wr i j ys2 d2 s2 ps F)) (fun i _ _ => slLen i)
  case atStart => exact ⟨_, _, _, _, _, ST0⟩
  case round =>
    obtain ⟨ys2, d2, s2, ps, F, ST⟩ := hrel
    clear ST0
    have HSG := ST.out.seg
    cases HSG with
    | nil =>
      obtain ⟨b, off, nn, cap, o, rfl, hn1, hn2, hn3, RT, TL0, CE⟩ := BodS.uncons (show BodS w0 _ (e :: (r)) from by have := ST.out.bod; simpa using this)
      have TL := hid TL0
      have BW := hid (HB.out.trans (ST.out.bel.mono HB.out.size))
      obtain ⟨a, c, c0, c1, c2, c3, hto⟩ := CE wr BW.out
      have HTO := hid hto
      have hn0 : (0 : Int) < (nn : Int) := by omega
      have HLN := hid (show slLen (.slice (some ⟨b, off, none⟩) nn cap) = ([] ++ e :: r).length from ST.out.bod.len)
      obtain ⟨aj, cj, rfl, -⟩ := own_sl ST.out.row
      have X1 := hid (Blk.new wr #[.int .u8 e.op, .int .i64 e.A, .int .i64 e.B, .slice a e.tos.length c] 90 _ rfl)
      have B1 := hid ((Below.refl wr.heap.size wr).alloc (Nat.le_refl _) (.cells #[.int .u8 e.op, .int .i64 e.A, .int .i64 e.B, .slice a e.tos.length c] 90))
      clear TL0 CE hto
      have x0 := X1.out.cell (i := 0) rfl
      have x1 := X1.out.cell (i := 1) rfl
      have x2 := X1.out.cell (i := 2) rfl
      have x3 := X1.out.cell (i := 3) rfl

      rcases HE.out with ho | ho
      · have h11 : ((e.op : Int) == 11) = false := by simp; omega
        have h5 : ((e.op : Int) == 5) = true := by simp; omega
        clear ho
        go_wp2_with fail
        go_ret2
        exact ST.out.done rfl rfl B1.out
      · have h11 : ((e.op : Int) == 11) = true := by simp; omega
        clear ho
        go_wp2_with fail
        go_ret2
        exact ST.out.done rfl rfl B1.out
    | one x xs _ _ hop hs =>
      obtain ⟨b, off, nn, cap, o, rfl, hn1, hn2, hn3, RT, TL0, CE⟩ := BodS.uncons (show BodS w0 _ (x :: (xs ++ e :: r)) from by have := ST.out.bod; simpa using this)
      have TL := hid TL0
      have BW := hid (HB.out.trans (ST.out.bel.mono HB.out.size))
      obtain ⟨a, c, c0, c1, c2, c3, hto⟩ := CE wr BW.out
      have HTO := hid hto
      have hn0 : (0 : Int) < (nn : Int) := by omega
      have HLN := hid (show slLen (.slice (some ⟨b, off, none⟩) nn cap) = (x :: xs ++ e :: r).length from ST.out.bod.len)
      obtain ⟨aj, cj, rfl, -⟩ := own_sl ST.out.row
      have X1 := hid (Blk.new wr #[.int .u8 x.op, .int .i64 x.A, .int .i64 x.B, .slice a x.tos.length c] 90 _ rfl)
      have B1 := hid ((Below.refl wr.heap.size wr).alloc (Nat.le_refl _) (.cells #[.int .u8 x.op, .int .i64 x.A, .int .i64 x.B, .slice a x.tos.length c] 90))
      clear TL0 CE hto
      have x0 := X1.out.cell (i := 0) rfl
      have x1 := X1.out.cell (i := 1) rfl
      have x2 := X1.out.cell (i := 2) rfl
      have x3 := X1.out.cell (i := 3) rfl
      have HX := hid (ST.out.its x (by simp))
      have hcnt : ps.length ≤ 200 := by have := ST.out.cnt; omega
      have h11 : ((x.op : Int) == 11) = false := by simp; omega
      have h5 : ((x.op : Int) == 5) = false := by simp; omega
      have h2 : ((x.op : Int) == 2) = false := by simp; omega
      have h3 : ((x.op : Int) == 3) = false := by simp; omega
      have h4 : ((x.op : Int) == 4) = false := by simp; omega
      have HC := hid (copied_any (wr.alloc (.cells #[.int .u8 x.op, .int .i64 x.A, .int .i64 x.B, .slice a x.tos.length c] 90)) x (.slice a x.tos.length c) HX.out.2 (L1.below HTO.out B1.out))
      have HOP := hid hop
      have HS := hid hs
      clear hop hs
      go_wp2_with fail
      refine HC.out.mono ?_
      rintro q w3 ⟨a2, k2, rfl, ho2, hb2⟩
      have HO2 := hid ho2
      have B3 := hid (B1.out.trans (hb2.mono B1.out.size))
      have OW := hid (own_below ST.out.row B3.out)
      have hsw : w.heap.size ≤ w3.heap.size := Nat.le_trans ST.out.bel.size B3.out.size
      clear ho2 hb2
      go_wp2_with (at_builtin; go_must (refine app_one elem_node (base := w.heap.size) (cs := [.iface 263 (singleV x (.slice a2 x.tos.length k2))]) rfl _ _ rfl rfl rfl rfl OW.out rfl (by intro c hc; simp at hc; subst hc; rfl) (by omega) (by omega) hsw ?_); intro j2 w4 ho4 hb4 hg4)
      obtain ⟨aj4, cj4, rfl, -⟩ := own_sl ho4
      have ST4 := hid (PtS.push (zs := [x]) (ys2 := xs) (dn := 0) (sn := 0) (d2 := d2) (s2 := s2) (i2 := .slice (some ⟨b, o, none⟩) (nn - 1) (cap - 1)) (by rw [show max 0 d2 = d2 by omega, Nat.zero_add]; exact ST.out) B3.out (fun _ g => g) (fun _ g => .inl g) HS.out TL.out (NodeI.single x (.slice a2 x.tos.length k2) HX.out (own_mono' HO2.out (Nat.zero_le _))) (by simp) ho4 hg4 hb4)
      clear ho4 hb4 hg4
      go_wp2_with fail
      go_roundw
      case rel => exact ⟨_, _, _, _, _, ST4⟩
      case measure =>
        rw [HLN.out, ST4.out.bod.len]
        simp only [List.length_append, List.length_cons]
        omega
    | blk x y1 xs d1 s1 d3 s3 hop hsy hs =>
      obtain ⟨b, off, nn, cap, o, rfl, hn1, hn2, hn3, RT, TL0, CE⟩ := BodS.uncons (show BodS w0 _ (x :: (y1 ++ endI :: (xs ++ e :: r))) from by have := ST.out.bod; simpa using this)
      have TL := hid TL0
      have BW := hid (HB.out.trans (ST.out.bel.mono HB.out.size))
      obtain ⟨a, c, c0, c1, c2, c3, hto⟩ := CE wr BW.out
      have HTO := hid hto
      have hn0 : (0 : Int) < (nn : Int) := by omega
      have HLN := hid (show slLen (.slice (some ⟨b, off, none⟩) nn cap) = (x :: (y1 ++ endI :: xs) ++ e :: r).length from ST.out.bod.len)
      obtain ⟨aj, cj, rfl, -⟩ := own_sl ST.out.row
      have X1 := hid (Blk.new wr #[.int .u8 x.op, .int .i64 x.A, .int .i64 x.B, .slice a x.tos.length c] 90 _ rfl)
      have B1 := hid ((Below.refl wr.heap.size wr).alloc (Nat.le_refl _) (.cells #[.int .u8 x.op, .int .i64 x.A, .int .i64 x.B, .slice a x.tos.length c] 90))
      clear TL0 CE hto
      have x0 := X1.out.cell (i := 0) rfl
      have x1 := X1.out.cell (i := 1) rfl
      have x2 := X1.out.cell (i := 2) rfl
      have x3 := X1.out.cell (i := 3) rfl
      have HX := hid (ST.out.its x (by simp))
      have hcnt : ps.length ≤ 200 := by have := ST.out.cnt; omega
      have HSY := hid hsy
      have HS := hid hs
      have HR := hid (IH.out y1 (by have := ST.out.sub; simp only [List.length_append, List.length_cons] at this; omega) endI (xs ++ e :: r) d1 s1 _ (wr.alloc (.cells #[.int .u8 x.op, .int .i64 x.A, .int .i64 x.B, .slice a x.tos.length c] 90)) (.inr rfl) HSY.out (fun z hz => ST.out.its z (by rw [show (x :: (y1 ++ endI :: xs)) ++ e :: r = [x] ++ (y1 ++ endI :: (xs ++ e :: r)) by simp]; exact List.mem_append_right _ hz)) TL.out (by have := ST.out.len; simp only [List.length_append, List.length_cons] at this ⊢; omega) (BW.out.trans (B1.out.mono BW.out.size)))
      clear hsy hs
      have h11 : ((x.op : Int) == 11) = false := by simp; omega
      have h5 : ((x.op : Int) == 5) = false := by simp; omega
      have h23 : ((x.op : Int) == 2) = true ∨ (((x.op : Int) == 2) = false ∧ ((x.op : Int) == 3) = true) := by
        rcases hop with g | g
        · exact .inl (by simp; omega)
        · exact .inr ⟨by simp; omega, by simp; omega⟩
      clear hop
      have FIN := hid True.intro
      rcases h23 with h2 | ⟨h2, h3⟩
      · go_wp2_with fail
        refine HR.out.mono ?_
        rintro q w2 ⟨ps1, F1, u1, rv1, rfl, hr1, hp1, hf1, hc1, hm1, hs1, hb1, hb2⟩
        have R1 := hid hr1
        have P1 := hid hp1
        have FB1 := hid hf1
        have CT1 := hid (And.intro hc1 (And.intro hm1 hs1))
        have B2 := hid (B1.out.trans (hb2.mono B1.out.size))
        have X2 := hid (X1.out.below hb2)
        obtain ⟨au1, cu1, rfl⟩ := hr1.open
        obtain ⟨b1, off1, n1, cap1, o1, rfl, hn11, hn12, hn13, RT1, TL10, CE1⟩ := BodS.uncons hb1
        have TL1 := hid TL10
        clear hr1 hp1 hf1 hc1 hm1 hs1 hb1 hb2 TL10 x0 x1 x2 x3
        have x0 := X2.out.cell (i := 0) rfl
        have x1 := X2.out.cell (i := 1) rfl
        have x2 := X2.out.cell (i := 2) rfl
        have x3 := X2.out.cell (i := 3) rfl
        have HC := hid (copied_any w2 x (.slice a x.tos.length c) HX.out.2 (L1.below HTO.out B2.out))
        go_wp2_with fail
        refine HC.out.mono ?_
        rintro q w3 ⟨a2, k2, rfl, ho2, hb2⟩
        have HO2 := hid ho2
        have B3 := hid (B2.out.trans (hb2.mono B2.out.size))
        have KB := hid (KN.below (F := F1) hb2)
        have OW := hid (own_below ST.out.row B3.out)
        have hsw : w.heap.size ≤ w3.heap.size := Nat.le_trans ST.out.bel.size B3.out.size
        have hs23 := hb2.size
        have hs12 := B2.out.size
        clear ho2 hb2
        go_wp2_with (at_builtin; go_must (refine app_one elem_node (base := w.heap.size) (cs := [.iface 259 (blockV x (.slice a2 x.tos.length k2) (.slice au1 ps1.length cu1))]) rfl _ _ rfl rfl rfl rfl OW.out rfl (by intro c hc; simp at hc; subst hc; rfl) (by omega) (by omega) hsw ?_); intro j2 w4 ho4 hb4 hg4)
        obtain ⟨aj4, cj4, rfl, -⟩ := own_sl ho4
        have HN := hid (NodeI.block (w := w3) (F := fun k => F k ∨ F1 k) x (.slice a2 x.tos.length k2) (.slice au1 ps1.length cu1) ps1 HX.out (own_mono' HO2.out (Nat.zero_le _)) (R1.out.keep KB.out (fun k g => .inr g)) (P1.out.keep KB.out (fun k g => .inr g)))
        rw [CT1.out.1, CT1.out.2.1, CT1.out.2.2] at HN
        have ST4 := hid (PtS.push (zs := x :: (y1 ++ [endI])) (ys2 := xs) (dn := d1 + 1) (sn := s1 + 1) (d2 := d3) (s2 := s3) (i2 := .slice (some ⟨b1, o1, none⟩) (n1 - 1) (cap1 - 1)) (by rw [show (x :: (y1 ++ [endI])) ++ xs = x :: (y1 ++ endI :: xs) by simp]; exact ST.out) B3.out (fun k g => .inl g) (fun k g => g.imp id (fun g => by have := FB1.out k g; simp at this; omega)) HS.out TL1.out HN.out (by simp) ho4 hg4 hb4)
        clear ho4 hb4 hg4
        go_wp2_with fail
        go_roundw
        case rel => exact ⟨_, _, _, _, _, ST4⟩
        case measure =>
          rw [HLN.out, ST4.out.bod.len]
          simp only [List.length_append, List.length_cons]
          omega
      · go_wp2_with fail
        refine HR.out.mono ?_
        rintro q w2 ⟨ps1, F1, u1, rv1, rfl, hr1, hp1, hf1, hc1, hm1, hs1, hb1, hb2⟩
        have R1 := hid hr1
        have P1 := hid hp1
        have FB1 := hid hf1
        have CT1 := hid (And.intro hc1 (And.intro hm1 hs1))
        have B2 := hid (B1.out.trans (hb2.mono B1.out.size))
        have X2 := hid (X1.out.below hb2)
        obtain ⟨au1, cu1, rfl⟩ := hr1.open
        obtain ⟨b1, off1, n1, cap1, o1, rfl, hn11, hn12, hn13, RT1, TL10, CE1⟩ := BodS.uncons hb1
        have TL1 := hid TL10
        clear hr1 hp1 hf1 hc1 hm1 hs1 hb1 hb2 TL10 x0 x1 x2 x3
        have x0 := X2.out.cell (i := 0) rfl
        have x1 := X2.out.cell (i := 1) rfl
        have x2 := X2.out.cell (i := 2) rfl
        have x3 := X2.out.cell (i := 3) rfl
        have HC := hid (copied_any w2 x (.slice a x.tos.length c) HX.out.2 (L1.below HTO.out B2.out))
        go_wp2_with fail
        refine HC.out.mono ?_
        rintro q w3 ⟨a2, k2, rfl, ho2, hb2⟩
        have HO2 := hid ho2
        have B3 := hid (B2.out.trans (hb2.mono B2.out.size))
        have KB := hid (KN.below (F := F1) hb2)
        have OW := hid (own_below ST.out.row B3.out)
        have hsw : w.heap.size ≤ w3.heap.size := Nat.le_trans ST.out.bel.size B3.out.size
        have hs23 := hb2.size
        have hs12 := B2.out.size
        clear ho2 hb2
        go_wp2_with (at_builtin; go_must (refine app_one elem_node (base := w.heap.size) (cs := [.iface 259 (blockV x (.slice a2 x.tos.length k2) (.slice au1 ps1.length cu1))]) rfl _ _ rfl rfl rfl rfl OW.out rfl (by intro c hc; simp at hc; subst hc; rfl) (by omega) (by omega) hsw ?_); intro j2 w4 ho4 hb4 hg4)
        obtain ⟨aj4, cj4, rfl, -⟩ := own_sl ho4
        have HN := hid (NodeI.block (w := w3) (F := fun k => F k ∨ F1 k) x (.slice a2 x.tos.length k2) (.slice au1 ps1.length cu1) ps1 HX.out (own_mono' HO2.out (Nat.zero_le _)) (R1.out.keep KB.out (fun k g => .inr g)) (P1.out.keep KB.out (fun k g => .inr g)))
        rw [CT1.out.1, CT1.out.2.1, CT1.out.2.2] at HN
        have ST4 := hid (PtS.push (zs := x :: (y1 ++ [endI])) (ys2 := xs) (dn := d1 + 1) (sn := s1 + 1) (d2 := d3) (s2 := s3) (i2 := .slice (some ⟨b1, o1, none⟩) (n1 - 1) (cap1 - 1)) (by rw [show (x :: (y1 ++ [endI])) ++ xs = x :: (y1 ++ endI :: xs) by simp]; exact ST.out) B3.out (fun k g => .inl g) (fun k g => g.imp id (fun g => by have := FB1.out k g; simp at this; omega)) HS.out TL1.out HN.out (by simp) ho4 hg4 hb4)
        clear ho4 hb4 hg4
        go_wp2_with fail
        go_roundw
        case rel => exact ⟨_, _, _, _, _, ST4⟩
        case measure =>
          rw [HLN.out, ST4.out.bod.len]
          simp only [List.length_append, List.length_cons]
          omega
    | half x y1 xs d1 s1 d3 s3 hop hsy hs =>
      obtain ⟨b, off, nn, cap, o, rfl, hn1, hn2, hn3, RT, TL0, CE⟩ := BodS.uncons (show BodS w0 _ (x :: (y1 ++ endI :: (xs ++ e :: r))) from by have := ST.out.bod; simpa using this)
      have TL := hid TL0
      have BW := hid (HB.out.trans (ST.out.bel.mono HB.out.size))
      obtain ⟨a, c, c0, c1, c2, c3, hto⟩ := CE wr BW.out
      have HTO := hid hto
      have hn0 : (0 : Int) < (nn : Int) := by omega
      have HLN := hid (show slLen (.slice (some ⟨b, off, none⟩) nn cap) = (x :: (y1 ++ endI :: xs) ++ e :: r).length from ST.out.bod.len)
      obtain ⟨aj, cj, rfl, -⟩ := own_sl ST.out.row
      have X1 := hid (Blk.new wr #[.int .u8 x.op, .int .i64 x.A, .int .i64 x.B, .slice a x.tos.length c] 90 _ rfl)
      have B1 := hid ((Below.refl wr.heap.size wr).alloc (Nat.le_refl _) (.cells #[.int .u8 x.op, .int .i64 x.A, .int .i64 x.B, .slice a x.tos.length c] 90))
      clear TL0 CE hto
      have x0 := X1.out.cell (i := 0) rfl
      have x1 := X1.out.cell (i := 1) rfl
      have x2 := X1.out.cell (i := 2) rfl
      have x3 := X1.out.cell (i := 3) rfl
      have HX := hid (ST.out.its x (by simp))
      have hcnt : ps.length ≤ 200 := by have := ST.out.cnt; omega
      have HSY := hid hsy
      have HS := hid hs
      have HR := hid (IH.out y1 (by have := ST.out.sub; simp only [List.length_append, List.length_cons] at this; omega) endI (xs ++ e :: r) d1 s1 _ (wr.alloc (.cells #[.int .u8 x.op, .int .i64 x.A, .int .i64 x.B, .slice a x.tos.length c] 90)) (.inr rfl) HSY.out (fun z hz => ST.out.its z (by rw [show (x :: (y1 ++ endI :: xs)) ++ e :: r = [x] ++ (y1 ++ endI :: (xs ++ e :: r)) by simp]; exact List.mem_append_right _ hz)) TL.out (by have := ST.out.len; simp only [List.length_append, List.length_cons] at this ⊢; omega) (BW.out.trans (B1.out.mono BW.out.size)))
      clear hsy hs
      have h11 : ((x.op : Int) == 11) = false := by simp; omega
      have h5 : ((x.op : Int) == 5) = false := by simp; omega
      have h2 : ((x.op : Int) == 2) = false := by simp; omega
      have h3 : ((x.op : Int) == 3) = false := by simp; omega
      have h4 : ((x.op : Int) == 4) = true := by simp; omega
      clear hop
      go_wp2_with fail
      refine HR.out.mono ?_
      rintro q w2 ⟨ps1, F1, u1, rv1, rfl, hr1, hp1, hf1, hc1, hm1, hs1, hb1, hb2⟩
      have R1 := hid hr1
      have P1 := hid hp1
      have FB1 := hid hf1
      have CT1 := hid (And.intro hc1 (And.intro hm1 hs1))
      have B2 := hid (B1.out.trans (hb2.mono B1.out.size))
      have X2 := hid (X1.out.below hb2)
      obtain ⟨au1, cu1, rfl⟩ := hr1.open
      obtain ⟨b1, off1, n1, cap1, o1, rfl, hn11, hn12, hn13, RT1, TL10, CE1⟩ := BodS.uncons hb1
      have TL1 := hid TL10
      clear hr1 hp1 hf1 hc1 hm1 hs1 hb1 hb2 TL10 x0 x1 x2 x3
      have x0 := X2.out.cell (i := 0) rfl
      have x1 := X2.out.cell (i := 1) rfl
      have x2 := X2.out.cell (i := 2) rfl
      have x3 := X2.out.cell (i := 3) rfl
      have HC := hid (copied_any w2 x (.slice a x.tos.length c) HX.out.2 (L1.below HTO.out B2.out))
      go_wp2_with fail
      refine HC.out.mono ?_
      rintro q w3 ⟨a2, k2, rfl, ho2, hb2⟩
      have HO2 := hid ho2
      have B3 := hid (B2.out.trans (hb2.mono B2.out.size))
      have KB := hid (KN.below (F := F1) hb2)
      have XN := hid (Blk.new w3 #[.int .u8 x.op, .int .i64 x.A, .int .i64 x.B, .slice a2 x.tos.length k2, .slice au1 ps1.length cu1, .slice none 0 0, .bool false] 261 _ rfl)
      have BA := hid ((Below.refl w3.heap.size w3).alloc (Nat.le_refl _) (.cells #[.int .u8 x.op, .int .i64 x.A, .int .i64 x.B, .slice a2 x.tos.length k2, .slice au1 ps1.length cu1, .slice none 0 0, .bool false] 261))
      have B4 := hid (B3.out.trans (BA.out.mono B3.out.size))
      have n0 := XN.out.cell (i := 0) rfl
      have n1c := XN.out.cell (i := 1) rfl
      have n2 := XN.out.cell (i := 2) rfl
      have n3 := XN.out.cell (i := 3) rfl
      have n4 := XN.out.cell (i := 4) rfl
      have n5 := XN.out.cell (i := 5) rfl
      have n6 := XN.out.cell (i := 6) rfl
      have hs23 := hb2.size
      have hs12 := B2.out.size
      clear ho2 hb2
      obtain ⟨ae, ce, c10, _, _, _, _⟩ := CE1 (w3.alloc (.cells #[.int .u8 x.op, .int .i64 x.A, .int .i64 x.B, .slice a2 x.tos.length k2, .slice au1 ps1.length cu1, .slice none 0 0, .bool false] 261)) (BW.out.trans (B4.out.mono BW.out.size))
      have hn10 : (0 : Int) < (n1 : Int) := by omega
      have c11 : (w3.alloc (.cells #[.int .u8 x.op, .int .i64 x.A, .int .i64 x.B, .slice a2 x.tos.length k2, .slice au1 ps1.length cu1, .slice none 0 0, .bool false] 261)).cell? ⟨b1, off1, none⟩ = some (.int .u8 11) := c10
      clear c10
      have OW := hid (own_below ST.out.row B4.out)
      have hsw : w.heap.size ≤ (w3.alloc (.cells #[.int .u8 x.op, .int .i64 x.A, .int .i64 x.B, .slice a2 x.tos.length k2, .slice au1 ps1.length cu1, .slice none 0 0, .bool false] 261)).heap.size := Nat.le_trans ST.out.bel.size B4.out.size
      go_wp2_with (at_builtin; go_must (refine app_one elem_node (base := w.heap.size) (cs := [.iface 261 (choiceV x (.slice a2 x.tos.length k2) (.slice au1 ps1.length cu1) (.slice none 0 0) false)]) rfl _ _ rfl rfl rfl (by simp) OW.out rfl (by intro c hc; simp at hc; subst hc; rfl) (by omega) (by omega) hsw ?_); intro j2 w4 ho4 hb4 hg4)
      obtain ⟨aj4, cj4, rfl, -⟩ := own_sl ho4
      have HN0 := hid (NodeI.half (w := w3) (F := fun k => F k ∨ F1 k) x (.slice a2 x.tos.length k2) (.slice au1 ps1.length cu1) ps1 HX.out (own_mono' HO2.out (Nat.zero_le _)) (R1.out.keep KB.out (fun k g => .inr g)) (P1.out.keep KB.out (fun k g => .inr g)))
      have HN := hid (HN0.out.keep (w' := (w3.alloc (.cells #[.int .u8 x.op, .int .i64 x.A, .int .i64 x.B, .slice a2 x.tos.length k2, .slice au1 ps1.length cu1, .slice none 0 0, .bool false] 261))) (KN.below BA.out) (fun _ g => g))
      rw [CT1.out.1, CT1.out.2.1, CT1.out.2.2] at HN
      have ST4 := hid (PtS.push (zs := x :: (y1 ++ [endI])) (ys2 := xs) (dn := d1 + 1) (sn := s1 + 1) (d2 := d3) (s2 := s3) (i2 := .slice (some ⟨b1, o1, none⟩) (n1 - 1) (cap1 - 1)) (by rw [show (x :: (y1 ++ [endI])) ++ xs = x :: (y1 ++ endI :: xs) by simp]; exact ST.out) B4.out (fun k g => .inl g) (fun k g => g.imp id (fun g => by have := FB1.out k g; simp at this ⊢; omega)) HS.out TL1.out HN.out (by simp) ho4 hg4 hb4)
      clear ho4 hb4 hg4
      go_wp2_with fail
      go_roundw
      case rel => exact ⟨_, _, _, _, _, ST4⟩
      case measure =>
        rw [HLN.out, ST4.out.bod.len]
        simp only [List.length_append, List.length_cons]
        omega
    | both x y1 y2 xs d1 s1 e1 f1 d3 s3 hop hsy hsz hs =>
      obtain ⟨b, off, nn, cap, o, rfl, hn1, hn2, hn3, RT, TL0, CE⟩ := BodS.uncons (show BodS w0 _ (x :: (y1 ++ elseI :: (y2 ++ endI :: (xs ++ e :: r)))) from by have := ST.out.bod; simpa using this)
      have TL := hid TL0
      have BW := hid (HB.out.trans (ST.out.bel.mono HB.out.size))
      obtain ⟨a, c, c0, c1, c2, c3, hto⟩ := CE wr BW.out
      have HTO := hid hto
      have hn0 : (0 : Int) < (nn : Int) := by omega
      have HLN := hid (show slLen (.slice (some ⟨b, off, none⟩) nn cap) = (x :: (y1 ++ elseI :: (y2 ++ endI :: xs)) ++ e :: r).length from ST.out.bod.len)
      obtain ⟨aj, cj, rfl, -⟩ := own_sl ST.out.row
      have X1 := hid (Blk.new wr #[.int .u8 x.op, .int .i64 x.A, .int .i64 x.B, .slice a x.tos.length c] 90 _ rfl)
      have B1 := hid ((Below.refl wr.heap.size wr).alloc (Nat.le_refl _) (.cells #[.int .u8 x.op, .int .i64 x.A, .int .i64 x.B, .slice a x.tos.length c] 90))
      clear TL0 CE hto
      have x0 := X1.out.cell (i := 0) rfl
      have x1 := X1.out.cell (i := 1) rfl
      have x2 := X1.out.cell (i := 2) rfl
      have x3 := X1.out.cell (i := 3) rfl
      have HX := hid (ST.out.its x (by simp))
      have hcnt : ps.length ≤ 200 := by have := ST.out.cnt; omega
      have HSY := hid hsy
      have HSZ := hid hsz
      have HS := hid hs
      have HR := hid (IH.out y1 (by have := ST.out.sub; simp only [List.length_append, List.length_cons] at this; omega) elseI (y2 ++ endI :: (xs ++ e :: r)) d1 s1 _ (wr.alloc (.cells #[.int .u8 x.op, .int .i64 x.A, .int .i64 x.B, .slice a x.tos.length c] 90)) (.inl rfl) HSY.out (fun z hz => ST.out.its z (by rw [show (x :: (y1 ++ elseI :: (y2 ++ endI :: xs))) ++ e :: r = [x] ++ (y1 ++ elseI :: (y2 ++ endI :: (xs ++ e :: r))) by simp]; exact List.mem_append_right _ hz)) TL.out (by have := ST.out.len; simp only [List.length_append, List.length_cons] at this ⊢; omega) (BW.out.trans (B1.out.mono BW.out.size)))
      clear hsy hs hsz
      have h11 : ((x.op : Int) == 11) = false := by simp; omega
      have h5 : ((x.op : Int) == 5) = false := by simp; omega
      have h2 : ((x.op : Int) == 2) = false := by simp; omega
      have h3 : ((x.op : Int) == 3) = false := by simp; omega
      have h4 : ((x.op : Int) == 4) = true := by simp; omega
      clear hop
      go_wp2_with fail
      refine HR.out.mono ?_
      rintro q w2 ⟨ps1, F1, u1, rv1, rfl, hr1, hp1, hf1, hc1, hm1, hs1, hb1, hb2⟩
      have R1 := hid hr1
      have P1 := hid hp1
      have FB1 := hid hf1
      have CT1 := hid (And.intro hc1 (And.intro hm1 hs1))
      have B2 := hid (B1.out.trans (hb2.mono B1.out.size))
      have X2 := hid (X1.out.below hb2)
      obtain ⟨au1, cu1, rfl⟩ := hr1.open
      obtain ⟨b1, off1, n1, cap1, o1, rfl, hn11, hn12, hn13, RT1, TL10, CE1⟩ := BodS.uncons hb1
      have TL1 := hid TL10
      clear hr1 hp1 hf1 hc1 hm1 hs1 hb1 hb2 TL10 x0 x1 x2 x3
      have x0 := X2.out.cell (i := 0) rfl
      have x1 := X2.out.cell (i := 1) rfl
      have x2 := X2.out.cell (i := 2) rfl
      have x3 := X2.out.cell (i := 3) rfl
      have HC := hid (copied_any w2 x (.slice a x.tos.length c) HX.out.2 (L1.below HTO.out B2.out))
      go_wp2_with fail
      refine HC.out.mono ?_
      rintro q w3 ⟨a2, k2, rfl, ho2, hb2⟩
      have HO2 := hid ho2
      have B3 := hid (B2.out.trans (hb2.mono B2.out.size))
      have KB := hid (KN.below (F := F1) hb2)
      have XN := hid (Blk.new w3 #[.int .u8 x.op, .int .i64 x.A, .int .i64 x.B, .slice a2 x.tos.length k2, .slice au1 ps1.length cu1, .slice none 0 0, .bool false] 261 _ rfl)
      have BA := hid ((Below.refl w3.heap.size w3).alloc (Nat.le_refl _) (.cells #[.int .u8 x.op, .int .i64 x.A, .int .i64 x.B, .slice a2 x.tos.length k2, .slice au1 ps1.length cu1, .slice none 0 0, .bool false] 261))
      have B4 := hid (B3.out.trans (BA.out.mono B3.out.size))
      have n0 := XN.out.cell (i := 0) rfl
      have n1c := XN.out.cell (i := 1) rfl
      have n2 := XN.out.cell (i := 2) rfl
      have n3 := XN.out.cell (i := 3) rfl
      have n4 := XN.out.cell (i := 4) rfl
      have n5 := XN.out.cell (i := 5) rfl
      have n6 := XN.out.cell (i := 6) rfl
      have hs23 := hb2.size
      have hs12 := B2.out.size
      clear ho2 hb2
      obtain ⟨ae, ce, c10, _, _, _, _⟩ := CE1 (w3.alloc (.cells #[.int .u8 x.op, .int .i64 x.A, .int .i64 x.B, .slice a2 x.tos.length k2, .slice au1 ps1.length cu1, .slice none 0 0, .bool false] 261)) (BW.out.trans (B4.out.mono BW.out.size))
      have hn10 : (0 : Int) < (n1 : Int) := by omega
      have c11 : (w3.alloc (.cells #[.int .u8 x.op, .int .i64 x.A, .int .i64 x.B, .slice a2 x.tos.length k2, .slice au1 ps1.length cu1, .slice none 0 0, .bool false] 261)).cell? ⟨b1, off1, none⟩ = some (.int .u8 5) := c10
      clear c10
      have HR2 := hid (IH.out y2 (by have := ST.out.sub; simp only [List.length_append, List.length_cons] at this; omega) endI (xs ++ e :: r) e1 f1 _ (w3.alloc (.cells #[.int .u8 x.op, .int .i64 x.A, .int .i64 x.B, .slice a2 x.tos.length k2, .slice au1 ps1.length cu1, .slice none 0 0, .bool false] 261)) (.inr rfl) HSZ.out (fun z hz => ST.out.its z (by rw [show (x :: (y1 ++ elseI :: (y2 ++ endI :: xs))) ++ e :: r = (x :: (y1 ++ [elseI])) ++ (y2 ++ endI :: (xs ++ e :: r)) by simp]; exact List.mem_append_right _ hz)) TL1.out (by have := ST.out.len; simp only [List.length_append, List.length_cons] at this ⊢; omega) (BW.out.trans (B4.out.mono BW.out.size)))
      go_wp2_with fail
      refine HR2.out.mono ?_
      rintro q w5 ⟨ps2, F2, u2, rv2, rfl, hr2, hp2, hf2, hc2, hm2, hs2, hb2, hb5⟩
      have R2 := hid hr2
      have P2 := hid hp2
      have FB2 := hid hf2
      have CT2 := hid (And.intro hc2 (And.intro hm2 hs2))
      have B5 := hid (B4.out.trans (hb5.mono B4.out.size))
      have XN5 := hid (XN.out.below hb5)
      have hs45 := hb5.size
      obtain ⟨au2, cu2, rfl⟩ := hr2.open
      obtain ⟨b2, off2, n2c, cap2, o2, rfl, hn21, hn22, hn23, RT2, TL20, CE2⟩ := BodS.uncons hb2
      have TL2 := hid TL20
      have KA := hid (KN.below (F := F1) hb5)
      clear hr2 hp2 hf2 hc2 hm2 hs2 hb2 hb5 TL20 n0 n1c n2 n3 n4 n5 n6 CE2
      have n0 := XN5.out.cell (i := 0) rfl
      have n1c := XN5.out.cell (i := 1) rfl
      have n2 := XN5.out.cell (i := 2) rfl
      have n3 := XN5.out.cell (i := 3) rfl
      have n4 := XN5.out.cell (i := 4) rfl
      have n5 := XN5.out.cell (i := 5) rfl
      have n6 := XN5.out.cell (i := 6) rfl
      have nf := XN5.out.free
      have hs45 : w3.heap.size + 1 ≤ w5.heap.size := by simpa using hs45
      have NF1 : Hid (¬ F1 w3.heap.size) := hid (fun g => by have := FB1.out _ g; omega)
      have NF2 : Hid (¬ F2 w3.heap.size) := hid (fun g => absurd (Nat.lt_of_lt_of_le (show w3.heap.size < (w3.alloc (.cells #[.int .u8 x.op, .int .i64 x.A, .int .i64 x.B, .slice a2 x.tos.length k2, .slice au1 ps1.length cu1, .slice none 0 0, .bool false] 261)).heap.size by simp) (FB2.out _ g).1) (Nat.lt_irrefl _))
      have KS1 := hid ((KN.set (i := 5) XN5.out (by decide) NF1.out (.slice au2 ps2.length cu2)).trans (KN.set (i := 6) (XN5.out.set 5 (.slice au2 ps2.length cu2)) (by decide) NF1.out (.bool true)) (by simp))
      have KS2 := hid ((KN.set (i := 5) XN5.out (by decide) NF2.out (.slice au2 ps2.length cu2)).trans (KN.set (i := 6) (XN5.out.set 5 (.slice au2 ps2.length cu2)) (by decide) NF2.out (.bool true)) (by simp))
      have HNW := hid (show wr.heap.size ≤ w3.heap.size from B3.out.size)
      have B6 := hid (show Below wr.heap.size wr ((w5.setCell ⟨w3.heap.size, 5, none⟩ (.slice au2 ps2.length cu2)).setCell ⟨w3.heap.size, 6, none⟩ (.bool true)) from (B5.out.trans (Touch.below (B := wr.heap.size) (Touch.setCell (F := fun j => j = w3.heap.size) (a := ⟨w3.heap.size, 5, none⟩) rfl (.slice au2 ps2.length cu2)) B5.out.size (fun j hj => by have := HNW.out; omega))).trans (Touch.below (B := wr.heap.size) (Touch.setCell (F := fun j => j = w3.heap.size) (a := ⟨w3.heap.size, 6, none⟩) rfl (.bool true)) (by have := B5.out.size; simp; omega) (fun j hj => by have := HNW.out; omega)))
      have OW := hid (own_below ST.out.row B6.out)
      have hsw : w.heap.size ≤ ((w5.setCell ⟨w3.heap.size, 5, none⟩ (.slice au2 ps2.length cu2)).setCell ⟨w3.heap.size, 6, none⟩ (.bool true)).heap.size := Nat.le_trans ST.out.bel.size B6.out.size
      go_wp2_with (at_builtin; go_must (refine app_one elem_node (base := w.heap.size) (cs := [.iface 261 (choiceV x (.slice a2 x.tos.length k2) (.slice au1 ps1.length cu1) (.slice au2 ps2.length cu2) true)]) rfl _ _ rfl rfl rfl (by simp) OW.out rfl (by intro c hc; simp at hc; subst hc; rfl) (by omega) (by omega) hsw ?_); intro j2 w6 ho4 hb4 hg4)
      obtain ⟨aj4, cj4, rfl, -⟩ := own_sl ho4
      have KT1 := hid ((KN.below (F := F1) BA.out).trans (KA.out.trans KS1.out (by simpa using hs45)) (by simp))
      have HN := hid (NodeI.both (w := ((w5.setCell ⟨w3.heap.size, 5, none⟩ (.slice au2 ps2.length cu2)).setCell ⟨w3.heap.size, 6, none⟩ (.bool true))) (F := fun k => F k ∨ F1 k ∨ F2 k) x (.slice a2 x.tos.length k2) (.slice au1 ps1.length cu1) (.slice au2 ps2.length cu2) ps1 ps2 HX.out (own_mono' (KT1.out.ints HO2.out) (Nat.zero_le _)) ((R1.out.keep KB.out (fun k g => g)).keep KT1.out (fun k g => .inr (.inl g))) (PartsI.keep (P1.out.keep KB.out (fun k g => g)) KT1.out (fun k g => .inr (.inl g))) (R2.out.keep KS2.out (fun k g => .inr (.inr g))) (PartsI.keep P2.out KS2.out (fun k g => .inr (.inr g))))
      rw [CT1.out.1, CT1.out.2.1, CT1.out.2.2, CT2.out.1, CT2.out.2.1, CT2.out.2.2] at HN
      have ST4 := hid (PtS.push (zs := x :: (y1 ++ elseI :: (y2 ++ [endI]))) (ys2 := xs) (dn := max d1 e1 + 1) (sn := s1 + f1 + 1) (d2 := d3) (s2 := s3) (i2 := .slice (some ⟨b2, o2, none⟩) (n2c - 1) (cap2 - 1)) (by rw [show (x :: (y1 ++ elseI :: (y2 ++ [endI]))) ++ xs = x :: (y1 ++ elseI :: (y2 ++ endI :: xs)) by simp]; exact ST.out) B6.out (fun k g => .inl g) (fun k g => g.imp id (fun g => by
        rcases g with g | g
        · have := FB1.out k g; simp at this ⊢; omega
        · have := FB2.out k g; simp at this ⊢; omega)) HS.out TL2.out HN.out (by simp) ho4 hg4 hb4)
      clear ho4 hb4 hg4
      go_wp2_with fail
      go_roundw
      case rel => exact ⟨_, _, _, _, _, ST4⟩
      case measure =>
        rw [HLN.out, ST4.out.bod.len]
        simp only [List.length_append, List.length_cons]
        omega
end Go.Proofs.Ytomaiolhaenmhaa
