/-
  LINKS, the reference's end: In. Conditions: the object's own invariant; lengths.
-/
import Derived.Test.YtalookaaogiinaaLkK
import Derived.Test.YtalookaaogiinaaLkV
import Derived.Test.YtalookaaogiinaaLkU
import Derived.Test.YtalookaaogiinaaFrc
import Derived.Deep.CutBlock
import Derived.Deep.RegionLaw
namespace Go.Proofs.Ytalookaaogiinaa
open Go.RowKit Go.Lib
attribute [local go_sem ↓] Go.wp_at_zero Go.wp_at_succ

abbrev encFq (f : Frm) : List Value := [.int .i64 f.fr, .int .i64 f.to, .int .i64 f.seq, .int .i64 f.ack, .string f.body]
def RIn (w : World) (base B : Nat) (p : RV) (s1 : RE) (f : Frm) (wx : World) : Prop := RePost w base B p s1 wx ∧ Blk wx w.heap.size 31 (encFq f)
theorem RePost.put {w w1 : World} {base B : Nat} {p : RV} {s s2 : RE} (h : RePost w base B p s w1) (i : Nat) (x : Value) (h1 : s2.offered = s.offered) (h2 : s2.sent = s.sent) (h3 : s2.came = s.came) (h4 : s2.kept = s.kept) (h5 : s2.cnt = s.cnt) (hc : ∀ u, (cellsR s u).set i x = cellsR s2 u) : RePost w base B p s2 (w1.setCell ⟨B, i, none⟩ x) := by
  obtain ⟨v', g1, g2, g3⟩ := h
  exact ⟨v', g1.put i x h1 h2 h3 h4 h5 (hc v'), g2.trans (Touch.setCell (.inl rfl) _), g3⟩
theorem RePost.below {w w1 w2 : World} {base B : Nat} {p : RV} {s : RE} (h : RePost w base B p s w1) (hb : Below w1.heap.size w1 w2) : RePost w base B p s w2 := by
  obtain ⟨v', h1, h2, h3⟩ := h
  exact ⟨v', h1.below hb, h2.trans (Touch.of_below hb), h3⟩
theorem chk_ok {f : Frm} (h : chkFr f = 0) : (0 ≤ f.seq ∧ f.seq ≤ 1099511627776) ∧ (0 ≤ f.ack ∧ f.ack ≤ 1099511627776) ∧ f.body.size ≤ 64 := by
  unfold chkFr at h
  split at h
  · rename_i g
    refine ⟨g.2.2.2.1, g.2.2.2.2.1, ?_⟩
    split at h
    · simp at h
    · omega
  · simp at h
theorem turned_re {w wa w9 : World} {B : Nat} {p0 p1 : RV} (ht : Touch (footR B p0) w wa) (hf : ∀ k, footR B p1 k → footR B p0 k ∨ w.heap.size ≤ k) (h9 : wa.mapTurned w9 p1.M) : Touch (footR B p0) w w9 :=
  ht.trans' (turned_touch (F := fun k => k = p1.M) h9 rfl) (fun i hi he => by
    subst he
    rcases hf _ (.inr (.inr (.inr (.inr rfl)))) with g | g
    · exact g
    · omega)
theorem re_mapne {w : World} {base B m : Nat} {p : RV} {s : RE} {ty : TypeId} {cs : List Value} (h : REB w base B p s) (hb : Blk w m ty cs) (e : m = p.M) : False := by
  obtain ⟨_, ⟨es, c3, h1, _⟩, _⟩ := h.rm
  unfold Blk at hb
  rw [e, h1] at hb
  simp at hb
def sLen : Value → Nat
  | .slice _ n _ => n
  | _ => 0
/-- how many have come -/
def lenAt (w : World) (B : Nat) : Nat := match w.cell? ⟨B, 6, none⟩ with
  | some v => sLen v
  | none => 0
theorem lenAt_of {w : World} {B n cap : Nat} {a : Option Addr} (h : w.cell? ⟨B, 6, none⟩ = some (.slice a n cap)) : lenAt w B = n := by unfold lenAt; rw [h]; rfl
/-- s[k:] of a row of strings -/
theorem str_tail {w : World} {base n : Nat} {v : Value} {cs : List Value} (h : w.ownsRow base 9 1 v n cs) (k : Nat) (hk : k ≤ n) : ∃ u, (∀ w1 : World, (Instr.slice 40 v (some (.int .i64 (k : Int))) none none).run Try.prog w1 = .ok u w1) ∧ Sl w u (n - k) (cs.drop k) ∧ ∃ a m c, u = .slice a m c := by
  rcases id h.2 with ⟨rfl, rfl⟩ | ⟨g, cap, cur, rfl, hbg, hg, hnc, hcm, hcs, htake⟩
  · obtain rfl : k = 0 := by omega
    obtain rfl : cs = [] := by have := h.1; simpa using this
    refine ⟨.slice none 0 0, fun w1 => by kernel_rfl, ⟨none, 0, rfl, Nat.le_refl _, by omega, fun _ => rfl, .inl rfl⟩, _, _, _, rfl⟩
  · obtain ⟨o, ho1, ho2⟩ := run_tail elem_strk g n cap k .i64 (k : Int) rfl hk
    refine ⟨_, ho2, ?_, _, _, _, rfl⟩
    have := own_tail h k hk o ho1
    rwa [Nat.mul_one] at this
/-- one more has come -/
theorem REB.push {w w' : World} {base B : Nat} {p : RV} {s s' : RE} {v' : Value} (h : REB w base B p s) (t : ByteArray) (hg : Grew w p.vc w' v') (ho : w'.ownsRow base 9 1 v' (s.came.length + 1) (s.came.map Value.string ++ [.string t])) (hs : s' = { s with came := s.came ++ [t] }) : REB (w'.setCell ⟨B, 6, none⟩ v') base B ⟨p.vo, p.vs, v', p.M⟩ s' := by
  subst hs
  have kt : KT 9 w w' := KT.grown hg.1 h.rc
  have hn := h.ne
  have hvB : v'.ownBlock ≠ some B := by
    rcases hg.2 with g | ⟨j, g, hj⟩
    · rw [g]; exact hn.2.2.1
    · rw [g]; intro e; injection e with e; have := h.blk.lt; omega
  have hro := (hg.other h.ro (fun k h1 h2 => h.ap k h1 h2)).1
  refine ⟨(kt.blk h.blk rfl).set 6 v', ownsRow_setCell_other (a := ⟨B, 6, none⟩) hro hn.1 _, ownsRow_setCell_other (a := ⟨B, 6, none⟩) (kt.own h.rs rfl) hn.2.1 _, ?_, ?_, ?_, h.le, h.lm, by have := kt.1; have := h.base; simp; omega⟩
  · exact ownsRow_setCell_other (a := ⟨B, 6, none⟩) (by simpa using ho) hvB _
  · exact (mid_map h.rm h.rc hg.1).same (Below.heap_setCell _ _ _ _ (fun e => hn.2.2.2 e))
  · intro k hk he
    rcases hg.2 with g | ⟨j, g, hj⟩
    · rw [g] at he; exact h.ap k hk he
    · rw [g] at he
      injection he with he
      have := (World.ownsRow.lt h.ro k hk).2
      omega
set_option maxRecDepth 100000 in
theorem copy_strk (v : Value) (xs : List ByteArray) (w : World) (hv : Sl w v xs.length (xs.map Value.string)) (hl : xs.length ≤ 8000000000000) :
    Calls Try.prog 46 #[v] w fun e w' => ∃ v', e = .returned v' ∧ w'.ownsRow w.heap.size 9 1 v' xs.length (xs.map Value.string) ∧ Below w.heap.size w w' := by
  have HV := hid hv
  clear hv
  go_enter Try.func46, Try.ntmps46
  go_wp2_with (at_builtin; go_must (refine app_any elem_strk (base := w.heap.size) rfl _ _ rfl rfl rfl (World.ownsRow_nil _ _ _ _) HV.out (by simp) (by intro c hc; obtain ⟨x, _, rfl⟩ := List.mem_map.1 hc; rfl) (by omega) (by omega) (Nat.le_refl _) ?_); intro v' w' ho hb2 _)
  go_ret
  exact ⟨_, rfl, by simpa using ho, hb2⟩

set_option maxRecDepth 100000 in
set_option maxHeartbeats 8000000 in
theorem rin_any (w : World) (base B : Nat) (p : RV) (s : RE) (f : Frm) (hok : okR s) (hfar : ∀ j : Int, s.came.length + 4 < j → s.kept j = none) (hc : s.came.length ≤ 8000000000000) (hcnt : s.cnt ≤ 8000000000000) (h : REB w base B p s) :
    Calls Try.prog 18 #[.pointer (some ⟨B, 0, none⟩), frmV f] w fun e w' =>
      if inE s.me s.other f = 0 then ∃ u, e = .returned (.tuple #[u, .int .i64 0]) ∧ w'.ownsRow w.heap.size 9 1 u ((inR s f).came.drop s.came.length).length (((inR s f).came.drop s.came.length).map Value.string) ∧ RePost w base B p (inR s f) w'
      else e = .returned (.tuple #[.slice none 0 0, .int .i64 (inE s.me s.other f)]) ∧ RePost w base B p s w' := by
  have H := hid h
  have HCK := hid (fun wx => rfcheck_any f wx)
  have HX := hid (Blk.new w #[.int .i64 f.fr, .int .i64 f.to, .int .i64 f.seq, .int .i64 f.ack, .string f.body] 31 _ rfl)
  have HB0 := hid ((Below.refl w.heap.size w).alloc (Nat.le_refl _) (.cells #[.int .i64 f.fr, .int .i64 f.to, .int .i64 f.seq, .int .i64 f.ack, .string f.body] 31))
  have HOK := hid hok
  have HF := hid hfar
  have HC := hid hc
  have HN := hid hcnt
  clear hok hc hfar hcnt
  unfold frmV at HCK ⊢
  by_cases h0 : chkFr f = 0
  · rw [h0] at HCK
    by_cases h1 : f.fr ≠ s.other ∨ f.to ≠ s.me
    · have HI := hid (show inE s.me s.other f = 1 from by unfold inE; rw [if_neg (fun g => g h0), if_pos h1])
      simp only [HI.out, show ¬ ((1 : Int) = 0) from by decide, if_false]
      have hmm : f.fr ≠ s.other ∨ (f.fr = s.other ∧ f.to ≠ s.me) := by
        by_cases g : f.fr = s.other
        · exact .inr ⟨g, h1.elim (fun e => absurd g e) id⟩
        · exact .inl g
      clear h h0 h1
      go_enter Try.func18, Try.ntmps18
      go_wp2_with (go_at_call 45; refine (HCK.out _).mono ?_; rintro r wx ⟨rfl, hb⟩)
      have HBX := hid (HB0.out.trans (hb.mono (by simp)))
      have XB := hid (HX.out.below hb)
      have p0 : wx.cell? ⟨w.heap.size, 0, none⟩ = some (.int .i64 f.fr) := XB.out.cell (i := 0) rfl
      have p1 : wx.cell? ⟨w.heap.size, 1, none⟩ = some (.int .i64 f.to) := XB.out.cell (i := 1) rfl
      have q0 : wx.cell? ⟨B, 0, none⟩ = some (.int .i64 s.me) := (H.out.blk.below HBX.out).cell (i := 0) rfl
      have q1 : wx.cell? ⟨B, 1, none⟩ = some (.int .i64 s.other) := (H.out.blk.below HBX.out).cell (i := 1) rfl
      have p0d : wx.drew.cell? ⟨w.heap.size, 0, none⟩ = some (.int .i64 f.fr) := p0
      have p1d : wx.drew.cell? ⟨w.heap.size, 1, none⟩ = some (.int .i64 f.to) := p1
      have q0d : wx.drew.cell? ⟨B, 0, none⟩ = some (.int .i64 s.me) := q0
      have q1d : wx.drew.cell? ⟨B, 1, none⟩ = some (.int .i64 s.other) := q1
      rcases hmm with h2 | ⟨h2, h3⟩
      · have d1 : (f.fr != s.other) = true := by simpa using h2
        clear h2
        go_wp2_with fail
        go_quiet (fail)
        go_wp2_with fail
        go_ret2
        exact ⟨rfl, re_same H.out (drew_bel' HBX.out)⟩
      · have d1 : (f.fr != s.other) = false := by simpa using h2
        have d2 : (f.to != s.me) = true := by simpa using h3
        clear h2 h3
        go_wp2_with fail
        go_quiet (fail)
        go_wp2_with fail
        go_ret2
        exact ⟨rfl, re_same H.out (drew_bel' HBX.out)⟩
    · have HI := hid (show inE s.me s.other f = 0 from by unfold inE; rw [if_neg (fun g => g h0), if_neg h1])
      simp only [HI.out, if_true]
      have d1 : (f.fr != s.other) = false := by
        have : f.fr = s.other := Classical.byContradiction fun g => h1 (.inl g)
        simpa using this
      have d2 : (f.to != s.me) = false := by
        have : f.to = s.me := Classical.byContradiction fun g => h1 (.inr g)
        simpa using this
      have HSQ := hid (chk_ok h0)
      have HBm := hid (show B ≠ w.heap.size from Nat.ne_of_lt h.blk.lt)
      have HBw := hid h.blk.lt
      clear h h0 h1
      go_enter Try.func18, Try.ntmps18
      go_wp2_with (go_at_call 45; refine (HCK.out _).mono ?_; rintro r wx ⟨rfl, hb⟩)
      have HBX := hid (HB0.out.trans (hb.mono (by simp)))
      have XB := hid (HX.out.below hb)
      have PX := hid (H.out.below HBX.out)
      have p0 : wx.cell? ⟨w.heap.size, 0, none⟩ = some (.int .i64 f.fr) := XB.out.cell (i := 0) rfl
      have p1 : wx.cell? ⟨w.heap.size, 1, none⟩ = some (.int .i64 f.to) := XB.out.cell (i := 1) rfl
      have q0 : wx.cell? ⟨B, 0, none⟩ = some (.int .i64 s.me) := PX.out.blk.cell (i := 0) rfl
      have q1 : wx.cell? ⟨B, 1, none⟩ = some (.int .i64 s.other) := PX.out.blk.cell (i := 1) rfl
      have p0d : wx.drew.cell? ⟨w.heap.size, 0, none⟩ = some (.int .i64 f.fr) := p0
      have p1d : wx.drew.cell? ⟨w.heap.size, 1, none⟩ = some (.int .i64 f.to) := p1
      have q0d : wx.drew.cell? ⟨B, 0, none⟩ = some (.int .i64 s.me) := q0
      have q1d : wx.drew.cell? ⟨B, 1, none⟩ = some (.int .i64 s.other) := q1
      clear hb
      go_wp2_with fail
      go_quiet (fail)
      clear d1 d2 p0 p1 q0 q1 p0d p1d q0d q1d
      have XN := hid (show Blk (wx.drewN nq) w.heap.size 31 (encFq f) from XB.out)
      have PN := hid (show REB (wx.drewN nq) base B p s from (PX.out.part.drew nq).holds)
      have BN := hid (show Below w.heap.size w (wx.drewN nq) from drew_bel' HBX.out)
      clear XB PX HBX
      generalize wx.drewN nq = wn at *
      obtain ⟨vo, vs, vc, M⟩ := p
      obtain ⟨ags, cgs, hvs, -⟩ := own_sl PN.out.rs
      obtain ⟨agc, cgc, hvc, -⟩ := own_sl PN.out.rc
      simp only at hvs hvc
      subst hvs hvc
      have q4 : wn.cell? ⟨B, 4, none⟩ = some (.slice ags s.sent.length cgs) := PN.out.blk.cell (i := 4) rfl
      go_wp2_with fail
      go_loopw [7, 8, 9, 41] (fun hv a b i wr => ∃ k : Nat, k ≤ s.sent.length ∧ i = .int .i64 k ∧ hv = .int .i64 (hiK s.sent k) ∧ wr = wn) (fun _ _ _ i _ => s.sent.length - (RowKit.intOf i).toNat)
      case atStart => exact ⟨0, Nat.zero_le _, rfl, rfl, rfl⟩
      case round =>
        obtain ⟨k, hk, rfl, rfl, rfl⟩ := hrel
        by_cases hlt : k < s.sent.length
        · have hlt2 : (k : Int) < (s.sent.length : Int) := by omega
          have hlb := HOK.out.2.2.2.1
          obtain ⟨g, cg, hv, -, -, -, hcell, gf, -, -⟩ := OwnI.at (n := s.sent.length) PN.out.rs rfl (by omega)
          simp only [Value.slice.injEq] at hv
          obtain ⟨rfl, -, rfl⟩ := hv
          have c0 := hcell k _ (List.getElem?_eq_getElem hlt)
          have HK := hid (show hiK s.sent (k + 1) = if 0 ≤ s.sent[k] then (k : Int) + 1 else hiK s.sent k from by rw [hiK]; simp [List.getD, hlt])
          clear hcell
          generalize s.sent[k] = t at *
          have hb := hiK_le s.sent k
          generalize hiK s.sent k = hk0 at *
          by_cases ht : 0 ≤ t
          · have HK2 := hid (show hiK s.sent (k + 1) = (k : Int) + 1 from by rw [HK.out, if_pos ht])
            go_wp2_with fail
            go_roundw
            case rel => exact ⟨k + 1, by omega, by go_num, by rw [HK2.out], by first | rfl | trivial⟩
            case measure => simp [RowKit.intOf]; omega
          · have HK2 := hid (show hiK s.sent (k + 1) = hk0 from by rw [HK.out, if_neg ht])
            go_wp2_with fail
            go_roundw
            case rel => exact ⟨k + 1, by omega, by go_num, by rw [HK2.out], by first | rfl | trivial⟩
            case measure => simp [RowKit.intOf]; omega
        · obtain rfl : k = s.sent.length := by omega
          have hnl : ¬ ((s.sent.length : Int) < (s.sent.length : Int)) := by omega
          have hhi := hiK_le s.sent s.sent.length
          have HS := hid (show ackR s f.ack = if f.ack ≤ hiK s.sent s.sent.length then { s with acked := max s.acked f.ack } else s from rfl)
          generalize hiK s.sent s.sent.length = hh at *
          have p3 := XN.out.cell (i := 3) rfl
          have q5 := PN.out.blk.cell (i := 5) rfl
          have xf := PN.out.blk.free
          have p3d : wr.drew.cell? ⟨w.heap.size, 3, none⟩ = some (.int .i64 f.ack) := p3
          have q5d : wr.drew.cell? ⟨B, 5, none⟩ = some (.int .i64 s.acked) := q5
          have xfd : ∀ i, wr.drew.frozen? ⟨B, i, none⟩ = false := xf
          go_upto_if 54 with fail
          go_cut [] from 54 to 64 (fun wy => RIn w base B ⟨vo, .slice ags s.sent.length cgs, .slice agc s.came.length cgc, M⟩ (ackR s f.ack) f wy)
          case first =>
            by_cases ha : f.ack ≤ hh
            · have HS2 := hid (show ackR s f.ack = { s with acked := max s.acked f.ack } from by rw [HS.out, if_pos ha])
              go_wp2_with fail
              go_region_law (fail)
              all_goals
                go_wp2_with fail
                go_meet
                refine ⟨?_, XN.out.other (a := ⟨B, 5, none⟩) HBm.out _⟩
                rw [HS2.out]
                exact ⟨_, (PN.out.put (s' := { s with acked := max s.acked f.ack }) 5 (.int .i64 (max s.acked f.ack)) rfl rfl rfl rfl rfl rfl).part.drew1.holds, ((Touch.of_below BN.out).put (a := ⟨B, 5, none⟩) (.inl rfl) _).drew1, fun _ hk => .inl hk⟩
            · have HS2 := hid (show ackR s f.ack = s from by rw [HS.out, if_neg ha])
              go_wp2_with fail
              go_meet
              exact ⟨by rw [HS2.out]; exact re_same H.out BN.out, XN.out⟩
          case rest =>
            have HIN := hid (show inR s f = drainR 4 (putR (ackR s f.ack) f) from rfl)
            have HA1 := hid (show (ackR s f.ack).came = s.came ∧ (ackR s f.ack).kept = s.kept ∧ (ackR s f.ack).cnt = s.cnt from by unfold ackR; split <;> exact ⟨rfl, rfl, rfl⟩)
            clear HS hhi p3 q5 xf p3d q5d xfd hnl q4
            generalize ackR s f.ack = s1 at *
            obtain ⟨⟨p1, g1, g2, g3⟩, g4⟩ := hcut
            have P1 := hid g1
            have T1 := hid g2
            have F1 := hid g3
            have X1 := hid g4
            obtain ⟨vo1, vs1, vc1, M1⟩ := p1
            obtain ⟨ac1, cc1, hvc1, -⟩ := own_sl g1.rc
            simp only at hvc1
            subst hvc1
            have q6 := P1.out.blk.cell (i := 6) rfl
            have p2 := X1.out.cell (i := 2) rfl
            clear g1 g2 g3 g4
            go_upto_if 72 with fail
            go_cut [] from 72 to 108 (fun wy => RIn w base B ⟨vo, .slice ags s.sent.length cgs, .slice agc s.came.length cgc, M⟩ (putR s1 f) f wy)
            case first =>
              --BEGIN
              by_cases hs : 0 < f.seq
              · have q8 := P1.out.blk.cell (i := 8) rfl
                have xf := P1.out.blk.free
                have P2 := hid (P1.out.put (s' := { s1 with owed := true }) 8 (.bool true) rfl rfl rfl rfl rfl rfl)
                have T2 := hid (T1.out.put (a := ⟨B, 8, none⟩) (.inl rfl) (.bool true))
                have X2 := hid (X1.out.other (a := ⟨B, 8, none⟩) HBm.out (.bool true))
                go_upto_region 18 with fail
                generalize wc.setCell ⟨B, 8, none⟩ (.bool true) = wa at *
                have q7 := P2.out.blk.cell (i := 7) rfl
                have p2a := X2.out.cell (i := 2) rfl
                have q7d : wa.drew.cell? ⟨B, 7, none⟩ = some (.map (some M1)) := q7
                have p2d : wa.drew.cell? ⟨w.heap.size, 2, none⟩ = some (.int .i64 f.seq) := p2a
                obtain ⟨⟨hs0, hs1⟩, -, hbs⟩ := HSQ.out
                have hlk := KeptS.look P2.out.rm f.seq (by omega) (by omega)
                have hlkd := KeptS.look (w := wa.drew) P2.out.part.drew1.holds.rm f.seq (by omega) (by omega)
                simp only at hlk hlkd
                have hcl : s1.came.length ≤ 8000000000000 := by have := HC.out; rw [HA1.out.1]; exact this
                have hw4 : IntKind.i64.wrap ((s1.came.length : Int) + 4) = (s1.came.length : Int) + 4 := IntWalk.i64_in _ (by omega)
                clear P1 T1 X1 q6 p2 q8 xf
                cases hk : s1.kept f.seq with
                | none =>
                  rw [hk] at hlk hlkd
                  simp only [Option.getD, Option.isSome] at hlk hlkd
                  by_cases g1 : (s1.came.length : Int) < f.seq
                  · by_cases g2 : f.seq ≤ (s1.came.length : Int) + 4
                    · have HS2 := hid (show putR s1 f = { s1 with kept := upd s1.kept f.seq (some f.body), cnt := s1.cnt + 1, owed := true } from by unfold putR; rw [if_pos hs, if_pos ⟨hk, g1, g2⟩])
                      clear hk
                      go_wp2_with fail
                      go_region_law (fail)
                      all_goals
                        go_upto_region 20 with fail
                        have P4 := hid (show REB wa.drew.drew base B ⟨vo1, vs1, .slice ac1 s1.came.length cc1, M1⟩ { s1 with owed := true } from P2.out.part.drew1.drew1.holds)
                        have T4 := hid (show Touch _ w wa.drew.drew from T2.out.drew1.drew1)
                        have X4 := hid (show Blk wa.drew.drew w.heap.size 31 (encFq f) from X2.out)
                        have a2 : wa.drew.drew.cell? ⟨w.heap.size, 2, none⟩ = some (.int .i64 f.seq) := X2.out.cell (i := 2) rfl
                        have a4 : wa.drew.drew.cell? ⟨w.heap.size, 4, none⟩ = some (.string f.body) := X2.out.cell (i := 4) rfl
                        have a7 : wa.drew.drew.cell? ⟨B, 7, none⟩ = some (.map (some M1)) := q7
                        have a4b : wa.drew.cell? ⟨w.heap.size, 4, none⟩ = some (.string f.body) := a4
                        obtain ⟨w9, hr9, hk9, ht9⟩ := KeptS.put P4.out.rm (by have := HN.out; have := HA1.out.2.2; unfold maxLen; show s1.cnt < _; omega) f.seq (by omega) (by omega) f.body (by unfold maxLen; omega)
                        simp only at hr9
                        have HK9 := hid hk9
                        have HT9 := hid ht9
                        clear hk9 ht9
                        go_wp2_with fail
                        go_region_law (fail)
                        all_goals
                          go_wp2_with fail
                          go_meet
                          refine ⟨?_, X4.out.same (HT9.out.grown.block _ X4.out.lt (fun e => ?_))⟩
                          · rw [HS2.out]
                            exact ⟨_, REB.turn P4.out HT9.out HK9.out, turned_re T4.out F1.out HT9.out, F1.out⟩
                          · exact re_mapne P4.out X4.out (by injection e)
                    · have HS2 := hid (show putR s1 f = { s1 with owed := true } from by unfold putR; rw [if_pos hs, if_neg (fun g => g2 g.2.2)])
                      clear hk
                      go_wp2_with fail
                      go_region_law (fail)
                      all_goals
                        go_wp2_with fail
                        go_meet
                        exact ⟨by rw [HS2.out]; exact ⟨_, P2.out.part.drew1.holds, T2.out.drew1, F1.out⟩, X2.out⟩
                  · have HS2 := hid (show putR s1 f = { s1 with owed := true } from by unfold putR; rw [if_pos hs, if_neg (fun g => g1 g.2.1)])
                    clear hk
                    go_wp2_with fail
                    go_region_law (fail)
                    all_goals
                      go_wp2_with fail
                      go_meet
                      exact ⟨by rw [HS2.out]; exact ⟨_, P2.out.part.drew1.holds, T2.out.drew1, F1.out⟩, X2.out⟩
                | some b =>
                  rw [hk] at hlk hlkd
                  simp only [Option.getD, Option.isSome] at hlk hlkd
                  have HS2 := hid (show putR s1 f = { s1 with owed := true } from by unfold putR; rw [if_pos hs, if_neg (fun g => by rw [hk] at g; simp at g)])
                  clear hk
                  go_wp2_with fail
                  go_region_law (fail)
                  all_goals
                    go_wp2_with fail
                    go_meet
                    exact ⟨by rw [HS2.out]; exact ⟨_, P2.out.part.drew1.holds, T2.out.drew1, F1.out⟩, X2.out⟩
              · have HS2 := hid (show putR s1 f = s1 from by unfold putR; rw [if_neg hs])
                go_wp2_with fail
                go_meet
                exact ⟨by rw [HS2.out]; exact ⟨_, P1.out, T1.out, F1.out⟩, X1.out⟩
              --END
            case rest =>
              have HP2 := hid hcut.1
              have HIN2 := hid (show inR s f = drainR 4 (putR s1 f) from HIN.out)
              have HC2 := hid (show (putR s1 f).came = s.came from by
                rw [← HA1.out.1]
                unfold putR
                split
                · split <;> rfl
                · rfl)
              have HF2 := hid (show ∀ j : Int, s.came.length + 4 < j → (putR s1 f).kept j = none from by
                intro j hj
                have h1 : s1.kept j = none := by rw [HA1.out.2.1]; exact HF.out j hj
                unfold putR
                split
                · split
                  · rename_i g
                    show upd s1.kept f.seq (some f.body) j = none
                    rw [HA1.out.1] at g
                    rw [upd_ne _ _ _ _ (by omega)]
                    exact h1
                  · exact h1
                · exact h1)
              clear hcut P1 T1 F1 X1 q6 p2 HIN
              rw [HA1.out.1]
              generalize putR s1 f = s2 at *
              go_wp2_with fail
              go_loopw [13, 14] (fun sv bv wr => ∃ (n : Nat) (s3 : RE), s3.came.length + n = s.came.length + 4 ∧ Hid (RePost w base B ⟨vo, .slice ags s.sent.length cgs, .slice agc s.came.length cgc, M⟩ s3 wr) ∧ Hid (drainR 4 s2 = drainR n s3) ∧ Hid (∀ j : Int, s.came.length + 4 < j → s3.kept j = none) ∧ Hid (s.came.length ≤ s3.came.length)) (fun _ _ wr => s.came.length + 4 - lenAt wr B)
              case atStart => exact ⟨4, s2, by rw [HC2.out], HP2, hid rfl, HF2, hid (by rw [HC2.out]; exact Nat.le_refl _)⟩
              case round =>
                obtain ⟨n, s3, hn, PO, DR, FR, LE⟩ := hrel
                --R2
                obtain ⟨⟨vo3, vs3, vc3, M3⟩, g1, g2, g3⟩ := PO.out
                obtain ⟨ac3, cc3, hvc3, -⟩ := own_sl g1.rc
                simp only at hvc3
                subst hvc3
                have P3 := hid g1
                have T3 := hid g2
                have F3 := hid g3
                have hcl : s.came.length ≤ 8000000000000 := HC.out
                have hl3 : s3.came.length ≤ 8000000000004 := by omega
                have HL3 := hid hl3
                have q6 := g1.blk.cell (i := 6) rfl
                have q7 := g1.blk.cell (i := 7) rfl
                have q6d : wr.drew.cell? ⟨B, 6, none⟩ = some (.slice ac3 s3.came.length cc3) := q6
                have q7d : wr.drew.cell? ⟨B, 7, none⟩ = some (.map (some M3)) := q7
                have hw1 : IntKind.i64.wrap ((s3.came.length : Int) + 1) = (s3.came.length : Int) + 1 := IntWalk.i64_in _ (by omega)
                have hlk := KeptS.look g1.rm ((s3.came.length : Int) + 1) (by omega) (by omega)
                have hlkd := KeptS.look (w := wr.drew) g1.part.drew1.holds.rm ((s3.came.length : Int) + 1) (by omega) (by omega)
                simp only at hlk hlkd
                have hLA : lenAt wr B = s3.came.length := by unfold lenAt; rw [q6]; rfl
                have HLA := hid hLA
                clear g1 g2 g3 PO hLA
                cases hk : s3.kept ((s3.came.length : Int) + 1) with
                | none =>
                  rw [hk] at hlk hlkd
                  simp only [Option.getD, Option.isSome] at hlk hlkd
                  have HD := hid (show drainR n s3 = s3 from by
                    cases n with
                    | zero => rfl
                    | succ n => rw [drainR, hk])
                  obtain ⟨u, hu1, hu2, au, nu, cu, rfl⟩ := str_tail P3.out.rc s.came.length LE.out
                  have HU := hid hu2
                  obtain ⟨xs, hxs⟩ : ∃ xs, s3.came.drop s.came.length = xs := ⟨_, rfl⟩
                  have HT := hid (show Sl wr (.slice au nu cu) xs.length (xs.map Value.string) from by rw [← hxs, List.length_drop, List.map_drop]; exact hu2)
                  have HXS := hid hxs
                  have HXL := hid (show xs.length ≤ 8000000000000 from by rw [← hxs, List.length_drop]; omega)
                  clear hk hu2 hxs
                  go_wp2_with fail
                  go_region_law (fail)
                  all_goals
                    go_wp2_with fail
                    refine (copy_strk _ xs _ (show Sl wr.drew _ _ _ from HT.out) HXL.out).mono ?_
                    rintro r w6 ⟨v6, rfl, ho6, hb6⟩
                    obtain ⟨a6, c6, rfl, -⟩ := own_sl ho6
                    have HO6 := hid ho6
                    have HB6 := hid hb6
                    clear ho6 hb6
                    go_wp2_with fail
                    go_ret2
                    rw [HIN2.out, DR.out, HD.out, HXS.out]
                    exact ⟨_, rfl, own_mono' (b := w.heap.size) HO6.out (show w.heap.size ≤ wr.drew.heap.size from T3.out.size), _, REB.below (w := wr.drew) P3.out.part.drew1.holds HB6.out, T3.out.drew1.trans (Touch.of_below HB6.out), F3.out⟩
                | some b =>
                  rw [hk] at hlk hlkd
                  simp only [Option.getD, Option.isSome] at hlk hlkd
                  obtain ⟨m, rfl⟩ : ∃ m, n = m + 1 := ⟨n - 1, by
                    rcases Nat.eq_zero_or_pos n with e | e
                    · have := FR.out ((s3.came.length : Int) + 1) (by omega)
                      rw [hk] at this
                      simp at this
                    · omega⟩
                  have HD := hid (show drainR (m + 1) s3 = drainR m (takeR s3 b) from by rw [drainR, hk])
                  clear hk
                  go_wp2_with fail
                  go_region_law (fail)
                  all_goals
                    go_wp2_with fail
                    have P4 := hid (show REB wr.drew.drew base B ⟨vo3, vs3, .slice ac3 s3.came.length cc3, M3⟩ s3 from P3.out.part.drew1.drew1.holds)
                    have T4 := hid (show Touch _ w wr.drew.drew from T3.out.drew1.drew1)
                    have a6 : wr.drew.drew.cell? ⟨B, 6, none⟩ = some (.slice ac3 s3.came.length cc3) := q6
                    have a7 : wr.drew.drew.cell? ⟨B, 7, none⟩ = some (.map (some M3)) := q7
                    obtain ⟨w9, hr9, hk9, ht9⟩ := KeptS.del P4.out.rm ((s3.came.length : Int) + 1) (by omega) (by omega) 0
                    simp only at hr9
                    have P9 := hid (REB.turn P4.out ht9 hk9)
                    have T9 := hid (turned_re T4.out F3.out ht9)
                    have P9rc := hid (show w9.ownsRow base 9 1 (.slice ac3 s3.came.length cc3) s3.came.length (s3.came.map Value.string) from P9.out.rc)
                    have x9 := P9.out.blk.cell (i := 6) rfl
                    clear hk9 ht9
                    go_region_law (fail)
                    all_goals
                      have hl3 := HL3.out
                      go_wp2_with (at_builtin; go_must (refine app_one elem_strk (base := base) (cs := [.string b]) rfl _ _ rfl rfl rfl rfl P9rc.out rfl (by intro c hc; simp at hc; subst hc; rfl) (by omega) (by omega) P9.out.base ?_); intro v' w5 ho hb hg; have P5 := hid (P9.out.push b hg ho rfl); have T5 := hid ((grew_touch T9.out hg (fun k hk => F3.out k (.inr (.inr (.inr (.inl hk)))))).put (a := ⟨B, 6, none⟩) (.inl rfl) v'); have F5 := hid (grew_in (F := footR B ⟨vo, .slice ags s.sent.length cgs, .slice agc s.came.length cgc, M⟩) (w0 := w) hg (fun k hk => F3.out k (.inr (.inr (.inr (.inl hk))))) T9.out.size); have c6 := Grew.cell hg x9 P9.out.ne.2.2.1; have cf := Grew.free hg x9 P9.out.ne.2.2.1 (P9.out.blk.free 6); obtain ⟨a5, k5, rfl, -⟩ := own_sl ho; clear ho hb hg)
                      go_roundw
                      case rel =>
                        refine ⟨m, takeR s3 b, ?_, hid ⟨_, P5.out, T5.out, ?_⟩, ?_, ?_, ?_⟩
                        · show (s3.came ++ [b]).length + m = _
                          rw [List.length_append]; simp; omega
                        · rintro k (e | e | e | e | e)
                          · exact F3.out k (.inl e)
                          · exact F3.out k (.inr (.inl e))
                          · exact F3.out k (.inr (.inr (.inl e)))
                          · exact F5.out k e
                          · exact F3.out k (.inr (.inr (.inr (.inr e))))
                        · exact hid (by rw [DR.out, HD.out])
                        · exact hid (fun j hj => by
                            show upd s3.kept (s3.came.length + 1) none j = none
                            by_cases e : j = s3.came.length + 1
                            · rw [e, upd_same]
                            · rw [upd_ne _ _ _ _ e]; exact FR.out j hj)
                        · exact hid (by show s.came.length ≤ (s3.came ++ [b]).length; rw [List.length_append]; have := LE.out; simp; omega)
                      case measure =>
                        have h1 := HLA.out
                        have h2 : lenAt _ B = s3.came.length + 1 := lenAt_of (P5.out.blk.cell (i := 6) rfl)
                        rw [h2, h1]
                        omega
  · have HI := hid (show inE s.me s.other f = chkFr f from by unfold inE; rw [if_pos h0])
    simp only [HI.out, h0, if_false]
    have h2 : (chkFr f != 0) = true := by simpa using h0
    generalize chkFr f = ck at *
    clear h h0
    go_enter Try.func18, Try.ntmps18
    go_wp2_with (go_at_call 45; refine (HCK.out _).mono ?_; rintro r wx ⟨rfl, hb⟩)
    go_wp2_with fail
    go_ret2
    exact ⟨rfl, re_same H.out (HB0.out.trans (hb.mono (by simp)))⟩
end Go.Proofs.Ytalookaaogiinaa
