/-
  LINKS, the program's end: In. Conditions: the object's own invariant; lengths.
-/
import Derived.Test.YtalookaaogiinaaLkM
import Derived.Deep.CutBlock
import Derived.Deep.RegionLaw
namespace Go.Proofs.Ytalookaaogiinaa
open Go.RowKit Go.Lib
attribute [local go_sem ↓] Go.wp_at_zero Go.wp_at_succ

theorem elem_out2 : Elem Try.prog 85 94 (.agg #[.string ByteArray.empty, .bool false, .int .i64 0]) 3 32 := elem_out
theorem elem_strp : Elem Try.prog 40 9 (.string ByteArray.empty) 1 16 := ⟨Try.underlying40, by kernel_rfl, rfl, by decide⟩
abbrev encF (f : Frm) : List Value := [.int .i64 f.fr, .int .i64 f.to, .int .i64 f.seq, .int .i64 f.ack, .string f.body]
theorem LkPost.put {w w1 : World} {base B : Nat} {v : Value} {s s2 : PE} (h : LkPost w base B v s w1) (i : Nat) (x : Value) (hw : s2.waits = s.waits) (hc : ∀ u, (cellsP s u).set i x = cellsP s2 u) : LkPost w base B v s2 (w1.setCell ⟨B, i, none⟩ x) := by
  obtain ⟨v', h1, h2, h3⟩ := h
  exact ⟨v', h1.put i x hw (hc v'), h2.trans (Touch.setCell (.inl rfl) _), h3⟩
theorem LkPost.below {w w1 w2 : World} {base B : Nat} {v : Value} {s : PE} (h : LkPost w base B v s w1) (hb : Below w1.heap.size w1 w2) : LkPost w base B v s w2 := by
  obtain ⟨v', h1, h2, h3⟩ := h
  exact ⟨v', h1.below hb, h2.trans (Touch.of_below hb), h3⟩
theorem PEB.post {w w1 : World} {base B : Nat} {v : Value} {s : PE} (h : PEB w base B v s) (hb : Below w.heap.size w w1) : LkPost w base B v s w1 := lk_same h hb
/-- the row of what waits is replaced by a new one -/
theorem lk_row {w w1 w5 : World} {base B : Nat} {v v' : Value} {s : PE} {ys : List Ln} (h : PEB w base B v s) (hb : Below w.heap.size w w1) (hb5 : Below w1.heap.size w1 w5) (ho : w5.ownsRow w1.heap.size 94 3 v' ys.length (ys.flatMap encLn)) : LkPost w base B v { s with waits := ys } (w5.setCell ⟨B, 5, none⟩ v') := by
  have h1 := h.below hb
  have h5 := h1.below hb5
  refine lk_new (w := w) h (Touch.of_below (hb.trans (hb5.mono hb.size))) h5.blk (own_mono' ho (Nat.le_trans h.base hb.size)) ?_ rfl rfl
  intro k hk
  have := (World.ownsRow.lt ho k hk).1
  have := hb.size
  right; omega
/-- the cells of a place -/
theorem PEB.is {w : World} {base B : Nat} {v : Value} {s : PE} (h : PEB w base B v s) (q : Nat) (hq : q < 4) : w.cell? ⟨B, 7 + q * 2, none⟩ = some (.bool (s.early q).1) := by
  have : q = 0 ∨ q = 1 ∨ q = 2 ∨ q = 3 := by omega
  rcases this with rfl | rfl | rfl | rfl <;> exact h.blk.cell rfl
theorem PEB.word {w : World} {base B : Nat} {v : Value} {s : PE} (h : PEB w base B v s) (q : Nat) (hq : q < 4) : w.cell? ⟨B, 7 + q * 2 + 1, none⟩ = some (.string (s.early q).2) := by
  have : q = 0 ∨ q = 1 ∨ q = 2 ∨ q = 3 := by omega
  rcases this with rfl | rfl | rfl | rfl <;> exact h.blk.cell rfl
/-- a place is filled or emptied -/
theorem PEB.early {w : World} {base B : Nat} {v : Value} {s : PE} (h : PEB w base B v s) (q : Nat) (hq : q < 4) (b : Bool) (t : ByteArray) : PEB ((w.setCell ⟨B, 7 + q * 2, none⟩ (.bool b)).setCell ⟨B, 7 + q * 2 + 1, none⟩ (.string t)) base B v { s with early := upd s.early q (b, t) } := by
  have : q = 0 ∨ q = 1 ∨ q = 2 ∨ q = 3 := by omega
  have h2 := h.ne
  refine ⟨?_, ownsRow_setCell_other (a := ⟨B, 7 + q * 2 + 1, none⟩) (ownsRow_setCell_other (a := ⟨B, 7 + q * 2, none⟩) h.own h2 _) h2 _, h.le, by have := h.base; simp; omega⟩
  have h3 := (h.blk.set (7 + q * 2) (.bool b)).set (7 + q * 2 + 1) (.string t)
  rcases this with rfl | rfl | rfl | rfl <;> exact h3
def slLen : Value → Nat
  | .slice _ n _ => n
  | _ => 0
/-- how many places are filled -/
def cntE (e : Nat → Bool × ByteArray) : Nat := (e 0).1.toNat + (e 1).1.toNat + (e 2).1.toNat + (e 3).1.toNat
theorem cntE_le (e : Nat → Bool × ByteArray) : cntE e ≤ 4 := by
  have h0 := Bool.toNat_le (e 0).1
  have h1 := Bool.toNat_le (e 1).1
  have h2 := Bool.toNat_le (e 2).1
  have h3 := Bool.toNat_le (e 3).1
  unfold cntE
  omega
theorem cntE_strike (e : Nat → Bool × ByteArray) (q : Nat) (hq : q < 4) (h : (e q).1 = true) (t : ByteArray) : cntE (upd e q (false, t)) + 1 = cntE e := by
  have : q = 0 ∨ q = 1 ∨ q = 2 ∨ q = 3 := by omega
  unfold cntE
  rcases this with rfl | rfl | rfl | rfl <;> simp [upd, h] <;> omega
theorem cntE_pos (e : Nat → Bool × ByteArray) (q : Nat) (hq : q < 4) (h : (e q).1 = true) : 0 < cntE e := by
  have := cntE_strike e q hq h ByteArray.empty
  omega
theorem gtouch {F : Nat → Prop} {w0 w w' : World} {v v' : Value} (ht : Touch F w0 w) (hg : Grew w v w' v') (h : ∀ k, v.ownBlock = some k → F k ∨ w0.heap.size ≤ k) : Touch F w0 w' :=
  ht.trans' (Touch.grown (F := fun j => v.ownBlock = some j) hg.1 (fun _ g => g)) (fun i hi hf => (h i hf).elim id (fun g => absurd hi (by omega)))
theorem PEB.growS {w w' : World} {base B : Nat} {v : Value} {s : PE} (h : PEB w base B v s) {base2 n : Nat} {u : Value} {cs : List Value} (hg : w.grownBy w' u.ownBlock) (ho : w.ownsRow base2 9 1 u n cs) : PEB w' base B v s := by
  have kt : KT 9 w w' := KT.grown hg ho
  exact ⟨kt.blk h.blk rfl, kt.own h.own rfl, h.le, Nat.le_trans h.base kt.1⟩
theorem own_ltB {w : World} {n0 B : Nat} {e : TypeId} {v : Value} {n : Nat} {cs : List Value} (hB : B < n0) (_h : n0 ≤ w.heap.size) {w' : World} (ho : w'.ownsRow n0 e 1 v n cs) : v.ownBlock ≠ some B := fun e2 => by
  have := (World.ownsRow.lt ho B e2).1
  omega
theorem chk_seq {f : Frm} (h : chkFr f = 0) : 0 ≤ f.seq ∧ f.seq ≤ 1099511627776 := by
  unfold chkFr at h
  split at h
  · rename_i g
    exact g.2.2.2.1
  · simp at h
/-- what lies ahead of the loop -/
def InMid (w : World) (base B : Nat) (v : Value) (s1 : PE) (f : Frm) (wx : World) : Prop := LkPost w base B v s1 wx ∧ Blk wx w.heap.size 31 (encF f)

set_option maxRecDepth 100000 in
set_option maxHeartbeats 8000000 in
theorem pin_any (w : World) (base B : Nat) (v : Value) (s : PE) (f : Frm) (hok : okP s) (hhi : s.high ≤ s.acked + s.waits.length) (hc : 0 ≤ s.came ∧ s.came ≤ 8000000000000) (h : PEB w base B v s) :
    Calls Try.prog 17 #[.pointer (some ⟨B, 0, none⟩), frmV f] w fun e w' =>
      if inE s.me s.other f = 0 then ∃ u, e = .returned (.tuple #[u, .int .i64 0]) ∧ w'.ownsRow w.heap.size 9 1 u (inP s f).1.length ((inP s f).1.map Value.string) ∧ LkPost w base B v (inP s f).2 w'
      else e = .returned (.tuple #[.slice none 0 0, .int .i64 (inE s.me s.other f)]) ∧ LkPost w base B v s w' := by
  have H := hid h
  have HCK := hid (fun wx => fcheck_any f wx)
  have HX := hid (Blk.new w #[.int .i64 f.fr, .int .i64 f.to, .int .i64 f.seq, .int .i64 f.ack, .string f.body] 31 _ rfl)
  have HB0 := hid ((Below.refl w.heap.size w).alloc (Nat.le_refl _) (.cells #[.int .i64 f.fr, .int .i64 f.to, .int .i64 f.seq, .int .i64 f.ack, .string f.body] 31))
  have HOK := hid hok
  have HHI := hid hhi
  have HC := hid hc
  clear hok hhi hc
  unfold frmV at HCK ⊢
  by_cases h0 : chkFr f = 0
  · rw [h0] at HCK
    by_cases h1 : f.fr ≠ s.other ∨ f.to ≠ s.me
    · have HI := hid (show inE s.me s.other f = 1 from by unfold inE; rw [if_neg (fun g => g h0), if_pos h1])
      simp only [HI.out, show ¬ ((1 : Int) = 0) from by decide, if_false]
      have hmm : f.fr ≠ s.other ∨ (f.fr = s.other ∧ f.to ≠ s.me) := by
        by_cases g : f.fr = s.other
        · exact .inr ⟨g, h1.elim (fun e => absurd g e) id⟩
        · exact .inl g
      have x0 := h.blk.cell (i := 0) rfl
      have x1 := h.blk.cell (i := 1) rfl
      clear h h0 h1
      go_enter Try.func17, Try.ntmps17
      go_wp2_with (go_at_call 44; refine (HCK.out _).mono ?_; rintro r wx ⟨rfl, hb⟩)
      have HBX := hid (HB0.out.trans (hb.mono (by simp)))
      have XB := hid (HX.out.below hb)
      have p0 : wx.cell? ⟨w.heap.size, 0, none⟩ = some (.int .i64 f.fr) := XB.out.cell (i := 0) rfl
      have p1 : wx.cell? ⟨w.heap.size, 1, none⟩ = some (.int .i64 f.to) := XB.out.cell (i := 1) rfl
      have q0 : wx.cell? ⟨B, 0, none⟩ = some (.int .i64 s.me) := (H.out.blk.below HBX.out).cell (i := 0) rfl
      have q1 : wx.cell? ⟨B, 1, none⟩ = some (.int .i64 s.other) := (H.out.blk.below HBX.out).cell (i := 1) rfl
      have p0d : wx.drew.cell? ⟨w.heap.size, 0, none⟩ = some (.int .i64 f.fr) := p0
      have p1d : wx.drew.cell? ⟨w.heap.size, 1, none⟩ = some (.int .i64 f.to) := p1
      have q0d : wx.drew.cell? ⟨B, 0, none⟩ = some (.int .i64 s.me) := q0
      have q1d : wx.drew.cell? ⟨B, 1, none⟩ = some (.int .i64 s.other) := q1
      rcases hmm with h2 | ⟨h2, h3⟩
      · have d1 : (f.fr != s.other) = true := by simpa using h2
        clear h2
        go_wp2_with fail
        go_quiet (fail)
        go_wp2_with fail
        go_ret2
        exact ⟨rfl, lk_same H.out (drew_bel' HBX.out)⟩
      · have d1 : (f.fr != s.other) = false := by simpa using h2
        have d2 : (f.to != s.me) = true := by simpa using h3
        clear h2 h3
        go_wp2_with fail
        go_quiet (fail)
        go_wp2_with fail
        go_ret2
        exact ⟨rfl, lk_same H.out (drew_bel' HBX.out)⟩
    · have HI := hid (show inE s.me s.other f = 0 from by unfold inE; rw [if_neg (fun g => g h0), if_neg h1])
      simp only [HI.out, if_true]
      have d1 : (f.fr != s.other) = false := by
        have : f.fr = s.other := Classical.byContradiction fun g => h1 (.inl g)
        simpa using this
      have d2 : (f.to != s.me) = false := by
        have : f.to = s.me := Classical.byContradiction fun g => h1 (.inr g)
        simpa using this
      have HSQ := hid (chk_seq h0)
      have HBm := hid (show B ≠ w.heap.size from Nat.ne_of_lt h.blk.lt)
      have HBw := hid h.blk.lt
      clear h h0 h1
      go_enter Try.func17, Try.ntmps17
      go_wp2_with (go_at_call 44; refine (HCK.out _).mono ?_; rintro r wx ⟨rfl, hb⟩)
      have HBX := hid (HB0.out.trans (hb.mono (by simp)))
      have XB := hid (HX.out.below hb)
      have PX := hid (H.out.below HBX.out)
      have p0 : wx.cell? ⟨w.heap.size, 0, none⟩ = some (.int .i64 f.fr) := XB.out.cell (i := 0) rfl
      have p1 : wx.cell? ⟨w.heap.size, 1, none⟩ = some (.int .i64 f.to) := XB.out.cell (i := 1) rfl
      have q0 : wx.cell? ⟨B, 0, none⟩ = some (.int .i64 s.me) := PX.out.blk.cell (i := 0) rfl
      have q1 : wx.cell? ⟨B, 1, none⟩ = some (.int .i64 s.other) := PX.out.blk.cell (i := 1) rfl
      have p0d : wx.drew.cell? ⟨w.heap.size, 0, none⟩ = some (.int .i64 f.fr) := p0
      have p1d : wx.drew.cell? ⟨w.heap.size, 1, none⟩ = some (.int .i64 f.to) := p1
      have q0d : wx.drew.cell? ⟨B, 0, none⟩ = some (.int .i64 s.me) := q0
      have q1d : wx.drew.cell? ⟨B, 1, none⟩ = some (.int .i64 s.other) := q1
      clear hb
      go_wp2_with fail
      go_quiet (fail)
      clear d1 d2 p0 p1 q0 q1 p0d p1d q0d q1d
      have p3 : (wx.drewN nq).cell? ⟨w.heap.size, 3, none⟩ = some (.int .i64 f.ack) := XB.out.cell (i := 3) rfl
      have q3 : (wx.drewN nq).cell? ⟨B, 3, none⟩ = some (.int .i64 s.acked) := PX.out.blk.cell (i := 3) rfl
      have q4 : (wx.drewN nq).cell? ⟨B, 4, none⟩ = some (.int .i64 s.high) := PX.out.blk.cell (i := 4) rfl
      have XN := hid (show Blk (wx.drewN nq) w.heap.size 31 (encF f) from XB.out)
      have PN := hid (show PEB (wx.drewN nq) base B v s from (PX.out.part.drew nq).holds)
      have BN := hid (show Below w.heap.size w (wx.drewN nq) from drew_bel' HBX.out)
      clear XB PX HBX
      generalize wx.drewN nq = wn at *
      have p3d : wn.drew.cell? ⟨w.heap.size, 3, none⟩ = some (.int .i64 f.ack) := p3
      have q3d : wn.drew.cell? ⟨B, 3, none⟩ = some (.int .i64 s.acked) := q3
      have q4d : wn.drew.cell? ⟨B, 4, none⟩ = some (.int .i64 s.high) := q4
      go_upto_region 6 with fail
      go_cut [46] from 31 to 46 (fun c wy => c = .bool (decide (s.acked < f.ack) && decide (f.ack ≤ s.high)) ∧ ∃ n, wy = wn.drewN n)
      case first =>
        by_cases g1 : s.acked < f.ack
        · by_cases g2 : f.ack ≤ s.high
          · have e1 := decide_eq_true g1
            have e2 := decide_eq_true g2
            go_wp2_with fail
            go_quiet (fail)
            go_wp2_with fail
            go_meet
            exact ⟨by rw [e1, e2]; rfl, _, rfl⟩
          · have e1 := decide_eq_true g1
            have e2 := decide_eq_false g2
            go_wp2_with fail
            go_quiet (fail)
            go_wp2_with fail
            go_meet
            exact ⟨by rw [e1, e2]; rfl, _, rfl⟩
        · have e1 := decide_eq_false g1
          go_wp2_with fail
          go_quiet (fail)
          go_wp2_with fail
          go_meet
          exact ⟨by rw [e1]; rfl, _, rfl⟩
      case rest =>
        obtain ⟨rfl, n2, rfl⟩ := hcut
        go_upto_if 46 with fail
        have XM := hid (show Blk (wn.drewN n2) w.heap.size 31 (encF f) from XN.out)
        have PM := hid (show PEB (wn.drewN n2) base B v s from (PN.out.part.drew n2).holds)
        have BM := hid (show Below w.heap.size w (wn.drewN n2) from drew_bel' BN.out)
        clear XN PN BN p3 q3 q4 p3d q3d q4d
        generalize wn.drewN n2 = wm at *
        go_cut [] from 46 to 67 (fun wy => InMid w base B v (ackP s f.ack) f wy)
        case first =>
          --BEGIN
          by_cases hg : s.acked < f.ack ∧ f.ack ≤ s.high
          · have HS := hid (show ackP s f.ack = { s with waits := s.waits.drop (f.ack - s.acked).toNat, acked := f.ack } from by unfold ackP; rw [if_pos hg])
            have hd : (decide (s.acked < f.ack) && decide (f.ack ≤ s.high)) = true := by simp [hg.1, hg.2]
            obtain ⟨k, hk⟩ : ∃ k : Nat, f.ack - s.acked = (k : Int) := ⟨(f.ack - s.acked).toNat, by omega⟩
            have hk0 : 0 < k := by omega
            have hkn : k ≤ s.waits.length := by have := HHI.out; omega
            have hkt : (f.ack - s.acked).toNat = k := by omega
            rw [hkt] at HS
            obtain ⟨g, cap, rfl, hg1, hg2, hg3, hg4⟩ := own_head PM.out.own (by omega)
            obtain ⟨o, ho1, ho2⟩ := run_tail elem_out g s.waits.length cap k .i64 (f.ack - s.acked) hk (by omega)
            have HT := hid (own_tail PM.out.own k hkn o ho1)
            have hwr : IntKind.i64.wrap (f.ack - s.acked) = f.ack - s.acked := IntWalk.i64_in _ (by have := HOK.out.2.1; have := HOK.out.2.2.1; omega)
            have hb1 : 0 ≤ f.ack - s.acked := by omega
            have hb2 : f.ack - s.acked ≤ (s.waits.length : Int) := by omega
            have hb3 : f.ack - s.acked ≤ (cap : Int) := by omega
            have p3 := XM.out.cell (i := 3) rfl
            have q3 := PM.out.blk.cell (i := 3) rfl
            have q5 := PM.out.blk.cell (i := 5) rfl
            have p3d : wm.drew.cell? ⟨w.heap.size, 3, none⟩ = some (.int .i64 f.ack) := p3
            have q3d : wm.drew.cell? ⟨B, 3, none⟩ = some (.int .i64 s.acked) := q3
            have q5d : wm.drew.cell? ⟨B, 5, none⟩ = some (.slice (some ⟨g, 0, none⟩) s.waits.length cap) := q5
            have HW := hid HOK.out.2.2.1
            clear hg hkt hk ho1
            rw [hd]
            have HTd := hid (show Sl wm.drew (.slice (some ⟨g, o, none⟩) (s.waits.length - k) (cap - k)) (s.waits.length - k) ((s.waits.drop k).flatMap encLn) from by have := HT.out; rw [← flatMap_drop encLn_len] at this; exact this)
            have HL := hid (show ((s.waits.drop k).flatMap encLn).length = (s.waits.length - k) * 3 from by rw [flat_length encLn_len, List.length_drop])
            have HLD := hid (show (s.waits.drop k).length = s.waits.length - k from List.length_drop)
            have PMd := hid (show PEB wm.drew base B (.slice (some ⟨g, 0, none⟩) s.waits.length cap) s from PM.out.part.drew1.holds)
            have XMd := hid (show Blk wm.drew w.heap.size 31 (encF f) from XM.out)
            have BMd := hid (show Below w.heap.size w wm.drew from drew_bel' (n := 1) BM.out)
            have hww := HW.out
            go_wp2_with fail
            go_region_law (first | (refine step_any elem_out (base := wm.drew.heap.size) (by rfl) _ _ (by rfl) (by rfl) (by rfl) (World.ownsRow_nil _ _ _ _) HTd.out HL.out (encLn_one _) (by omega) (by omega) (Nat.le_refl _) ?_; intro v' w5 ho hb hg; have P5 := hid (PMd.out.below hb); have X5 := hid (XMd.out.below hb); have y3 := X5.out.cell (i := 3) rfl; have z3 := P5.out.blk.cell (i := 3) rfl; have z5 := P5.out.blk.cell (i := 5) rfl; have zf := P5.out.blk.free; have HG := hid (And.intro ho hb); obtain ⟨a5, k5, rfl, -⟩ := own_sl ho; clear ho hb hg))
            all_goals
              go_wp2_with fail
              go_meet
              refine ⟨?_, (X5.out.other (a := ⟨B, 5, none⟩) HBm.out _).other (a := ⟨B, 3, none⟩) HBm.out _⟩
              rw [HS.out]
              exact (lk_row H.out BMd.out HG.out.2 (by have := HG.out.1; rw [Nat.zero_add, List.nil_append] at this; rw [HLD.out]; exact this)).put 3 (.int .i64 f.ack) rfl (fun u => rfl)
          · have HS := hid (show ackP s f.ack = s from by unfold ackP; rw [if_neg hg])
            have hd : (decide (s.acked < f.ack) && decide (f.ack ≤ s.high)) = false := by
              rw [Bool.and_eq_false_iff]
              by_cases g1 : s.acked < f.ack
              · exact .inr (decide_eq_false fun g2 => hg ⟨g1, g2⟩)
              · exact .inl (decide_eq_false g1)
            clear hg
            rw [hd]
            go_wp2_with fail
            go_meet
            exact ⟨by rw [HS.out]; exact lk_same H.out BM.out, XM.out⟩
          --END
        case rest =>
          have HIN := hid (show inP s f = if f.seq = 0 then ([], ackP s f.ack) else drainP 4 (putP (ackP s f.ack) f) from rfl)
          have HC1 := hid (show 0 ≤ (ackP s f.ack).came ∧ (ackP s f.ack).came ≤ 8000000000000 from by unfold ackP; split <;> exact HC.out)
          generalize ackP s f.ack = s1 at *
          have HM := hid hcut
          have p2 := hcut.2.cell (i := 2) rfl
          clear hcut
          by_cases hz : f.seq = 0
          · have HI2 := hid (show inP s f = ([], s1) from by rw [HIN.out, if_pos hz])
            have e1 : (f.seq == 0) = true := by simpa using hz
            go_wp2_with fail
            go_ret2
            rw [HI2.out]
            exact ⟨_, rfl, World.ownsRow_nil _ _ _ _, HM.out.1⟩
          · have HI2 := hid (show inP s f = drainP 4 (putP s1 f) from by rw [HIN.out, if_neg hz])
            have e1 : (f.seq == 0) = false := by simpa using hz
            obtain ⟨q, hq⟩ : ∃ q : Nat, slot f.seq = q := ⟨_, rfl⟩
            have hq4 : q < 4 := by rw [← hq]; exact slot_lt _
            have hqr : f.seq.tmod 4 = (q : Int) := by
              have := HSQ.out.1
              rw [Int.tmod_eq_emod_of_nonneg this]
              unfold slot at hq; omega
            obtain ⟨v1, g1, g2, g3⟩ := HM.out.1
            have P1 := hid g1
            have T1 := hid g2
            have F1 := hid g3
            have X1 := hid HM.out.2
            have xf := g1.blk.free
            have x15 := g1.blk.cell (i := 15) rfl
            have HQ := hid hq
            clear g1 g2 g3 hz HM hq
            go_upto_region 13 with fail
            have P2 := hid (P1.out.put (s' := { s1 with owed := true }) 15 (.bool true) rfl rfl)
            have T2 := hid (T1.out.put (a := ⟨B, 15, none⟩) (.inl rfl) (.bool true))
            have X2 := hid (X1.out.other (a := ⟨B, 15, none⟩) HBm.out (.bool true))
            generalize wc.setCell ⟨B, 15, none⟩ (.bool true) = wa at *
            clear P1 T1 X1 xf x15 p2
            obtain ⟨hs0, hs1⟩ := HSQ.out
            obtain ⟨hc0, hc1⟩ := HC1.out
            have p2 := X2.out.cell (i := 2) rfl
            have p2d : wa.drew.cell? ⟨w.heap.size, 2, none⟩ = some (.int .i64 f.seq) := p2
            have q6 := P2.out.blk.cell (i := 6) rfl
            have q6d : wa.drew.cell? ⟨B, 6, none⟩ = some (.int .i64 s1.came) := q6
            have qe := PEB.is P2.out q hq4
            have qed : wa.drew.cell? ⟨B, 7 + q * 2, none⟩ = some (.bool (s1.early q).1) := qe
            have hw4 : IntKind.i64.wrap (s1.came + 4) = s1.came + 4 := IntWalk.i64_in _ (by omega)
            have hq5 : (q : Int) < 4 := by omega
            go_cut [103] from 77 to 103 (fun c wy => c = .bool (decide (s1.came < f.seq) && (decide (f.seq ≤ s1.came + 4) && !(s1.early q).1)) ∧ ∃ n, wy = wa.drewN n)
            case first =>
              by_cases g1 : s1.came < f.seq
              · by_cases g2 : f.seq ≤ s1.came + 4
                · have e1 := decide_eq_true g1
                  have e2 := decide_eq_true g2
                  go_wp2_with fail
                  go_quiet (fail)
                  go_wp2_with fail
                  go_meet
                  exact ⟨by rw [e1, e2]; rfl, _, rfl⟩
                · have e1 := decide_eq_true g1
                  have e2 := decide_eq_false g2
                  go_wp2_with fail
                  go_quiet (fail)
                  go_wp2_with fail
                  go_meet
                  exact ⟨by rw [e1, e2]; rfl, _, rfl⟩
              · have e1 := decide_eq_false g1
                go_wp2_with fail
                go_quiet (fail)
                go_wp2_with fail
                go_meet
                exact ⟨by rw [e1]; rfl, _, rfl⟩
            case rest =>
              obtain ⟨rfl, n3, rfl⟩ := hcut
              go_upto_if 103 with fail
              have X3 := hid (show Blk (wa.drewN n3) w.heap.size 31 (encF f) from X2.out)
              have P3 := hid (show PEB (wa.drewN n3) base B v1 { s1 with owed := true } from (P2.out.part.drew n3).holds)
              have T3 := hid (show Touch (footL B v) w (wa.drewN n3) from T2.out.drew n3)
              clear X2 P2 T2 p2 p2d q6 q6d qe qed hw4
              generalize wa.drewN n3 = wb at *
              go_cut [] from 103 to 111 (fun wy => InMid w base B v (putP s1 f) f wy)
              case first =>
                by_cases hg : s1.came < f.seq ∧ f.seq ≤ s1.came + 4 ∧ (s1.early q).1 = false
                · have HS := hid (show putP s1 f = { s1 with early := upd s1.early q (true, f.body), owed := true } from by unfold putP; rw [HQ.out, if_pos hg])
                  have hd : (decide (s1.came < f.seq) && (decide (f.seq ≤ s1.came + 4) && !(s1.early q).1)) = true := by simp [hg.1, hg.2.1, hg.2.2]
                  have p4 : wb.drew.cell? ⟨w.heap.size, 4, none⟩ = some (.string f.body) := X3.out.cell (i := 4) rfl
                  have qe : wb.drew.cell? ⟨B, 7 + q * 2, none⟩ = some (.bool (s1.early q).1) := PEB.is P3.out q hq4
                  have qw : wb.drew.cell? ⟨B, 7 + q * 2 + 1, none⟩ = some (.string (s1.early q).2) := PEB.word P3.out q hq4
                  have qf : ∀ i, wb.drew.frozen? ⟨B, i, none⟩ = false := P3.out.blk.free
                  have qe2 : wb.cell? ⟨B, 7 + q * 2, none⟩ = some (.bool (s1.early q).1) := qe
                  have qw2 : wb.cell? ⟨B, 7 + q * 2 + 1, none⟩ = some (.string (s1.early q).2) := qw
                  have qf2 : ∀ i, wb.frozen? ⟨B, i, none⟩ = false := qf
                  clear hg
                  rw [hd]
                  go_wp2_with fail
                  go_region_law (fail)
                  all_goals
                    go_wp2_with fail
                    go_meet
                    refine ⟨?_, (X3.out.other (a := ⟨B, 7 + q * 2, none⟩) HBm.out _).other (a := ⟨B, 7 + q * 2 + 1, none⟩) HBm.out _⟩
                    rw [HS.out]
                    exact ⟨v1, (PEB.early P3.out q hq4 true f.body).part.drew1.holds, ((T3.out.put (a := ⟨B, 7 + q * 2, none⟩) (.inl rfl) _).put (a := ⟨B, 7 + q * 2 + 1, none⟩) (.inl rfl) _).drew1, F1.out⟩
                · have HS := hid (show putP s1 f = { s1 with owed := true } from by unfold putP; rw [HQ.out, if_neg hg])
                  have hd : (decide (s1.came < f.seq) && (decide (f.seq ≤ s1.came + 4) && !(s1.early q).1)) = false := by
                    rw [Bool.and_eq_false_iff, Bool.and_eq_false_iff]
                    by_cases g1 : s1.came < f.seq
                    · by_cases g2 : f.seq ≤ s1.came + 4
                      · exact .inr (.inr (by cases g3 : (s1.early q).1 with
                          | true => rfl
                          | false => exact absurd ⟨g1, g2, g3⟩ hg))
                      · exact .inr (.inl (decide_eq_false g2))
                    · exact .inl (decide_eq_false g1)
                  clear hg
                  rw [hd]
                  go_wp2_with fail
                  go_meet
                  exact ⟨by rw [HS.out]; exact ⟨v1, P3.out, T3.out, F1.out⟩, X3.out⟩
              case rest =>
                have HP2 := hid hcut.1
                have HC2 := hid (show 0 ≤ (putP s1 f).came ∧ (putP s1 f).came ≤ 8000000000000 from by unfold putP; split <;> exact HC1.out)
                clear hcut X3 P3 T3 hs0 hs1 hc0 hc1 hqr hq4 hq5 HQ
                generalize putP s1 f = s2 at *
                go_wp2_with fail
                go_loopw [8, 9] (fun g p wr => ∃ (n : Nat) (s3 : PE) (gs : List ByteArray), gs.length + n = 4 ∧ Hid (wr.ownsRow w.heap.size 9 1 g gs.length (gs.map Value.string)) ∧ Hid (LkPost w base B v s3 wr) ∧ Hid ((drainP 4 s2).1 = gs ++ (drainP n s3).1 ∧ (drainP 4 s2).2 = (drainP n s3).2) ∧ Hid (cntE s3.early ≤ n) ∧ Hid (0 ≤ s3.came ∧ s3.came + n ≤ 8000000000004)) (fun g _ _ => 4 - slLen g)
                case atStart => exact ⟨4, s2, [], rfl, hid (World.ownsRow_nil _ _ _ _), HP2, hid ⟨rfl, rfl⟩, hid (cntE_le _), hid ⟨HC2.out.1, by have := HC2.out.2; omega⟩⟩
                case round =>
                  obtain ⟨n, s3, gs, hn, GO, PO, DR, CN, CB⟩ := hrel
                  obtain ⟨ag, kg, rfl, -⟩ := own_sl GO.out
                  obtain ⟨v3, g1, g2, g3⟩ := PO.out
                  obtain ⟨q, hq⟩ : ∃ q : Nat, slot (s3.came + 1) = q := ⟨_, rfl⟩
                  have hq4 : q < 4 := by rw [← hq]; exact slot_lt _
                  obtain ⟨hb0, hb1⟩ := CB.out
                  have hqr : (s3.came + 1).tmod 4 = (q : Int) := by
                    rw [Int.tmod_eq_emod_of_nonneg (by omega)]
                    unfold slot at hq; omega
                  have hw1 : IntKind.i64.wrap (s3.came + 1) = s3.came + 1 := IntWalk.i64_in _ (by omega)
                  have hq5 : (q : Int) < 4 := by omega
                  have q6 := g1.blk.cell (i := 6) rfl
                  have q6d : wr.drew.cell? ⟨B, 6, none⟩ = some (.int .i64 s3.came) := q6
                  have P3 := hid g1
                  have T3 := hid g2
                  have F3 := hid g3
                  have HQ := hid hq
                  clear g1 g2 g3 hq PO
                  go_wp2_with fail
                  go_quiet (fail)
                  have PN := hid (show PEB (wr.drewN nq) base B v3 s3 from (P3.out.part.drew nq).holds)
                  have TN := hid (show Touch (footL B v) w (wr.drewN nq) from T3.out.drew nq)
                  have GN := hid (show (wr.drewN nq).ownsRow w.heap.size 9 1 (.slice ag gs.length kg) gs.length (gs.map Value.string) from GO.out)
                  clear P3 T3 GO q6 q6d
                  generalize wr.drewN nq = wq at *
                  have e1 := PEB.is PN.out q hq4
                  have e2 := PEB.word PN.out q hq4
                  cases hx : (s3.early q).1 with
                  | false =>
                    have HD := hid (show drainP n s3 = ([], s3) from by
                      cases n with
                      | zero => rfl
                      | succ n => rw [drainP, nextP, HQ.out, hx]; rfl)
                    rw [hx] at e1
                    clear hx
                    go_wp2_with fail
                    go_ret2
                    have hD := DR.out
                    rw [HD.out, List.append_nil] at hD
                    rw [HI2.out, hD.1, hD.2]
                    exact ⟨_, rfl, GN.out, v3, PN.out, TN.out, F3.out⟩
                  | true =>
                    have hcp := cntE_pos s3.early q hq4 hx
                    have HCS := hid (cntE_strike s3.early q hq4 hx ByteArray.empty)
                    obtain ⟨m, rfl⟩ : ∃ m, n = m + 1 := ⟨n - 1, by have := CN.out; omega⟩
                    have HD := hid (show drainP (m + 1) s3 = ((s3.early q).2 :: (drainP m (takeP s3)).1, (drainP m (takeP s3)).2) from by
                      rw [drainP, nextP, HQ.out, if_pos hx])
                    have HTK := hid (show takeP s3 = { s3 with early := upd s3.early q (false, ByteArray.empty), came := s3.came + 1 } from by unfold takeP; rw [HQ.out])
                    rw [hx] at e1
                    clear hx hcp
                    have hgl : gs.length ≤ 4 := by omega
                    go_wp2_with (at_builtin; go_must (refine app_one elem_strp (base := w.heap.size) (cs := [.string (s3.early q).2]) rfl _ _ rfl rfl rfl rfl GN.out rfl (by intro c hc; simp at hc; subst hc; rfl) (by omega) (by omega) TN.out.size ?_); intro v' w5 ho hb hg; have P5 := hid (PN.out.growS hg.1 GN.out); have T5 := hid (gtouch TN.out hg (fun k hk => .inr (World.ownsRow.lt GN.out k hk).1)); have f1 := P5.out.blk.free; have c1 := PEB.is P5.out q hq4; have c2 := PEB.word P5.out q hq4; have c6 := P5.out.blk.cell (i := 6) rfl; obtain ⟨a5, k5, rfl, -⟩ := own_sl ho; have G5 := hid ho; clear ho hb hg)
                    go_roundw
                    case rel =>
                      refine ⟨m, takeP s3, gs ++ [(s3.early q).2], by simp; omega, ?_, ?_, ?_, ?_, ?_⟩
                      · have hn := own_ltB HBw.out TN.out.size G5.out
                        exact hid (by simpa using ownsRow_setCell_other (a := ⟨B, 6, none⟩) (ownsRow_setCell_other (a := ⟨B, 7 + q * 2 + 1, none⟩) (ownsRow_setCell_other (a := ⟨B, 7 + q * 2, none⟩) G5.out hn (.bool false)) hn (.string ⟨#[]⟩)) hn (.int .i64 (s3.came + 1)))
                      · rw [HTK.out]
                        exact hid ⟨v3, (PEB.early P5.out q hq4 false ByteArray.empty).put (s' := { s3 with early := upd s3.early q (false, ByteArray.empty), came := s3.came + 1 }) 6 (.int .i64 (s3.came + 1)) rfl rfl, ((T5.out.put (a := ⟨B, 7 + q * 2, none⟩) (.inl rfl) _).put (a := ⟨B, 7 + q * 2 + 1, none⟩) (.inl rfl) _).put (a := ⟨B, 6, none⟩) (.inl rfl) _, F3.out⟩
                      · have hD := DR.out
                        rw [HD.out] at hD
                        exact hid ⟨by rw [hD.1, List.append_assoc]; rfl, hD.2⟩
                      · have h1 := HCS.out
                        have h2 := CN.out
                        rw [HTK.out]
                        exact hid (show cntE (upd s3.early q (false, ByteArray.empty)) ≤ m by omega)
                      · have h1 := CB.out
                        rw [HTK.out]
                        exact hid (show 0 ≤ s3.came + 1 ∧ s3.came + 1 + m ≤ 8000000000004 by omega)
                    case measure =>
                      show 4 - (gs.length + 1) < 4 - gs.length
                      omega
  · have HI := hid (show inE s.me s.other f = chkFr f from by unfold inE; rw [if_pos h0])
    simp only [HI.out, h0, if_false]
    have h2 : (chkFr f != 0) = true := by simpa using h0
    generalize chkFr f = ck at *
    clear h h0
    go_enter Try.func17, Try.ntmps17
    go_wp2_with (go_at_call 44; refine (HCK.out _).mono ?_; rintro r wx ⟨rfl, hb⟩)
    go_wp2_with fail
    go_ret2
    exact ⟨rfl, lk_same H.out (HB0.out.trans (hb.mono (by simp)))⟩
end Go.Proofs.Ytalookaaogiinaa
