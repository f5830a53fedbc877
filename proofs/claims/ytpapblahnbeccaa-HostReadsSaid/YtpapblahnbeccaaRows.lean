/-
  No cell of these rows narrows 'for every input' (looked for: loops, veiled, ifaces, maps, wideKeys, modest, calm, conditions, laid).
  DERIVED. THE GIVEN ROWS OF THIS SEAT. 10 by the template 'for every input the law returns true; each argument reads behind the call as it read before'; 0 by the template 'total and deterministic' (their statements: YtpapblahnbeccaaTotals.lean).
  GIVEN WITH THE SEED: the statements are not yours to turn. If you find one false, say at which input.
  Laid BY PROGRAM, IN A SANDBOX (cutbox-rows.mjs): the forced cells as the released guide's own fill.sh prints them over the translation 6206deff44490b6c… (all of the seat's roots in one cut). By AI agents, Wed Nov 11 2026. No macro, syntax, notation, axiom, sorry.
-/
import Derived.Test.YtpapblahnbeccaaChecked
import GoSem.Claim
import GoSem.ClaimJoined
import GoSem.ClaimMapViews
import Derived.JoinedTies
import Derived.KernelRfl
namespace Go.Proofs.Ytpapblahnbeccaa
/- THE CELL 'sum', in the pinned program and in every row, IS THE sha256 OF THE DUMP (.gsa) THAT YtpapblahnbeccaaProg.lean LOADS. Nothing in Lean hashes anything: it is a label: what it is worth is what the hold of that sum in a sandbox is worth. -/
noncomputable def Try.pinned : Pinned := { name := "ytpapblahnbeccaa", sum := "6206deff44490b6cd9e3f5ac8e78f47fe303a0e3fc3cdc5a21dc7bd5b4b73c4a", checked := Try.checked }
namespace Rows
def none {H : Type} : Left H := { results := [], args := [] }

/-- 'troupelaw.FrameSays': WHATEVER THE INPUT: true; the input reads as it did. -/
def frameSaysSpec : ChangeSpec := { name := "frameSays", fn := fun _ => fun
  | [d1, d2] => { results := [.lit (.bool true)], args := [d1, d2] }
  | _ => none }
def frameSaysRow : OpenClaim := { program := "ytpapblahnbeccaa", sum := "6206deff44490b6cd9e3f5ac8e78f47fe303a0e3fc3cdc5a21dc7bd5b4b73c4a", func := "troupe/troupelaw.FrameSays", spec := "frameSays", recurses := true, apart := false }
def FrameSaysSaid : Prop := frameSaysRow.holds Try.pinned (OpenSpec.ofChange frameSaysSpec)

/-- ITS FALSE NEIGHBOUR: 'it returns false'. Refute it at one input. -/
def frameSaysWrong : ChangeSpec := { name := "frameSays", fn := fun _ => fun
  | [d1, d2] => { results := [.lit (.bool false)], args := [d1, d2] }
  | _ => none }
def FrameSaysWrongFalsely : Prop := frameSaysRow.holds Try.pinned (OpenSpec.ofChange frameSaysWrong)

/-- 'troupelaw.LinkSays': WHATEVER THE INPUT: true; the input reads as it did. -/
def linkSaysSpec : ChangeSpec := { name := "linkSays", fn := fun _ => fun
  | [d1, d2, d3] => { results := [.lit (.bool true)], args := [d1, d2, d3] }
  | _ => none }
def linkSaysRow : OpenClaim := { program := "ytpapblahnbeccaa", sum := "6206deff44490b6cd9e3f5ac8e78f47fe303a0e3fc3cdc5a21dc7bd5b4b73c4a", func := "troupe/troupelaw.LinkSays", spec := "linkSays", unfollowed := true, recurses := true, apart := false }
def LinkSaysSaid : Prop := linkSaysRow.holds Try.pinned (OpenSpec.ofChange linkSaysSpec)

/-- ITS FALSE NEIGHBOUR: 'it returns false'. Refute it at one input. -/
def linkSaysWrong : ChangeSpec := { name := "linkSays", fn := fun _ => fun
  | [d1, d2, d3] => { results := [.lit (.bool false)], args := [d1, d2, d3] }
  | _ => none }
def LinkSaysWrongFalsely : Prop := linkSaysRow.holds Try.pinned (OpenSpec.ofChange linkSaysWrong)

/-- 'troupelaw.NumTwos': WHATEVER THE INPUT: true; the input reads as it did. -/
def numTwosSpec : ChangeSpec := { name := "numTwos", fn := fun _ => fun
  | [d1, d2, d3] => { results := [.lit (.bool true)], args := [d1, d2, d3] }
  | _ => none }
def numTwosRow : OpenClaim := { program := "ytpapblahnbeccaa", sum := "6206deff44490b6cd9e3f5ac8e78f47fe303a0e3fc3cdc5a21dc7bd5b4b73c4a", func := "troupe/troupelaw.NumTwos", spec := "numTwos", apart := false }
def NumTwosSaid : Prop := numTwosRow.holds Try.pinned (OpenSpec.ofChange numTwosSpec)

/-- ITS FALSE NEIGHBOUR: 'it returns false'. Refute it at one input. -/
def numTwosWrong : ChangeSpec := { name := "numTwos", fn := fun _ => fun
  | [d1, d2, d3] => { results := [.lit (.bool false)], args := [d1, d2, d3] }
  | _ => none }
def NumTwosWrongFalsely : Prop := numTwosRow.holds Try.pinned (OpenSpec.ofChange numTwosWrong)

/-- 'troupelaw.SuperSays': WHATEVER THE INPUT: true; the input reads as it did. -/
def superSaysSpec : ChangeSpec := { name := "superSays", fn := fun _ => fun
  | [d1, d2, d3, d4, d5] => { results := [.lit (.bool true)], args := [d1, d2, d3, d4, d5] }
  | _ => none }
def superSaysRow : OpenClaim := { program := "ytpapblahnbeccaa", sum := "6206deff44490b6cd9e3f5ac8e78f47fe303a0e3fc3cdc5a21dc7bd5b4b73c4a", func := "troupe/troupelaw.SuperSays", spec := "superSays", apart := false }
def SuperSaysSaid : Prop := superSaysRow.holds Try.pinned (OpenSpec.ofChange superSaysSpec)

/-- ITS FALSE NEIGHBOUR: 'it returns false'. Refute it at one input. -/
def superSaysWrong : ChangeSpec := { name := "superSays", fn := fun _ => fun
  | [d1, d2, d3, d4, d5] => { results := [.lit (.bool false)], args := [d1, d2, d3, d4, d5] }
  | _ => none }
def SuperSaysWrongFalsely : Prop := superSaysRow.holds Try.pinned (OpenSpec.ofChange superSaysWrong)

/-- 'troupelaw.TimerSays': WHATEVER THE INPUT: true; the input reads as it did. -/
def timerSaysSpec : ChangeSpec := { name := "timerSays", fn := fun _ => fun
  | [d] => { results := [.lit (.bool true)], args := [d] }
  | _ => none }
def timerSaysRow : OpenClaim := { program := "ytpapblahnbeccaa", sum := "6206deff44490b6cd9e3f5ac8e78f47fe303a0e3fc3cdc5a21dc7bd5b4b73c4a", func := "troupe/troupelaw.TimerSays", spec := "timerSays", unfollowed := true, recurses := true, apart := false }
def TimerSaysSaid : Prop := timerSaysRow.holds Try.pinned (OpenSpec.ofChange timerSaysSpec)

/-- ITS FALSE NEIGHBOUR: 'it returns false'. Refute it at one input. -/
def timerSaysWrong : ChangeSpec := { name := "timerSays", fn := fun _ => fun
  | [d] => { results := [.lit (.bool false)], args := [d] }
  | _ => none }
def TimerSaysWrongFalsely : Prop := timerSaysRow.holds Try.pinned (OpenSpec.ofChange timerSaysWrong)

/-- 'troupelaw.HostSays': WHATEVER THE INPUT: true; the input reads as it did. -/
def hostSaysSpec : ChangeSpec := { name := "hostSays", fn := fun _ => fun
  | [d1, d2, d3, d4] => { results := [.lit (.bool true)], args := [d1, d2, d3, d4] }
  | _ => none }
def hostSaysRow : OpenClaim := { program := "ytpapblahnbeccaa", sum := "6206deff44490b6cd9e3f5ac8e78f47fe303a0e3fc3cdc5a21dc7bd5b4b73c4a", func := "troupe/troupelaw.HostSays", spec := "hostSays", inPlace := ["internal/bytealg.IndexByteString", "internal/bytealg.IndexString"], named := ["internal/bytealg.MaxLen"], apart := false }
def HostSaysSaid : Prop := hostSaysRow.holds Try.pinned (OpenSpec.ofChange hostSaysSpec)

/-- ITS FALSE NEIGHBOUR: 'it returns false'. Refute it at one input. -/
def hostSaysWrong : ChangeSpec := { name := "hostSays", fn := fun _ => fun
  | [d1, d2, d3, d4] => { results := [.lit (.bool false)], args := [d1, d2, d3, d4] }
  | _ => none }
def HostSaysWrongFalsely : Prop := hostSaysRow.holds Try.pinned (OpenSpec.ofChange hostSaysWrong)

/-- 'troupelaw.ShotReads': WHATEVER THE INPUT: true; the input reads as it did. -/
def shotReadsSpec : ChangeSpec := { name := "shotReads", fn := fun _ => fun
  | [d] => { results := [.lit (.bool true)], args := [d] }
  | _ => none }
def shotReadsRow : OpenClaim := { program := "ytpapblahnbeccaa", sum := "6206deff44490b6cd9e3f5ac8e78f47fe303a0e3fc3cdc5a21dc7bd5b4b73c4a", func := "troupe/troupelaw.ShotReads", spec := "shotReads", unfollowed := true, recurses := true, apart := false }
def ShotReadsSaid : Prop := shotReadsRow.holds Try.pinned (OpenSpec.ofChange shotReadsSpec)

/-- ITS FALSE NEIGHBOUR: 'it returns false'. Refute it at one input. -/
def shotReadsWrong : ChangeSpec := { name := "shotReads", fn := fun _ => fun
  | [d] => { results := [.lit (.bool false)], args := [d] }
  | _ => none }
def ShotReadsWrongFalsely : Prop := shotReadsRow.holds Try.pinned (OpenSpec.ofChange shotReadsWrong)

/-- 'troupelaw.MemSays': WHATEVER THE INPUT: true; the input reads as it did. -/
def memSaysSpec : ChangeSpec := { name := "memSays", fn := fun _ => fun
  | [d1, d2, d3] => { results := [.lit (.bool true)], args := [d1, d2, d3] }
  | _ => none }
def memSaysRow : OpenClaim := { program := "ytpapblahnbeccaa", sum := "6206deff44490b6cd9e3f5ac8e78f47fe303a0e3fc3cdc5a21dc7bd5b4b73c4a", func := "troupe/troupelaw.MemSays", spec := "memSays", inPlace := ["internal/bytealg.IndexByteString", "internal/bytealg.IndexString"], named := ["internal/bytealg.MaxLen"], apart := false }
def MemSaysSaid : Prop := memSaysRow.holds Try.pinned (OpenSpec.ofChange memSaysSpec)

/-- ITS FALSE NEIGHBOUR: 'it returns false'. Refute it at one input. -/
def memSaysWrong : ChangeSpec := { name := "memSays", fn := fun _ => fun
  | [d1, d2, d3] => { results := [.lit (.bool false)], args := [d1, d2, d3] }
  | _ => none }
def MemSaysWrongFalsely : Prop := memSaysRow.holds Try.pinned (OpenSpec.ofChange memSaysWrong)

/-- 'troupelaw.MemOfs': WHATEVER THE INPUT: true; the input reads as it did. -/
def memOfsSpec : ChangeSpec := { name := "memOfs", fn := fun _ => fun
  | [d1, d2, d3] => { results := [.lit (.bool true)], args := [d1, d2, d3] }
  | _ => none }
def memOfsRow : OpenClaim := { program := "ytpapblahnbeccaa", sum := "6206deff44490b6cd9e3f5ac8e78f47fe303a0e3fc3cdc5a21dc7bd5b4b73c4a", func := "troupe/troupelaw.MemOfs", spec := "memOfs", inPlace := ["internal/bytealg.IndexByteString", "internal/bytealg.IndexString"], named := ["internal/bytealg.MaxLen"], apart := false }
def MemOfsSaid : Prop := memOfsRow.holds Try.pinned (OpenSpec.ofChange memOfsSpec)

/-- ITS FALSE NEIGHBOUR: 'it returns false'. Refute it at one input. -/
def memOfsWrong : ChangeSpec := { name := "memOfs", fn := fun _ => fun
  | [d1, d2, d3] => { results := [.lit (.bool false)], args := [d1, d2, d3] }
  | _ => none }
def MemOfsWrongFalsely : Prop := memOfsRow.holds Try.pinned (OpenSpec.ofChange memOfsWrong)

/-- 'troupelaw.HostReads': WHATEVER THE INPUT: true; the input reads as it did. -/
def hostReadsSpec : ChangeSpec := { name := "hostReads", fn := fun _ => fun
  | [d1, d2, d3] => { results := [.lit (.bool true)], args := [d1, d2, d3] }
  | _ => none }
def hostReadsRow : OpenClaim := { program := "ytpapblahnbeccaa", sum := "6206deff44490b6cd9e3f5ac8e78f47fe303a0e3fc3cdc5a21dc7bd5b4b73c4a", func := "troupe/troupelaw.HostReads", spec := "hostReads", inPlace := ["internal/bytealg.IndexByteString", "internal/bytealg.IndexString"], named := ["internal/bytealg.MaxLen"], apart := false }
def HostReadsSaid : Prop := hostReadsRow.holds Try.pinned (OpenSpec.ofChange hostReadsSpec)

/-- ITS FALSE NEIGHBOUR: 'it returns false'. Refute it at one input. -/
def hostReadsWrong : ChangeSpec := { name := "hostReads", fn := fun _ => fun
  | [d1, d2, d3] => { results := [.lit (.bool false)], args := [d1, d2, d3] }
  | _ => none }
def HostReadsWrongFalsely : Prop := hostReadsRow.holds Try.pinned (OpenSpec.ofChange hostReadsWrong)

/- THE SECOND FORM. 'bulk': how many values and letters a reading holds, each counted each time it is reached (what is shared counts as often as it is met; a slice's spare places count too). A statement '..UptoSaid' is the law's where the arguments, and the package variables that the reading takes, are together of bulk at most 1048576: NARROWER than '..Said'. Prove '..Said' where nothing that the law and all that it calls make is longer than what came in: it says more and counts as full. Else prove '..UptoSaid'. A law counts once. -/
mutual
def uptoBulk {H : Type} : DataW H → Nat
  | .lit (.string bytes) => bytes.length + 1
  | .lit _ => 1
  | .nil => 1
  | .ptr d => uptoBulk d + 1
  | .slice elems spare => uptoBulkAll elems + uptoBulkAll spare + 1
  | .agg parts => uptoBulkAll parts + 1
  | .iface _ d => uptoBulk d + 1
  | .map entries => uptoBulkEntries entries + 1
  | .held _ => 1
def uptoBulkAll {H : Type} : List (DataW H) → Nat
  | [] => 0
  | d :: r => uptoBulk d + uptoBulkAll r
def uptoBulkEntries {H : Type} : List (Lit × DataW H) → Nat
  | [] => 0
  | x :: r => uptoBulkEntry x + uptoBulkEntries r
def uptoBulkEntry {H : Type} : Lit × DataW H → Nat
  | (.string bytes, d) => bytes.length + uptoBulk d + 1
  | (_, d) => uptoBulk d + 1
 end
def uptoSmall : (H : Type) → List (DataW H) → Bool := fun _ ds => decide (uptoBulkAll ds ≤ 1048576)
def OpenSpec.upto (s : _root_.Go.ChangeSpec) : _root_.Go.OpenSpec := { _root_.Go.OpenSpec.ofChange s with cond := some uptoSmall }

/-- 'troupelaw.FrameSays', WHERE WHAT IT READS IS OF BULK AT MOST 1048576: true; the input reads as it did. -/
def frameSaysUptoRow : OpenClaim := { program := "ytpapblahnbeccaa", sum := "6206deff44490b6cd9e3f5ac8e78f47fe303a0e3fc3cdc5a21dc7bd5b4b73c4a", func := "troupe/troupelaw.FrameSays", spec := "frameSays", recurses := true, apart := false, narrowed := true }
def FrameSaysUptoSaid : Prop := frameSaysUptoRow.holds Try.pinned (OpenSpec.upto frameSaysSpec)

/-- 'troupelaw.LinkSays', WHERE WHAT IT READS IS OF BULK AT MOST 1048576: true; the input reads as it did. -/
def linkSaysUptoRow : OpenClaim := { program := "ytpapblahnbeccaa", sum := "6206deff44490b6cd9e3f5ac8e78f47fe303a0e3fc3cdc5a21dc7bd5b4b73c4a", func := "troupe/troupelaw.LinkSays", spec := "linkSays", unfollowed := true, recurses := true, apart := false, narrowed := true }
def LinkSaysUptoSaid : Prop := linkSaysUptoRow.holds Try.pinned (OpenSpec.upto linkSaysSpec)

/-- 'troupelaw.NumTwos', WHERE WHAT IT READS IS OF BULK AT MOST 1048576: true; the input reads as it did. -/
def numTwosUptoRow : OpenClaim := { program := "ytpapblahnbeccaa", sum := "6206deff44490b6cd9e3f5ac8e78f47fe303a0e3fc3cdc5a21dc7bd5b4b73c4a", func := "troupe/troupelaw.NumTwos", spec := "numTwos", apart := false, narrowed := true }
def NumTwosUptoSaid : Prop := numTwosUptoRow.holds Try.pinned (OpenSpec.upto numTwosSpec)

/-- 'troupelaw.SuperSays', WHERE WHAT IT READS IS OF BULK AT MOST 1048576: true; the input reads as it did. -/
def superSaysUptoRow : OpenClaim := { program := "ytpapblahnbeccaa", sum := "6206deff44490b6cd9e3f5ac8e78f47fe303a0e3fc3cdc5a21dc7bd5b4b73c4a", func := "troupe/troupelaw.SuperSays", spec := "superSays", apart := false, narrowed := true }
def SuperSaysUptoSaid : Prop := superSaysUptoRow.holds Try.pinned (OpenSpec.upto superSaysSpec)

/-- 'troupelaw.TimerSays', WHERE WHAT IT READS IS OF BULK AT MOST 1048576: true; the input reads as it did. -/
def timerSaysUptoRow : OpenClaim := { program := "ytpapblahnbeccaa", sum := "6206deff44490b6cd9e3f5ac8e78f47fe303a0e3fc3cdc5a21dc7bd5b4b73c4a", func := "troupe/troupelaw.TimerSays", spec := "timerSays", unfollowed := true, recurses := true, apart := false, narrowed := true }
def TimerSaysUptoSaid : Prop := timerSaysUptoRow.holds Try.pinned (OpenSpec.upto timerSaysSpec)

/-- 'troupelaw.HostSays', WHERE WHAT IT READS IS OF BULK AT MOST 1048576: true; the input reads as it did. -/
def hostSaysUptoRow : OpenClaim := { program := "ytpapblahnbeccaa", sum := "6206deff44490b6cd9e3f5ac8e78f47fe303a0e3fc3cdc5a21dc7bd5b4b73c4a", func := "troupe/troupelaw.HostSays", spec := "hostSays", inPlace := ["internal/bytealg.IndexByteString", "internal/bytealg.IndexString"], named := ["internal/bytealg.MaxLen"], apart := false, narrowed := true }
def HostSaysUptoSaid : Prop := hostSaysUptoRow.holds Try.pinned (OpenSpec.upto hostSaysSpec)

/-- 'troupelaw.ShotReads', WHERE WHAT IT READS IS OF BULK AT MOST 1048576: true; the input reads as it did. -/
def shotReadsUptoRow : OpenClaim := { program := "ytpapblahnbeccaa", sum := "6206deff44490b6cd9e3f5ac8e78f47fe303a0e3fc3cdc5a21dc7bd5b4b73c4a", func := "troupe/troupelaw.ShotReads", spec := "shotReads", unfollowed := true, recurses := true, apart := false, narrowed := true }
def ShotReadsUptoSaid : Prop := shotReadsUptoRow.holds Try.pinned (OpenSpec.upto shotReadsSpec)

/-- 'troupelaw.MemSays', WHERE WHAT IT READS IS OF BULK AT MOST 1048576: true; the input reads as it did. -/
def memSaysUptoRow : OpenClaim := { program := "ytpapblahnbeccaa", sum := "6206deff44490b6cd9e3f5ac8e78f47fe303a0e3fc3cdc5a21dc7bd5b4b73c4a", func := "troupe/troupelaw.MemSays", spec := "memSays", inPlace := ["internal/bytealg.IndexByteString", "internal/bytealg.IndexString"], named := ["internal/bytealg.MaxLen"], apart := false, narrowed := true }
def MemSaysUptoSaid : Prop := memSaysUptoRow.holds Try.pinned (OpenSpec.upto memSaysSpec)

/-- 'troupelaw.MemOfs', WHERE WHAT IT READS IS OF BULK AT MOST 1048576: true; the input reads as it did. -/
def memOfsUptoRow : OpenClaim := { program := "ytpapblahnbeccaa", sum := "6206deff44490b6cd9e3f5ac8e78f47fe303a0e3fc3cdc5a21dc7bd5b4b73c4a", func := "troupe/troupelaw.MemOfs", spec := "memOfs", inPlace := ["internal/bytealg.IndexByteString", "internal/bytealg.IndexString"], named := ["internal/bytealg.MaxLen"], apart := false, narrowed := true }
def MemOfsUptoSaid : Prop := memOfsUptoRow.holds Try.pinned (OpenSpec.upto memOfsSpec)

/-- 'troupelaw.HostReads', WHERE WHAT IT READS IS OF BULK AT MOST 1048576: true; the input reads as it did. -/
def hostReadsUptoRow : OpenClaim := { program := "ytpapblahnbeccaa", sum := "6206deff44490b6cd9e3f5ac8e78f47fe303a0e3fc3cdc5a21dc7bd5b4b73c4a", func := "troupe/troupelaw.HostReads", spec := "hostReads", inPlace := ["internal/bytealg.IndexByteString", "internal/bytealg.IndexString"], named := ["internal/bytealg.MaxLen"], apart := false, narrowed := true }
def HostReadsUptoSaid : Prop := hostReadsUptoRow.holds Try.pinned (OpenSpec.upto hostReadsSpec)

end Rows
end Go.Proofs.Ytpapblahnbeccaa
