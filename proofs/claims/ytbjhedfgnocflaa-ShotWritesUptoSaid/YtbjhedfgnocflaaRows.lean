/-
  No cell of these rows narrows 'for every input' (looked for: loops, veiled, ifaces, maps, wideKeys, modest, calm, conditions, laid).
  DERIVED. THE GIVEN ROWS OF THIS SEAT. 12 by the template 'for every input the law returns true; each argument reads behind the call as it read before'; 0 by the template 'total and deterministic' (their statements: YtbjhedfgnocflaaTotals.lean).
  GIVEN WITH THE SEED: the statements are not yours to turn. If you find one false, say at which input.
  Laid BY PROGRAM, IN A SANDBOX (cutbox-rows.mjs): the forced cells as the released guide's own fill.sh prints them over the translation a86888f3a54bf300… (all of the seat's roots in one cut). By AI agents, Wed Nov 11 2026. No macro, syntax, notation, axiom, sorry.
-/
import Derived.Test.YtbjhedfgnocflaaChecked
import GoSem.Claim
import GoSem.ClaimJoined
import GoSem.ClaimMapViews
import Derived.JoinedTies
import Derived.KernelRfl
namespace Go.Proofs.Ytbjhedfgnocflaa
/- THE CELL 'sum', in the pinned program and in every row, IS THE sha256 OF THE DUMP (.gsa) THAT YtbjhedfgnocflaaProg.lean LOADS. Nothing in Lean hashes anything: it is a label: what it is worth is what the hold of that sum in a sandbox is worth. -/
noncomputable def Try.pinned : Pinned := { name := "ytbjhedfgnocflaa", sum := "a86888f3a54bf300d87cbaa0e5e986f040dc159ce2bcf1f97a3a7b4e5b5a8b5b", checked := Try.checked }
namespace Rows
def none {H : Type} : Left H := { results := [], args := [] }

/-- 'troupelaw.Names': WHATEVER THE INPUT: true; the input reads as it did. -/
def namesSpec : ChangeSpec := { name := "names", fn := fun _ => fun
  | [] => { results := [.lit (.bool true)], args := [] }
  | _ => none }
def namesRow : OpenClaim := { program := "ytbjhedfgnocflaa", sum := "a86888f3a54bf300d87cbaa0e5e986f040dc159ce2bcf1f97a3a7b4e5b5a8b5b", func := "troupe/troupelaw.Names", spec := "names", apart := false }
def NamesSaid : Prop := namesRow.holds Try.pinned (OpenSpec.ofChange namesSpec)

/-- ITS FALSE NEIGHBOUR: 'it returns false'. Refute it at one input. -/
def namesWrong : ChangeSpec := { name := "names", fn := fun _ => fun
  | [] => { results := [.lit (.bool false)], args := [] }
  | _ => none }
def NamesWrongFalsely : Prop := namesRow.holds Try.pinned (OpenSpec.ofChange namesWrong)

/-- 'troupelaw.FrameSums': WHATEVER THE INPUT: true; the input reads as it did. -/
def frameSumsSpec : ChangeSpec := { name := "frameSums", fn := fun _ => fun
  | [d] => { results := [.lit (.bool true)], args := [d] }
  | _ => none }
def frameSumsRow : OpenClaim := { program := "ytbjhedfgnocflaa", sum := "a86888f3a54bf300d87cbaa0e5e986f040dc159ce2bcf1f97a3a7b4e5b5a8b5b", func := "troupe/troupelaw.FrameSums", spec := "frameSums", apart := false }
def FrameSumsSaid : Prop := frameSumsRow.holds Try.pinned (OpenSpec.ofChange frameSumsSpec)

/-- ITS FALSE NEIGHBOUR: 'it returns false'. Refute it at one input. -/
def frameSumsWrong : ChangeSpec := { name := "frameSums", fn := fun _ => fun
  | [d] => { results := [.lit (.bool false)], args := [d] }
  | _ => none }
def FrameSumsWrongFalsely : Prop := frameSumsRow.holds Try.pinned (OpenSpec.ofChange frameSumsWrong)

/-- 'troupelaw.LebSays': WHATEVER THE INPUT: true; the input reads as it did. -/
def lebSaysSpec : ChangeSpec := { name := "lebSays", fn := fun _ => fun
  | [d1, d2] => { results := [.lit (.bool true)], args := [d1, d2] }
  | _ => none }
def lebSaysRow : OpenClaim := { program := "ytbjhedfgnocflaa", sum := "a86888f3a54bf300d87cbaa0e5e986f040dc159ce2bcf1f97a3a7b4e5b5a8b5b", func := "troupe/troupelaw.LebSays", spec := "lebSays", unfollowed := true, recurses := true, apart := false }
def LebSaysSaid : Prop := lebSaysRow.holds Try.pinned (OpenSpec.ofChange lebSaysSpec)

/-- ITS FALSE NEIGHBOUR: 'it returns false'. Refute it at one input. -/
def lebSaysWrong : ChangeSpec := { name := "lebSays", fn := fun _ => fun
  | [d1, d2] => { results := [.lit (.bool false)], args := [d1, d2] }
  | _ => none }
def LebSaysWrongFalsely : Prop := lebSaysRow.holds Try.pinned (OpenSpec.ofChange lebSaysWrong)

/-- 'troupelaw.SuperPasts': WHATEVER THE INPUT: true; the input reads as it did. -/
def superPastsSpec : ChangeSpec := { name := "superPasts", fn := fun _ => fun
  | [d1, d2, d3, d4] => { results := [.lit (.bool true)], args := [d1, d2, d3, d4] }
  | _ => none }
def superPastsRow : OpenClaim := { program := "ytbjhedfgnocflaa", sum := "a86888f3a54bf300d87cbaa0e5e986f040dc159ce2bcf1f97a3a7b4e5b5a8b5b", func := "troupe/troupelaw.SuperPasts", spec := "superPasts", apart := false }
def SuperPastsSaid : Prop := superPastsRow.holds Try.pinned (OpenSpec.ofChange superPastsSpec)

/-- ITS FALSE NEIGHBOUR: 'it returns false'. Refute it at one input. -/
def superPastsWrong : ChangeSpec := { name := "superPasts", fn := fun _ => fun
  | [d1, d2, d3, d4] => { results := [.lit (.bool false)], args := [d1, d2, d3, d4] }
  | _ => none }
def SuperPastsWrongFalsely : Prop := superPastsRow.holds Try.pinned (OpenSpec.ofChange superPastsWrong)

/-- 'troupelaw.FramePacks': WHATEVER THE INPUT: true; the input reads as it did. -/
def framePacksSpec : ChangeSpec := { name := "framePacks", fn := fun _ => fun
  | [d1, d2] => { results := [.lit (.bool true)], args := [d1, d2] }
  | _ => none }
def framePacksRow : OpenClaim := { program := "ytbjhedfgnocflaa", sum := "a86888f3a54bf300d87cbaa0e5e986f040dc159ce2bcf1f97a3a7b4e5b5a8b5b", func := "troupe/troupelaw.FramePacks", spec := "framePacks", unfollowed := true, recurses := true, apart := false }
def FramePacksSaid : Prop := framePacksRow.holds Try.pinned (OpenSpec.ofChange framePacksSpec)

/-- ITS FALSE NEIGHBOUR: 'it returns false'. Refute it at one input. -/
def framePacksWrong : ChangeSpec := { name := "framePacks", fn := fun _ => fun
  | [d1, d2] => { results := [.lit (.bool false)], args := [d1, d2] }
  | _ => none }
def FramePacksWrongFalsely : Prop := framePacksRow.holds Try.pinned (OpenSpec.ofChange framePacksWrong)

/-- 'troupelaw.SuperPlans': WHATEVER THE INPUT: true; the input reads as it did. -/
def superPlansSpec : ChangeSpec := { name := "superPlans", fn := fun _ => fun
  | [d1, d2, d3] => { results := [.lit (.bool true)], args := [d1, d2, d3] }
  | _ => none }
def superPlansRow : OpenClaim := { program := "ytbjhedfgnocflaa", sum := "a86888f3a54bf300d87cbaa0e5e986f040dc159ce2bcf1f97a3a7b4e5b5a8b5b", func := "troupe/troupelaw.SuperPlans", spec := "superPlans", apart := false }
def SuperPlansSaid : Prop := superPlansRow.holds Try.pinned (OpenSpec.ofChange superPlansSpec)

/-- ITS FALSE NEIGHBOUR: 'it returns false'. Refute it at one input. -/
def superPlansWrong : ChangeSpec := { name := "superPlans", fn := fun _ => fun
  | [d1, d2, d3] => { results := [.lit (.bool false)], args := [d1, d2, d3] }
  | _ => none }
def SuperPlansWrongFalsely : Prop := superPlansRow.holds Try.pinned (OpenSpec.ofChange superPlansWrong)

/-- 'troupelaw.LebReads': WHATEVER THE INPUT: true; the input reads as it did. -/
def lebReadsSpec : ChangeSpec := { name := "lebReads", fn := fun _ => fun
  | [d1, d2] => { results := [.lit (.bool true)], args := [d1, d2] }
  | _ => none }
def lebReadsRow : OpenClaim := { program := "ytbjhedfgnocflaa", sum := "a86888f3a54bf300d87cbaa0e5e986f040dc159ce2bcf1f97a3a7b4e5b5a8b5b", func := "troupe/troupelaw.LebReads", spec := "lebReads", apart := false }
def LebReadsSaid : Prop := lebReadsRow.holds Try.pinned (OpenSpec.ofChange lebReadsSpec)

/-- ITS FALSE NEIGHBOUR: 'it returns false'. Refute it at one input. -/
def lebReadsWrong : ChangeSpec := { name := "lebReads", fn := fun _ => fun
  | [d1, d2] => { results := [.lit (.bool false)], args := [d1, d2] }
  | _ => none }
def LebReadsWrongFalsely : Prop := lebReadsRow.holds Try.pinned (OpenSpec.ofChange lebReadsWrong)

/-- 'troupelaw.TurnsDeals': WHATEVER THE INPUT: true; the input reads as it did. -/
def turnsDealsSpec : ChangeSpec := { name := "turnsDeals", fn := fun _ => fun
  | [d1, d2, d3] => { results := [.lit (.bool true)], args := [d1, d2, d3] }
  | _ => none }
def turnsDealsRow : OpenClaim := { program := "ytbjhedfgnocflaa", sum := "a86888f3a54bf300d87cbaa0e5e986f040dc159ce2bcf1f97a3a7b4e5b5a8b5b", func := "troupe/troupelaw.TurnsDeals", spec := "turnsDeals", unfollowed := true, recurses := true, apart := false }
def TurnsDealsSaid : Prop := turnsDealsRow.holds Try.pinned (OpenSpec.ofChange turnsDealsSpec)

/-- ITS FALSE NEIGHBOUR: 'it returns false'. Refute it at one input. -/
def turnsDealsWrong : ChangeSpec := { name := "turnsDeals", fn := fun _ => fun
  | [d1, d2, d3] => { results := [.lit (.bool false)], args := [d1, d2, d3] }
  | _ => none }
def TurnsDealsWrongFalsely : Prop := turnsDealsRow.holds Try.pinned (OpenSpec.ofChange turnsDealsWrong)

/-- 'troupelaw.MailSays': WHATEVER THE INPUT: true; the input reads as it did. -/
def mailSaysSpec : ChangeSpec := { name := "mailSays", fn := fun _ => fun
  | [d1, d2] => { results := [.lit (.bool true)], args := [d1, d2] }
  | _ => none }
def mailSaysRow : OpenClaim := { program := "ytbjhedfgnocflaa", sum := "a86888f3a54bf300d87cbaa0e5e986f040dc159ce2bcf1f97a3a7b4e5b5a8b5b", func := "troupe/troupelaw.MailSays", spec := "mailSays", unfollowed := true, recurses := true, apart := false }
def MailSaysSaid : Prop := mailSaysRow.holds Try.pinned (OpenSpec.ofChange mailSaysSpec)

/-- ITS FALSE NEIGHBOUR: 'it returns false'. Refute it at one input. -/
def mailSaysWrong : ChangeSpec := { name := "mailSays", fn := fun _ => fun
  | [d1, d2] => { results := [.lit (.bool false)], args := [d1, d2] }
  | _ => none }
def MailSaysWrongFalsely : Prop := mailSaysRow.holds Try.pinned (OpenSpec.ofChange mailSaysWrong)

/-- 'troupelaw.AirSays': WHATEVER THE INPUT: true; the input reads as it did. -/
def airSaysSpec : ChangeSpec := { name := "airSays", fn := fun _ => fun
  | [d] => { results := [.lit (.bool true)], args := [d] }
  | _ => none }
def airSaysRow : OpenClaim := { program := "ytbjhedfgnocflaa", sum := "a86888f3a54bf300d87cbaa0e5e986f040dc159ce2bcf1f97a3a7b4e5b5a8b5b", func := "troupe/troupelaw.AirSays", spec := "airSays", apart := false }
def AirSaysSaid : Prop := airSaysRow.holds Try.pinned (OpenSpec.ofChange airSaysSpec)

/-- ITS FALSE NEIGHBOUR: 'it returns false'. Refute it at one input. -/
def airSaysWrong : ChangeSpec := { name := "airSays", fn := fun _ => fun
  | [d] => { results := [.lit (.bool false)], args := [d] }
  | _ => none }
def AirSaysWrongFalsely : Prop := airSaysRow.holds Try.pinned (OpenSpec.ofChange airSaysWrong)

/-- 'troupelaw.ShotWrites': WHATEVER THE INPUT: true; the input reads as it did. -/
def shotWritesSpec : ChangeSpec := { name := "shotWrites", fn := fun _ => fun
  | [d1, d2] => { results := [.lit (.bool true)], args := [d1, d2] }
  | _ => none }
def shotWritesRow : OpenClaim := { program := "ytbjhedfgnocflaa", sum := "a86888f3a54bf300d87cbaa0e5e986f040dc159ce2bcf1f97a3a7b4e5b5a8b5b", func := "troupe/troupelaw.ShotWrites", spec := "shotWrites", unfollowed := true, recurses := true, apart := false }
def ShotWritesSaid : Prop := shotWritesRow.holds Try.pinned (OpenSpec.ofChange shotWritesSpec)

/-- ITS FALSE NEIGHBOUR: 'it returns false'. Refute it at one input. -/
def shotWritesWrong : ChangeSpec := { name := "shotWrites", fn := fun _ => fun
  | [d1, d2] => { results := [.lit (.bool false)], args := [d1, d2] }
  | _ => none }
def ShotWritesWrongFalsely : Prop := shotWritesRow.holds Try.pinned (OpenSpec.ofChange shotWritesWrong)

/-- 'troupelaw.TurnsSays': WHATEVER THE INPUT: true; the input reads as it did. -/
def turnsSaysSpec : ChangeSpec := { name := "turnsSays", fn := fun _ => fun
  | [d] => { results := [.lit (.bool true)], args := [d] }
  | _ => none }
def turnsSaysRow : OpenClaim := { program := "ytbjhedfgnocflaa", sum := "a86888f3a54bf300d87cbaa0e5e986f040dc159ce2bcf1f97a3a7b4e5b5a8b5b", func := "troupe/troupelaw.TurnsSays", spec := "turnsSays", apart := false }
def TurnsSaysSaid : Prop := turnsSaysRow.holds Try.pinned (OpenSpec.ofChange turnsSaysSpec)

/-- ITS FALSE NEIGHBOUR: 'it returns false'. Refute it at one input. -/
def turnsSaysWrong : ChangeSpec := { name := "turnsSays", fn := fun _ => fun
  | [d] => { results := [.lit (.bool false)], args := [d] }
  | _ => none }
def TurnsSaysWrongFalsely : Prop := turnsSaysRow.holds Try.pinned (OpenSpec.ofChange turnsSaysWrong)

/- THE SECOND FORM. 'bulk': how many values and letters a reading holds, each counted each time it is reached (what is shared counts as often as it is met; a slice's spare places count too). A statement '..UptoSaid' is the law's where the arguments, and the package variables that the reading takes, are together of bulk at most 1048576: NARROWER than '..Said'. Prove '..Said' where nothing that the law and all that it calls make is longer than what came in: it says more and counts as full. Else prove '..UptoSaid'. A law counts once. -/
mutual
def uptoBulk {H : Type} : DataW H → Nat
  | .lit (.string bytes) => bytes.length + 1
  | .lit _ => 1
  | .nil => 1
  | .ptr d => uptoBulk d + 1
  | .slice elems spare => uptoBulkAll elems + uptoBulkAll spare + 1
  | .agg parts => uptoBulkAll parts + 1
  | .iface _ d => uptoBulk d + 1
  | .map entries => uptoBulkEntries entries + 1
  | .held _ => 1
def uptoBulkAll {H : Type} : List (DataW H) → Nat
  | [] => 0
  | d :: r => uptoBulk d + uptoBulkAll r
def uptoBulkEntries {H : Type} : List (Lit × DataW H) → Nat
  | [] => 0
  | x :: r => uptoBulkEntry x + uptoBulkEntries r
def uptoBulkEntry {H : Type} : Lit × DataW H → Nat
  | (.string bytes, d) => bytes.length + uptoBulk d + 1
  | (_, d) => uptoBulk d + 1
 end
def uptoSmall : (H : Type) → List (DataW H) → Bool := fun _ ds => decide (uptoBulkAll ds ≤ 1048576)
def OpenSpec.upto (s : _root_.Go.ChangeSpec) : _root_.Go.OpenSpec := { _root_.Go.OpenSpec.ofChange s with cond := some uptoSmall }

/-- 'troupelaw.Names', WHERE WHAT IT READS IS OF BULK AT MOST 1048576: true; the input reads as it did. -/
def namesUptoRow : OpenClaim := { program := "ytbjhedfgnocflaa", sum := "a86888f3a54bf300d87cbaa0e5e986f040dc159ce2bcf1f97a3a7b4e5b5a8b5b", func := "troupe/troupelaw.Names", spec := "names", apart := false, narrowed := true }
def NamesUptoSaid : Prop := namesUptoRow.holds Try.pinned (OpenSpec.upto namesSpec)

/-- 'troupelaw.FrameSums', WHERE WHAT IT READS IS OF BULK AT MOST 1048576: true; the input reads as it did. -/
def frameSumsUptoRow : OpenClaim := { program := "ytbjhedfgnocflaa", sum := "a86888f3a54bf300d87cbaa0e5e986f040dc159ce2bcf1f97a3a7b4e5b5a8b5b", func := "troupe/troupelaw.FrameSums", spec := "frameSums", apart := false, narrowed := true }
def FrameSumsUptoSaid : Prop := frameSumsUptoRow.holds Try.pinned (OpenSpec.upto frameSumsSpec)

/-- 'troupelaw.LebSays', WHERE WHAT IT READS IS OF BULK AT MOST 1048576: true; the input reads as it did. -/
def lebSaysUptoRow : OpenClaim := { program := "ytbjhedfgnocflaa", sum := "a86888f3a54bf300d87cbaa0e5e986f040dc159ce2bcf1f97a3a7b4e5b5a8b5b", func := "troupe/troupelaw.LebSays", spec := "lebSays", unfollowed := true, recurses := true, apart := false, narrowed := true }
def LebSaysUptoSaid : Prop := lebSaysUptoRow.holds Try.pinned (OpenSpec.upto lebSaysSpec)

/-- 'troupelaw.SuperPasts', WHERE WHAT IT READS IS OF BULK AT MOST 1048576: true; the input reads as it did. -/
def superPastsUptoRow : OpenClaim := { program := "ytbjhedfgnocflaa", sum := "a86888f3a54bf300d87cbaa0e5e986f040dc159ce2bcf1f97a3a7b4e5b5a8b5b", func := "troupe/troupelaw.SuperPasts", spec := "superPasts", apart := false, narrowed := true }
def SuperPastsUptoSaid : Prop := superPastsUptoRow.holds Try.pinned (OpenSpec.upto superPastsSpec)

/-- 'troupelaw.FramePacks', WHERE WHAT IT READS IS OF BULK AT MOST 1048576: true; the input reads as it did. -/
def framePacksUptoRow : OpenClaim := { program := "ytbjhedfgnocflaa", sum := "a86888f3a54bf300d87cbaa0e5e986f040dc159ce2bcf1f97a3a7b4e5b5a8b5b", func := "troupe/troupelaw.FramePacks", spec := "framePacks", unfollowed := true, recurses := true, apart := false, narrowed := true }
def FramePacksUptoSaid : Prop := framePacksUptoRow.holds Try.pinned (OpenSpec.upto framePacksSpec)

/-- 'troupelaw.SuperPlans', WHERE WHAT IT READS IS OF BULK AT MOST 1048576: true; the input reads as it did. -/
def superPlansUptoRow : OpenClaim := { program := "ytbjhedfgnocflaa", sum := "a86888f3a54bf300d87cbaa0e5e986f040dc159ce2bcf1f97a3a7b4e5b5a8b5b", func := "troupe/troupelaw.SuperPlans", spec := "superPlans", apart := false, narrowed := true }
def SuperPlansUptoSaid : Prop := superPlansUptoRow.holds Try.pinned (OpenSpec.upto superPlansSpec)

/-- 'troupelaw.LebReads', WHERE WHAT IT READS IS OF BULK AT MOST 1048576: true; the input reads as it did. -/
def lebReadsUptoRow : OpenClaim := { program := "ytbjhedfgnocflaa", sum := "a86888f3a54bf300d87cbaa0e5e986f040dc159ce2bcf1f97a3a7b4e5b5a8b5b", func := "troupe/troupelaw.LebReads", spec := "lebReads", apart := false, narrowed := true }
def LebReadsUptoSaid : Prop := lebReadsUptoRow.holds Try.pinned (OpenSpec.upto lebReadsSpec)

/-- 'troupelaw.TurnsDeals', WHERE WHAT IT READS IS OF BULK AT MOST 1048576: true; the input reads as it did. -/
def turnsDealsUptoRow : OpenClaim := { program := "ytbjhedfgnocflaa", sum := "a86888f3a54bf300d87cbaa0e5e986f040dc159ce2bcf1f97a3a7b4e5b5a8b5b", func := "troupe/troupelaw.TurnsDeals", spec := "turnsDeals", unfollowed := true, recurses := true, apart := false, narrowed := true }
def TurnsDealsUptoSaid : Prop := turnsDealsUptoRow.holds Try.pinned (OpenSpec.upto turnsDealsSpec)

/-- 'troupelaw.MailSays', WHERE WHAT IT READS IS OF BULK AT MOST 1048576: true; the input reads as it did. -/
def mailSaysUptoRow : OpenClaim := { program := "ytbjhedfgnocflaa", sum := "a86888f3a54bf300d87cbaa0e5e986f040dc159ce2bcf1f97a3a7b4e5b5a8b5b", func := "troupe/troupelaw.MailSays", spec := "mailSays", unfollowed := true, recurses := true, apart := false, narrowed := true }
def MailSaysUptoSaid : Prop := mailSaysUptoRow.holds Try.pinned (OpenSpec.upto mailSaysSpec)

/-- 'troupelaw.AirSays', WHERE WHAT IT READS IS OF BULK AT MOST 1048576: true; the input reads as it did. -/
def airSaysUptoRow : OpenClaim := { program := "ytbjhedfgnocflaa", sum := "a86888f3a54bf300d87cbaa0e5e986f040dc159ce2bcf1f97a3a7b4e5b5a8b5b", func := "troupe/troupelaw.AirSays", spec := "airSays", apart := false, narrowed := true }
def AirSaysUptoSaid : Prop := airSaysUptoRow.holds Try.pinned (OpenSpec.upto airSaysSpec)

/-- 'troupelaw.ShotWrites', WHERE WHAT IT READS IS OF BULK AT MOST 1048576: true; the input reads as it did. -/
def shotWritesUptoRow : OpenClaim := { program := "ytbjhedfgnocflaa", sum := "a86888f3a54bf300d87cbaa0e5e986f040dc159ce2bcf1f97a3a7b4e5b5a8b5b", func := "troupe/troupelaw.ShotWrites", spec := "shotWrites", unfollowed := true, recurses := true, apart := false, narrowed := true }
def ShotWritesUptoSaid : Prop := shotWritesUptoRow.holds Try.pinned (OpenSpec.upto shotWritesSpec)

/-- 'troupelaw.TurnsSays', WHERE WHAT IT READS IS OF BULK AT MOST 1048576: true; the input reads as it did. -/
def turnsSaysUptoRow : OpenClaim := { program := "ytbjhedfgnocflaa", sum := "a86888f3a54bf300d87cbaa0e5e986f040dc159ce2bcf1f97a3a7b4e5b5a8b5b", func := "troupe/troupelaw.TurnsSays", spec := "turnsSays", apart := false, narrowed := true }
def TurnsSaysUptoSaid : Prop := turnsSaysUptoRow.holds Try.pinned (OpenSpec.upto turnsSaysSpec)

end Rows
end Go.Proofs.Ytbjhedfgnocflaa
