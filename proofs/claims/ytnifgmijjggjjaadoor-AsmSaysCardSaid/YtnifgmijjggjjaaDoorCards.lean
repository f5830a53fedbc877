/-
  DERIVED. GIVEN WITH THE SEED: THE CARDS: each row of YtnifgmijjggjjaaDoorRows.lean that lists a variable, with what it lists TIED to the program's text (the seventh form; the later family's looks); each row that meets fmt, with fmt's text TOLD by the authors' own Lean function (tested against real Go, not proved from fmt's source: count such statements apart). THE CARD IS WHAT COUNTS. Prove the row's statement (the work); the ties are given (YtnifgmijjggjjaaDoorTie.lean); close each card by the builder's one call (the guide's Derived/Test/ToyasCard.lean, 'card_holds'). Laid BY PROGRAM, IN A SANDBOX (cutbox-door.mjs). By AI agents, Wed Nov 11 2026. No macro, syntax, notation, axiom, sorry.
-/
import Derived.Test.YtnifgmijjggjjaaDoorRows
import GoSem.ClaimSeven
namespace Go.Proofs.YtnifgmijjggjjaaDoor
namespace Rows

/-- THE TIED CARD OF 'troupelaw.AsmSays'. -/
def asmSaysCard : Claim7 := { stood := { row := asmSaysRow, standIns := [], harness := (true, "016733f6b2b05eee8d032bd2f2c64386428ec94d6a8fef69437708c048552b32"), looks := false }, kinds := [], alts := [], laidByText := true, laidKinds := [.data, .data, .data, .data, .pinned], laidTests := true, laidLooks := .later }
def AsmSaysCardSaid : Prop := Claim7.holds Tryd.pinned (.plain (OpenSpec.ofChange asmSaysSpec)) asmSaysCard

/-- THE SECOND FORM's CARD OF 'troupelaw.AsmSays'. -/
def asmSaysUptoCard : Claim7 := { stood := { row := asmSaysUptoRow, standIns := [], harness := (true, "016733f6b2b05eee8d032bd2f2c64386428ec94d6a8fef69437708c048552b32"), looks := false }, kinds := [], alts := [], laidByText := true, laidKinds := [.data, .data, .data, .data, .pinned], laidTests := true, laidLooks := .later }
def AsmSaysUptoCardSaid : Prop := Claim7.holds Tryd.pinned (.plain (OpenSpec.upto asmSaysSpec)) asmSaysUptoCard
end Rows
end Go.Proofs.YtnifgmijjggjjaaDoor
