/-
  DERIVED. GIVEN WITH THE SEED: THE CARDS: each row of YthoalneknadheaaGreatDoorRows.lean that lists a variable, with what it lists TIED to the program's text (the seventh form; the later family's looks); each row that meets fmt, with fmt's text TOLD by the authors' own Lean function (tested against real Go, not proved from fmt's source: count such statements apart). THE CARD IS WHAT COUNTS. Prove the row's statement (the work); the ties are given (YthoalneknadheaaGreatDoorTie.lean); close each card by the builder's one call (the guide's Derived/Test/ToyasCard.lean, 'card_holds'). Laid BY PROGRAM, IN A SANDBOX (cutbox-door.mjs). By AI agents, Wed Nov 11 2026. No macro, syntax, notation, axiom, sorry.
-/
import Derived.Test.YthoalneknadheaaGreatDoorRows
import GoSem.ClaimSeven
namespace Go.Proofs.YthoalneknadheaaGreatDoor
namespace Rows

/-- THE TIED CARD OF 'troupelaw.BinWrites'. -/
def binWritesCard : Claim7 := { stood := { row := binWritesRow, standIns := [], harness := (true, "b265b3586063e03b52efc6e388309b7e569488284f9eb8d610d8d8718e60903f"), looks := true }, kinds := [], alts := [], laidByText := true, laidKinds := [.data, .pinned], laidTests := true, laidLooks := .later }
def BinWritesCardSaid : Prop := Claim7.holds Tryz.pinned (.plain (OpenSpec.ofChange binWritesSpec)) binWritesCard

/-- THE TIED CARD OF 'troupelaw.BinReads'. -/
def binReadsCard : Claim7 := { stood := { row := binReadsRow, standIns := [], harness := (true, "b265b3586063e03b52efc6e388309b7e569488284f9eb8d610d8d8718e60903f"), looks := true }, kinds := [], alts := [], laidByText := true, laidKinds := [.data, .pinned], laidTests := true, laidLooks := .later }
def BinReadsCardSaid : Prop := Claim7.holds Tryz.pinned (.plain (OpenSpec.ofChange binReadsSpec)) binReadsCard

/-- THE SECOND FORM's CARD OF 'troupelaw.BinWrites'. -/
def binWritesUptoCard : Claim7 := { stood := { row := binWritesUptoRow, standIns := [], harness := (true, "b265b3586063e03b52efc6e388309b7e569488284f9eb8d610d8d8718e60903f"), looks := true }, kinds := [], alts := [], laidByText := true, laidKinds := [.data, .pinned], laidTests := true, laidLooks := .later }
def BinWritesUptoCardSaid : Prop := Claim7.holds Tryz.pinned (.plain (OpenSpec.upto binWritesSpec)) binWritesUptoCard

/-- THE SECOND FORM's CARD OF 'troupelaw.BinReads'. -/
def binReadsUptoCard : Claim7 := { stood := { row := binReadsUptoRow, standIns := [], harness := (true, "b265b3586063e03b52efc6e388309b7e569488284f9eb8d610d8d8718e60903f"), looks := true }, kinds := [], alts := [], laidByText := true, laidKinds := [.data, .pinned], laidTests := true, laidLooks := .later }
def BinReadsUptoCardSaid : Prop := Claim7.holds Tryz.pinned (.plain (OpenSpec.upto binReadsSpec)) binReadsUptoCard
end Rows
end Go.Proofs.YthoalneknadheaaGreatDoor
