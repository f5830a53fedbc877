/-
  DERIVED. GIVEN WITH THE SEED: THE CARDS: each row of YtakfineljffoaaaGreatDoorRows.lean that lists a variable, with what it lists TIED to the program's text (the seventh form; the later family's looks); each row that meets fmt, with fmt's text TOLD by the authors' own Lean function (tested against real Go, not proved from fmt's source: count such statements apart). THE CARD IS WHAT COUNTS. Prove the row's statement (the work); the ties are given (YtakfineljffoaaaGreatDoorTie.lean); close each card by the builder's one call (the guide's Derived/Test/ToyasCard.lean, 'card_holds'). Laid BY PROGRAM, IN A SANDBOX (cutbox-door.mjs). By AI agents, Wed Nov 11 2026. No macro, syntax, notation, axiom, sorry.
-/
import Derived.Test.YtakfineljffoaaaGreatDoorRows
import GoSem.ClaimSeven
namespace Go.Proofs.YtakfineljffoaaaGreatDoor
namespace Rows

/-- THE TIED CARD OF 'troupelaw.BinReads'. -/
def binReadsCard : Claim7 := { stood := { row := binReadsRow, standIns := [], harness := (true, "81f437fa3ce32d9716ed87299238c252d1d43a5904a99fc01095bf9392bc249e"), looks := true }, kinds := [], alts := [], laidByText := true, laidKinds := [.data, .pinned], laidTests := true, laidLooks := .later }
def BinReadsCardSaid : Prop := Claim7.holds Tryz.pinned (.plain (OpenSpec.ofChange binReadsSpec)) binReadsCard

/-- THE TIED CARD OF 'troupelaw.FoldSays'. -/
def foldSaysCard : Claim7 := { stood := { row := foldSaysRow, standIns := [], harness := (true, "81f437fa3ce32d9716ed87299238c252d1d43a5904a99fc01095bf9392bc249e"), looks := true }, kinds := [], alts := [], laidByText := true, laidKinds := [.data, .data], laidTests := true, laidLooks := .later }
def FoldSaysCardSaid : Prop := Claim7.holds Tryz.pinned (.plain (OpenSpec.ofChange foldSaysSpec)) foldSaysCard

/-- THE SECOND FORM's CARD OF 'troupelaw.BinReads'. -/
def binReadsUptoCard : Claim7 := { stood := { row := binReadsUptoRow, standIns := [], harness := (true, "81f437fa3ce32d9716ed87299238c252d1d43a5904a99fc01095bf9392bc249e"), looks := true }, kinds := [], alts := [], laidByText := true, laidKinds := [.data, .pinned], laidTests := true, laidLooks := .later }
def BinReadsUptoCardSaid : Prop := Claim7.holds Tryz.pinned (.plain (OpenSpec.upto binReadsSpec)) binReadsUptoCard

/-- THE SECOND FORM's CARD OF 'troupelaw.FoldSays'. -/
def foldSaysUptoCard : Claim7 := { stood := { row := foldSaysUptoRow, standIns := [], harness := (true, "81f437fa3ce32d9716ed87299238c252d1d43a5904a99fc01095bf9392bc249e"), looks := true }, kinds := [], alts := [], laidByText := true, laidKinds := [.data, .data], laidTests := true, laidLooks := .later }
def FoldSaysUptoCardSaid : Prop := Claim7.holds Tryz.pinned (.plain (OpenSpec.upto foldSaysSpec)) foldSaysUptoCard
end Rows
end Go.Proofs.YtakfineljffoaaaGreatDoor
