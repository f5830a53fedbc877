/-
  DERIVED. GIVEN WITH THE SEED: THE CARDS: each row of YtomaiolhaenmhaaDoorRows.lean that lists a variable, with what it lists TIED to the program's text (the seventh form; the later family's looks); each row that meets fmt, with fmt's text TOLD by the authors' own Lean function (tested against real Go, not proved from fmt's source: count such statements apart). THE CARD IS WHAT COUNTS. Prove the row's statement (the work); the ties are given (YtomaiolhaenmhaaDoorTie.lean); close each card by the builder's one call (the guide's Derived/Test/ToyasCard.lean, 'card_holds'). Laid BY PROGRAM, IN A SANDBOX (cutbox-door.mjs). By AI agents, Wed Nov 11 2026. No macro, syntax, notation, axiom, sorry.
-/
import Derived.Test.YtomaiolhaenmhaaDoorRows
import GoSem.ClaimSeven
namespace Go.Proofs.YtomaiolhaenmhaaDoor
namespace Rows

/-- THE TIED CARD OF 'troupelaw.LebNames'. -/
def lebNamesCard : Claim7 := { stood := { row := lebNamesRow, standIns := [], harness := (true, "17bcfdf9cdac01213a7d70a89f0494bb8b96b7e72003369c5996eaea4cd3bcae"), looks := false }, kinds := [], alts := [], laidByText := true, laidKinds := [.data, .pinned], laidTests := true, laidLooks := .later }
def LebNamesCardSaid : Prop := Claim7.holds Tryd.pinned (.plain (OpenSpec.ofChange lebNamesSpec)) lebNamesCard

/-- THE TIED CARD OF 'troupelaw.NumOnes'. -/
def numOnesCard : Claim7 := { stood := { row := numOnesRow, standIns := [], harness := (true, "17bcfdf9cdac01213a7d70a89f0494bb8b96b7e72003369c5996eaea4cd3bcae"), looks := false }, kinds := [], alts := [], laidByText := true, laidKinds := [.data, .data], laidTests := true, laidLooks := .later }
def NumOnesCardSaid : Prop := Claim7.holds Tryd.pinned (.plain (OpenSpec.ofChange numOnesSpec)) numOnesCard

/-- THE SECOND FORM's CARD OF 'troupelaw.LebNames'. -/
def lebNamesUptoCard : Claim7 := { stood := { row := lebNamesUptoRow, standIns := [], harness := (true, "17bcfdf9cdac01213a7d70a89f0494bb8b96b7e72003369c5996eaea4cd3bcae"), looks := false }, kinds := [], alts := [], laidByText := true, laidKinds := [.data, .pinned], laidTests := true, laidLooks := .later }
def LebNamesUptoCardSaid : Prop := Claim7.holds Tryd.pinned (.plain (OpenSpec.upto lebNamesSpec)) lebNamesUptoCard

/-- THE SECOND FORM's CARD OF 'troupelaw.NumOnes'. -/
def numOnesUptoCard : Claim7 := { stood := { row := numOnesUptoRow, standIns := [], harness := (true, "17bcfdf9cdac01213a7d70a89f0494bb8b96b7e72003369c5996eaea4cd3bcae"), looks := false }, kinds := [], alts := [], laidByText := true, laidKinds := [.data, .data], laidTests := true, laidLooks := .later }
def NumOnesUptoCardSaid : Prop := Claim7.holds Tryd.pinned (.plain (OpenSpec.upto numOnesSpec)) numOnesUptoCard
end Rows
end Go.Proofs.YtomaiolhaenmhaaDoor
