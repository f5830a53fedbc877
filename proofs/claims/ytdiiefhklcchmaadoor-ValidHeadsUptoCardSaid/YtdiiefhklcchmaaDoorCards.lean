/-
  DERIVED. GIVEN WITH THE SEED: THE CARDS: each row of YtdiiefhklcchmaaDoorRows.lean that lists a variable, with what it lists TIED to the program's text (the seventh form; the later family's looks); each row that meets fmt, with fmt's text TOLD by the authors' own Lean function (tested against real Go, not proved from fmt's source: count such statements apart). THE CARD IS WHAT COUNTS. Prove the row's statement (the work); the ties are given (YtdiiefhklcchmaaDoorTie.lean); close each card by the builder's one call (the guide's Derived/Test/ToyasCard.lean, 'card_holds'). Laid BY PROGRAM, IN A SANDBOX (cutbox-door.mjs). By AI agents, Wed Nov 11 2026. No macro, syntax, notation, axiom, sorry.
-/
import Derived.Test.YtdiiefhklcchmaaDoorRows
import GoSem.ClaimSeven
namespace Go.Proofs.YtdiiefhklcchmaaDoor
namespace Rows

/-- THE TIED CARD OF 'troupelaw.BinChecks'. -/
def binChecksCard : Claim7 := { stood := { row := binChecksRow, standIns := [], harness := (true, "a8f69e9b2a9dd7aa437d8f5ad327d15a8b2e5e7872cb3fcd3bec576342ce70b1"), looks := false }, kinds := [], alts := [], laidByText := true, laidKinds := [.data, .pinned], laidTests := true, laidLooks := .later }
def BinChecksCardSaid : Prop := Claim7.holds Tryd.pinned (.plain (OpenSpec.ofChange binChecksSpec)) binChecksCard

/-- THE TIED CARD OF 'troupelaw.ValidHeads'. -/
def validHeadsCard : Claim7 := { stood := { row := validHeadsRow, standIns := [], harness := (true, "a8f69e9b2a9dd7aa437d8f5ad327d15a8b2e5e7872cb3fcd3bec576342ce70b1"), looks := false }, kinds := [], alts := [], laidByText := true, laidKinds := [.data, .pinned], laidTests := true, laidLooks := .later }
def ValidHeadsCardSaid : Prop := Claim7.holds Tryd.pinned (.plain (OpenSpec.ofChange validHeadsSpec)) validHeadsCard

/-- THE SECOND FORM's CARD OF 'troupelaw.BinChecks'. -/
def binChecksUptoCard : Claim7 := { stood := { row := binChecksUptoRow, standIns := [], harness := (true, "a8f69e9b2a9dd7aa437d8f5ad327d15a8b2e5e7872cb3fcd3bec576342ce70b1"), looks := false }, kinds := [], alts := [], laidByText := true, laidKinds := [.data, .pinned], laidTests := true, laidLooks := .later }
def BinChecksUptoCardSaid : Prop := Claim7.holds Tryd.pinned (.plain (OpenSpec.upto binChecksSpec)) binChecksUptoCard

/-- THE SECOND FORM's CARD OF 'troupelaw.ValidHeads'. -/
def validHeadsUptoCard : Claim7 := { stood := { row := validHeadsUptoRow, standIns := [], harness := (true, "a8f69e9b2a9dd7aa437d8f5ad327d15a8b2e5e7872cb3fcd3bec576342ce70b1"), looks := false }, kinds := [], alts := [], laidByText := true, laidKinds := [.data, .pinned], laidTests := true, laidLooks := .later }
def ValidHeadsUptoCardSaid : Prop := Claim7.holds Tryd.pinned (.plain (OpenSpec.upto validHeadsSpec)) validHeadsUptoCard
end Rows
end Go.Proofs.YtdiiefhklcchmaaDoor
