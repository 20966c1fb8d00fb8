/-
  DERIVED. GIVEN WITH THE SEED: THE CARDS: each row of YtiefjlcakpdfeaaGreatDoorRows.lean that lists a variable, with what it lists TIED to the program's text (the seventh form; the later family's looks); each row that meets fmt, with fmt's text TOLD by the authors' own Lean function (tested against real Go, not proved from fmt's source: count such statements apart). THE CARD IS WHAT COUNTS. Prove the row's statement (the work); the ties are given (YtiefjlcakpdfeaaGreatDoorTie.lean); close each card by the builder's one call (the guide's Derived/Test/ToyasCard.lean, 'card_holds'). Laid BY PROGRAM, IN A SANDBOX (cutbox-door.mjs). By AI agents, Wed Nov 11 2026. No macro, syntax, notation, axiom, sorry.
-/
import Derived.Test.YtiefjlcakpdfeaaGreatDoorRows
import GoSem.ClaimSeven
namespace Go.Proofs.YtiefjlcakpdfeaaGreatDoor
namespace Rows

/-- THE TIED CARD OF 'standbylaw58.RunbookTrips'. -/
def runbookTripsCard : Claim7 := { stood := { row := runbookTripsRow, standIns := [], harness := (true, "707518d745f9abe82f2511b2504529554c7a91f4fc7977e32c0a25d249b50e84"), looks := true }, kinds := [], alts := [], laidByText := true, laidKinds := [.data, .data, .data], laidTests := true, laidLooks := .later }
def RunbookTripsCardSaid : Prop := Claim7.holds Tryz.pinned (.plain (OpenSpec.ofChange runbookTripsSpec)) runbookTripsCard

/-- THE TIED CARD OF 'standbytop.TopRunbooksAllOrNothing'. -/
def topRunbooksAllOrNothingCard : Claim7 := { stood := { row := topRunbooksAllOrNothingRow, standIns := [], harness := (true, "707518d745f9abe82f2511b2504529554c7a91f4fc7977e32c0a25d249b50e84"), looks := true }, kinds := [], alts := [], laidByText := true, laidKinds := [.data, .data, .data], laidTests := true, laidLooks := .later }
def TopRunbooksAllOrNothingCardSaid : Prop := Claim7.holds Tryz.pinned (.plain (OpenSpec.ofChange topRunbooksAllOrNothingSpec)) topRunbooksAllOrNothingCard

/-- THE SECOND FORM's CARD OF 'standbylaw58.RunbookTrips'. -/
def runbookTripsUptoCard : Claim7 := { stood := { row := runbookTripsUptoRow, standIns := [], harness := (true, "707518d745f9abe82f2511b2504529554c7a91f4fc7977e32c0a25d249b50e84"), looks := true }, kinds := [], alts := [], laidByText := true, laidKinds := [.data, .data, .data], laidTests := true, laidLooks := .later }
def RunbookTripsUptoCardSaid : Prop := Claim7.holds Tryz.pinned (.plain (OpenSpec.upto runbookTripsSpec)) runbookTripsUptoCard

/-- THE SECOND FORM's CARD OF 'standbytop.TopRunbooksAllOrNothing'. -/
def topRunbooksAllOrNothingUptoCard : Claim7 := { stood := { row := topRunbooksAllOrNothingUptoRow, standIns := [], harness := (true, "707518d745f9abe82f2511b2504529554c7a91f4fc7977e32c0a25d249b50e84"), looks := true }, kinds := [], alts := [], laidByText := true, laidKinds := [.data, .data, .data], laidTests := true, laidLooks := .later }
def TopRunbooksAllOrNothingUptoCardSaid : Prop := Claim7.holds Tryz.pinned (.plain (OpenSpec.upto topRunbooksAllOrNothingSpec)) topRunbooksAllOrNothingUptoCard
end Rows
end Go.Proofs.YtiefjlcakpdfeaaGreatDoor
