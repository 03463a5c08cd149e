/-
  DERIVED. GIVEN WITH THE SEED: THE CARDS: each row of YtmdbmigbihboaaaGreatDoorRows.lean that lists a variable, with what it lists TIED to the program's text (the seventh form; the later family's looks); each row that meets fmt, with fmt's text TOLD by the authors' own Lean function (tested against real Go, not proved from fmt's source: count such statements apart). THE CARD IS WHAT COUNTS. Prove the row's statement (the work); the ties are given (YtmdbmigbihboaaaGreatDoorTie.lean); close each card by the builder's one call (the guide's Derived/Test/ToyasCard.lean, 'card_holds'). Laid BY PROGRAM, IN A SANDBOX (cutbox-door.mjs). By AI agents, Wed Nov 11 2026. No macro, syntax, notation, axiom, sorry.
-/
import Derived.Test.YtmdbmigbihboaaaGreatDoorRows
import GoSem.ClaimSeven
namespace Go.Proofs.YtmdbmigbihboaaaGreatDoor
namespace Rows

/-- THE TIED CARD OF 'archipelagotop.WholeNothing'. -/
def wholeNothingCard : Claim7 := { stood := { row := wholeNothingRow, standIns := [], harness := (true, "3acc1ba442f462930f26955ac5d116f5c152dbda2a05139f1eb1870d20b9dc08"), looks := true }, kinds := [], alts := [], laidByText := true, laidKinds := [.data], laidTests := true, laidLooks := .later }
def WholeNothingCardSaid : Prop := Claim7.holds Tryz.pinned (.plain (OpenSpec.ofChange wholeNothingSpec)) wholeNothingCard

/-- THE SECOND FORM's CARD OF 'archipelagotop.WholeNothing'. -/
def wholeNothingUptoCard : Claim7 := { stood := { row := wholeNothingUptoRow, standIns := [], harness := (true, "3acc1ba442f462930f26955ac5d116f5c152dbda2a05139f1eb1870d20b9dc08"), looks := true }, kinds := [], alts := [], laidByText := true, laidKinds := [.data], laidTests := true, laidLooks := .later }
def WholeNothingUptoCardSaid : Prop := Claim7.holds Tryz.pinned (.plain (OpenSpec.upto wholeNothingSpec)) wholeNothingUptoCard
end Rows
end Go.Proofs.YtmdbmigbihboaaaGreatDoor
