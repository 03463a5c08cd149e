/-
  DERIVED. GIVEN WITH THE SEED: THE CARDS: each row of YtpndmjnaljjbaaaGreatDoorRows.lean that lists a variable, with what it lists TIED to the program's text (the seventh form; the later family's looks); each row that meets fmt, with fmt's text TOLD by the authors' own Lean function (tested against real Go, not proved from fmt's source: count such statements apart). THE CARD IS WHAT COUNTS. Prove the row's statement (the work); the ties are given (YtpndmjnaljjbaaaGreatDoorTie.lean); close each card by the builder's one call (the guide's Derived/Test/ToyasCard.lean, 'card_holds'). Laid BY PROGRAM, IN A SANDBOX (cutbox-door.mjs). By AI agents, Wed Nov 11 2026. No macro, syntax, notation, axiom, sorry.
-/
import Derived.Test.YtpndmjnaljjbaaaGreatDoorRows
import GoSem.ClaimSeven
namespace Go.Proofs.YtpndmjnaljjbaaaGreatDoor
namespace Rows

/-- THE TIED CARD OF 'archipelagotop.WholeRefused'. -/
def wholeRefusedCard : Claim7 := { stood := { row := wholeRefusedRow, standIns := [], harness := (true, "70738833bd4d32ea68cbda4a8a238ef9b9508a28f183e87a10677f0b9a79bf45"), looks := true }, kinds := [], alts := [], laidByText := true, laidKinds := [.data], laidTests := true, laidLooks := .later }
def WholeRefusedCardSaid : Prop := Claim7.holds Tryz.pinned (.plain (OpenSpec.ofChange wholeRefusedSpec)) wholeRefusedCard

/-- THE SECOND FORM's CARD OF 'archipelagotop.WholeRefused'. -/
def wholeRefusedUptoCard : Claim7 := { stood := { row := wholeRefusedUptoRow, standIns := [], harness := (true, "70738833bd4d32ea68cbda4a8a238ef9b9508a28f183e87a10677f0b9a79bf45"), looks := true }, kinds := [], alts := [], laidByText := true, laidKinds := [.data], laidTests := true, laidLooks := .later }
def WholeRefusedUptoCardSaid : Prop := Claim7.holds Tryz.pinned (.plain (OpenSpec.upto wholeRefusedSpec)) wholeRefusedUptoCard
end Rows
end Go.Proofs.YtpndmjnaljjbaaaGreatDoor
