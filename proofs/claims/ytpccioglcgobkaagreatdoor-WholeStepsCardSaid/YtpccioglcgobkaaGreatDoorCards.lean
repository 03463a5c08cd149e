/-
  DERIVED. GIVEN WITH THE SEED: THE CARDS: each row of YtpccioglcgobkaaGreatDoorRows.lean that lists a variable, with what it lists TIED to the program's text (the seventh form; the later family's looks); each row that meets fmt, with fmt's text TOLD by the authors' own Lean function (tested against real Go, not proved from fmt's source: count such statements apart). THE CARD IS WHAT COUNTS. Prove the row's statement (the work); the ties are given (YtpccioglcgobkaaGreatDoorTie.lean); close each card by the builder's one call (the guide's Derived/Test/ToyasCard.lean, 'card_holds'). Laid BY PROGRAM, IN A SANDBOX (cutbox-door.mjs). By AI agents, Wed Nov 11 2026. No macro, syntax, notation, axiom, sorry.
-/
import Derived.Test.YtpccioglcgobkaaGreatDoorRows
import GoSem.ClaimSeven
namespace Go.Proofs.YtpccioglcgobkaaGreatDoor
namespace Rows

/-- THE TIED CARD OF 'archipelagotop.WholeSteps'. -/
def wholeStepsCard : Claim7 := { stood := { row := wholeStepsRow, standIns := [], harness := (true, "ba1afb8b657d0145f2197caa47fc84b9b0a2f6868b369bede132a0b58f22512b"), looks := true }, kinds := [], alts := [], laidByText := true, laidKinds := [.data], laidTests := true, laidLooks := .later }
def WholeStepsCardSaid : Prop := Claim7.holds Tryz.pinned (.plain (OpenSpec.ofChange wholeStepsSpec)) wholeStepsCard

/-- THE SECOND FORM's CARD OF 'archipelagotop.WholeSteps'. -/
def wholeStepsUptoCard : Claim7 := { stood := { row := wholeStepsUptoRow, standIns := [], harness := (true, "ba1afb8b657d0145f2197caa47fc84b9b0a2f6868b369bede132a0b58f22512b"), looks := true }, kinds := [], alts := [], laidByText := true, laidKinds := [.data], laidTests := true, laidLooks := .later }
def WholeStepsUptoCardSaid : Prop := Claim7.holds Tryz.pinned (.plain (OpenSpec.upto wholeStepsSpec)) wholeStepsUptoCard
end Rows
end Go.Proofs.YtpccioglcgobkaaGreatDoor
