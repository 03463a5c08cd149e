/-
  DERIVED. GIVEN WITH THE SEED: THE CARDS: each row of YtillffjlojlhoaaGreatDoorRows.lean that lists a variable, with what it lists TIED to the program's text (the seventh form; the later family's looks); each row that meets fmt, with fmt's text TOLD by the authors' own Lean function (tested against real Go, not proved from fmt's source: count such statements apart). THE CARD IS WHAT COUNTS. Prove the row's statement (the work); the ties are given (YtillffjlojlhoaaGreatDoorTie.lean); close each card by the builder's one call (the guide's Derived/Test/ToyasCard.lean, 'card_holds'). Laid BY PROGRAM, IN A SANDBOX (cutbox-door.mjs). By AI agents, Wed Nov 11 2026. No macro, syntax, notation, axiom, sorry.
-/
import Derived.Test.YtillffjlojlhoaaGreatDoorRows
import GoSem.ClaimSeven
namespace Go.Proofs.YtillffjlojlhoaaGreatDoor
namespace Rows

/-- THE TIED CARD OF 'archipelagotop.WholeSound'. -/
def wholeSoundCard : Claim7 := { stood := { row := wholeSoundRow, standIns := [], harness := (true, "75e1da46e1c16faf42c71d4eead1fac8df37530c526019fe996678addc53d7bb"), looks := true }, kinds := [], alts := [], laidByText := true, laidKinds := [.data], laidTests := true, laidLooks := .later }
def WholeSoundCardSaid : Prop := Claim7.holds Tryz.pinned (.plain (OpenSpec.ofChange wholeSoundSpec)) wholeSoundCard

/-- THE SECOND FORM's CARD OF 'archipelagotop.WholeSound'. -/
def wholeSoundUptoCard : Claim7 := { stood := { row := wholeSoundUptoRow, standIns := [], harness := (true, "75e1da46e1c16faf42c71d4eead1fac8df37530c526019fe996678addc53d7bb"), looks := true }, kinds := [], alts := [], laidByText := true, laidKinds := [.data], laidTests := true, laidLooks := .later }
def WholeSoundUptoCardSaid : Prop := Claim7.holds Tryz.pinned (.plain (OpenSpec.upto wholeSoundSpec)) wholeSoundUptoCard
end Rows
end Go.Proofs.YtillffjlojlhoaaGreatDoor
