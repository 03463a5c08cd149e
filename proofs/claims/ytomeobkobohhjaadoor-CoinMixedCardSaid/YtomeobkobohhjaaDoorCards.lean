/-
  DERIVED. GIVEN WITH THE SEED: THE CARDS: each row of YtomeobkobohhjaaDoorRows.lean that lists a variable, with what it lists TIED to the program's text (the seventh form; the later family's looks); each row that meets fmt, with fmt's text TOLD by the authors' own Lean function (tested against real Go, not proved from fmt's source: count such statements apart). THE CARD IS WHAT COUNTS. Prove the row's statement (the work); the ties are given (YtomeobkobohhjaaDoorTie.lean); close each card by the builder's one call (the guide's Derived/Test/ToyasCard.lean, 'card_holds'). Laid BY PROGRAM, IN A SANDBOX (cutbox-door.mjs). By AI agents, Wed Nov 11 2026. No macro, syntax, notation, axiom, sorry.
-/
import Derived.Test.YtomeobkobohhjaaDoorRows
import GoSem.ClaimSeven
namespace Go.Proofs.YtomeobkobohhjaaDoor
namespace Rows

/-- THE TIED CARD OF 'archipelagolaw01.CoinAnswers'. -/
def coinAnswersCard : Claim7 := { stood := { row := coinAnswersRow, standIns := [], harness := (true, "3dff4b266a36d1deb91600a4a675ccf56ada8666c9e740268b5ebe9027b73f11"), looks := false }, kinds := [], alts := [], laidByText := true, laidKinds := [.data], laidTests := true, laidLooks := .later }
def CoinAnswersCardSaid : Prop := Claim7.holds Tryd.pinned (.plain (OpenSpec.ofChange coinAnswersSpec)) coinAnswersCard

/-- THE TIED CARD OF 'archipelagolaw01.CoinMixes'. -/
def coinMixesCard : Claim7 := { stood := { row := coinMixesRow, standIns := [], harness := (true, "3dff4b266a36d1deb91600a4a675ccf56ada8666c9e740268b5ebe9027b73f11"), looks := false }, kinds := [], alts := [], laidByText := true, laidKinds := [.data], laidTests := true, laidLooks := .later }
def CoinMixesCardSaid : Prop := Claim7.holds Tryd.pinned (.plain (OpenSpec.ofChange coinMixesSpec)) coinMixesCard

/-- THE TIED CARD OF 'archipelagolaw01.CoinBack'. -/
def coinBackCard : Claim7 := { stood := { row := coinBackRow, standIns := [], harness := (true, "3dff4b266a36d1deb91600a4a675ccf56ada8666c9e740268b5ebe9027b73f11"), looks := false }, kinds := [], alts := [], laidByText := true, laidKinds := [.data], laidTests := true, laidLooks := .later }
def CoinBackCardSaid : Prop := Claim7.holds Tryd.pinned (.plain (OpenSpec.ofChange coinBackSpec)) coinBackCard

/-- THE TIED CARD OF 'archipelagolaw01.CoinParts'. -/
def coinPartsCard : Claim7 := { stood := { row := coinPartsRow, standIns := [], harness := (true, "3dff4b266a36d1deb91600a4a675ccf56ada8666c9e740268b5ebe9027b73f11"), looks := false }, kinds := [], alts := [], laidByText := true, laidKinds := [.data], laidTests := true, laidLooks := .later }
def CoinPartsCardSaid : Prop := Claim7.holds Tryd.pinned (.plain (OpenSpec.ofChange coinPartsSpec)) coinPartsCard

/-- THE TIED CARD OF 'archipelagolaw01.CoinMixed'. -/
def coinMixedCard : Claim7 := { stood := { row := coinMixedRow, standIns := [], harness := (true, "3dff4b266a36d1deb91600a4a675ccf56ada8666c9e740268b5ebe9027b73f11"), looks := false }, kinds := [], alts := [], laidByText := true, laidKinds := [.data], laidTests := true, laidLooks := .later }
def CoinMixedCardSaid : Prop := Claim7.holds Tryd.pinned (.plain (OpenSpec.ofChange coinMixedSpec)) coinMixedCard

/-- THE SECOND FORM's CARD OF 'archipelagolaw01.CoinAnswers'. -/
def coinAnswersUptoCard : Claim7 := { stood := { row := coinAnswersUptoRow, standIns := [], harness := (true, "3dff4b266a36d1deb91600a4a675ccf56ada8666c9e740268b5ebe9027b73f11"), looks := false }, kinds := [], alts := [], laidByText := true, laidKinds := [.data], laidTests := true, laidLooks := .later }
def CoinAnswersUptoCardSaid : Prop := Claim7.holds Tryd.pinned (.plain (OpenSpec.upto coinAnswersSpec)) coinAnswersUptoCard

/-- THE SECOND FORM's CARD OF 'archipelagolaw01.CoinMixes'. -/
def coinMixesUptoCard : Claim7 := { stood := { row := coinMixesUptoRow, standIns := [], harness := (true, "3dff4b266a36d1deb91600a4a675ccf56ada8666c9e740268b5ebe9027b73f11"), looks := false }, kinds := [], alts := [], laidByText := true, laidKinds := [.data], laidTests := true, laidLooks := .later }
def CoinMixesUptoCardSaid : Prop := Claim7.holds Tryd.pinned (.plain (OpenSpec.upto coinMixesSpec)) coinMixesUptoCard

/-- THE SECOND FORM's CARD OF 'archipelagolaw01.CoinBack'. -/
def coinBackUptoCard : Claim7 := { stood := { row := coinBackUptoRow, standIns := [], harness := (true, "3dff4b266a36d1deb91600a4a675ccf56ada8666c9e740268b5ebe9027b73f11"), looks := false }, kinds := [], alts := [], laidByText := true, laidKinds := [.data], laidTests := true, laidLooks := .later }
def CoinBackUptoCardSaid : Prop := Claim7.holds Tryd.pinned (.plain (OpenSpec.upto coinBackSpec)) coinBackUptoCard

/-- THE SECOND FORM's CARD OF 'archipelagolaw01.CoinParts'. -/
def coinPartsUptoCard : Claim7 := { stood := { row := coinPartsUptoRow, standIns := [], harness := (true, "3dff4b266a36d1deb91600a4a675ccf56ada8666c9e740268b5ebe9027b73f11"), looks := false }, kinds := [], alts := [], laidByText := true, laidKinds := [.data], laidTests := true, laidLooks := .later }
def CoinPartsUptoCardSaid : Prop := Claim7.holds Tryd.pinned (.plain (OpenSpec.upto coinPartsSpec)) coinPartsUptoCard

/-- THE SECOND FORM's CARD OF 'archipelagolaw01.CoinMixed'. -/
def coinMixedUptoCard : Claim7 := { stood := { row := coinMixedUptoRow, standIns := [], harness := (true, "3dff4b266a36d1deb91600a4a675ccf56ada8666c9e740268b5ebe9027b73f11"), looks := false }, kinds := [], alts := [], laidByText := true, laidKinds := [.data], laidTests := true, laidLooks := .later }
def CoinMixedUptoCardSaid : Prop := Claim7.holds Tryd.pinned (.plain (OpenSpec.upto coinMixedSpec)) coinMixedUptoCard
end Rows
end Go.Proofs.YtomeobkobohhjaaDoor
