/-
  NARROWER THAN 'FOR EVERY INPUT', by the rows' own cells (each row's printed sentence says how): CoinAnswers: laid · CoinMixes: laid · CoinBack: laid · CoinParts: laid · CoinMixed: laid.
  DERIVED. THE GIVEN ROWS OF THIS SEAT. 5 by the template 'for every input the law returns true; each argument reads behind the call as it read before'; 0 by the template 'total and deterministic' (their statements: YtomeobkobohhjaaDoorTotals.lean).
  GIVEN WITH THE SEED: the statements are not yours to turn. If you find one false, say at which input.
  Laid BY PROGRAM, IN A SANDBOX (cutbox-rows.mjs): the forced cells as the released guide's own fill.sh prints them over the translation f035fd77c61c17e8… (all of the seat's roots in one cut). By AI agents, Wed Nov 11 2026. No macro, syntax, notation, axiom, sorry.
-/
import Derived.Test.YtomeobkobohhjaaDoorChecked
import GoSem.Claim
import GoSem.ClaimJoined
import GoSem.ClaimMapViews
import Derived.JoinedTies
import Derived.KernelRfl
namespace Go.Proofs.YtomeobkobohhjaaDoor
/- THE CELL 'sum', in the pinned program and in every row, IS THE sha256 OF THE DUMP (.gsa) THAT YtomeobkobohhjaaDoorProg.lean LOADS. Nothing in Lean hashes anything: it is a label: what it is worth is what the hold of that sum in a sandbox is worth. -/
noncomputable def Tryd.pinned : Pinned := { name := "ytomeobkobohhjaadoor", sum := "f035fd77c61c17e88c5f2632837cc3a02c32d2abfc5942a50ee81753411f252d", checked := Tryd.checked }
namespace Rows
def none {H : Type} : Left H := { results := [], args := [] }

/- WHAT THE LISTED PACKAGE-LEVEL VARIABLES READ AS WHEN THE CALL BEGINS. Each datum BY PROGRAM (the guide's laid-datum.mjs) off the statement by which the dump's own 'gosem.cut.vars' lays the variable. In a bare row this is a premise. The card (YtomeobkobohhjaaDoorCards.lean) ties it to the program's text. -/
def laid_math_bits_deBruijn32tab {H : Type} : DataW H := .agg [.lit (.int .u8 0), .lit (.int .u8 1), .lit (.int .u8 28), .lit (.int .u8 2), .lit (.int .u8 29), .lit (.int .u8 14), .lit (.int .u8 24), .lit (.int .u8 3), .lit (.int .u8 30), .lit (.int .u8 22), .lit (.int .u8 20), .lit (.int .u8 15), .lit (.int .u8 25), .lit (.int .u8 17), .lit (.int .u8 4), .lit (.int .u8 8), .lit (.int .u8 31), .lit (.int .u8 27), .lit (.int .u8 13), .lit (.int .u8 23), .lit (.int .u8 21), .lit (.int .u8 19), .lit (.int .u8 16), .lit (.int .u8 7), .lit (.int .u8 26), .lit (.int .u8 12), .lit (.int .u8 18), .lit (.int .u8 6), .lit (.int .u8 11), .lit (.int .u8 5), .lit (.int .u8 10), .lit (.int .u8 9)]

/-- 'archipelagolaw01.CoinAnswers': WHATEVER THE INPUT: true; the input reads as it did. -/
def coinAnswersSpec : ChangeSpec := { name := "coinAnswers", fn := fun _ => fun
  | [d1, d2, d3] => { results := [.lit (.bool true)], args := [d1, d2, d3] }
  | _ => none }
def coinAnswersRow : OpenClaim := { program := "ytomeobkobohhjaadoor", sum := "f035fd77c61c17e88c5f2632837cc3a02c32d2abfc5942a50ee81753411f252d", func := "archipelago/archipelagolaw01.CoinAnswers", spec := "coinAnswers", named := ["math/bits.deBruijn32tab"], apart := false, laid := [("math/bits.deBruijn32tab", laid_math_bits_deBruijn32tab)] }
def CoinAnswersSaid : Prop := coinAnswersRow.holds Tryd.pinned (OpenSpec.ofChange coinAnswersSpec)

/-- ITS FALSE NEIGHBOUR: 'it returns false'. Refute it at one input. -/
def coinAnswersWrong : ChangeSpec := { name := "coinAnswers", fn := fun _ => fun
  | [d1, d2, d3] => { results := [.lit (.bool false)], args := [d1, d2, d3] }
  | _ => none }
def CoinAnswersWrongFalsely : Prop := coinAnswersRow.holds Tryd.pinned (OpenSpec.ofChange coinAnswersWrong)

/-- 'archipelagolaw01.CoinMixes': WHATEVER THE INPUT: true; the input reads as it did. -/
def coinMixesSpec : ChangeSpec := { name := "coinMixes", fn := fun _ => fun
  | [d1, d2, d3] => { results := [.lit (.bool true)], args := [d1, d2, d3] }
  | _ => none }
def coinMixesRow : OpenClaim := { program := "ytomeobkobohhjaadoor", sum := "f035fd77c61c17e88c5f2632837cc3a02c32d2abfc5942a50ee81753411f252d", func := "archipelago/archipelagolaw01.CoinMixes", spec := "coinMixes", named := ["math/bits.deBruijn32tab"], apart := false, laid := [("math/bits.deBruijn32tab", laid_math_bits_deBruijn32tab)] }
def CoinMixesSaid : Prop := coinMixesRow.holds Tryd.pinned (OpenSpec.ofChange coinMixesSpec)

/-- ITS FALSE NEIGHBOUR: 'it returns false'. Refute it at one input. -/
def coinMixesWrong : ChangeSpec := { name := "coinMixes", fn := fun _ => fun
  | [d1, d2, d3] => { results := [.lit (.bool false)], args := [d1, d2, d3] }
  | _ => none }
def CoinMixesWrongFalsely : Prop := coinMixesRow.holds Tryd.pinned (OpenSpec.ofChange coinMixesWrong)

/-- 'archipelagolaw01.CoinBack': WHATEVER THE INPUT: true; the input reads as it did. -/
def coinBackSpec : ChangeSpec := { name := "coinBack", fn := fun _ => fun
  | [d1, d2, d3] => { results := [.lit (.bool true)], args := [d1, d2, d3] }
  | _ => none }
def coinBackRow : OpenClaim := { program := "ytomeobkobohhjaadoor", sum := "f035fd77c61c17e88c5f2632837cc3a02c32d2abfc5942a50ee81753411f252d", func := "archipelago/archipelagolaw01.CoinBack", spec := "coinBack", named := ["math/bits.deBruijn32tab"], apart := false, laid := [("math/bits.deBruijn32tab", laid_math_bits_deBruijn32tab)] }
def CoinBackSaid : Prop := coinBackRow.holds Tryd.pinned (OpenSpec.ofChange coinBackSpec)

/-- ITS FALSE NEIGHBOUR: 'it returns false'. Refute it at one input. -/
def coinBackWrong : ChangeSpec := { name := "coinBack", fn := fun _ => fun
  | [d1, d2, d3] => { results := [.lit (.bool false)], args := [d1, d2, d3] }
  | _ => none }
def CoinBackWrongFalsely : Prop := coinBackRow.holds Tryd.pinned (OpenSpec.ofChange coinBackWrong)

/-- 'archipelagolaw01.CoinParts': WHATEVER THE INPUT: true; the input reads as it did. -/
def coinPartsSpec : ChangeSpec := { name := "coinParts", fn := fun _ => fun
  | [d1, d2] => { results := [.lit (.bool true)], args := [d1, d2] }
  | _ => none }
def coinPartsRow : OpenClaim := { program := "ytomeobkobohhjaadoor", sum := "f035fd77c61c17e88c5f2632837cc3a02c32d2abfc5942a50ee81753411f252d", func := "archipelago/archipelagolaw01.CoinParts", spec := "coinParts", named := ["math/bits.deBruijn32tab"], apart := false, laid := [("math/bits.deBruijn32tab", laid_math_bits_deBruijn32tab)] }
def CoinPartsSaid : Prop := coinPartsRow.holds Tryd.pinned (OpenSpec.ofChange coinPartsSpec)

/-- ITS FALSE NEIGHBOUR: 'it returns false'. Refute it at one input. -/
def coinPartsWrong : ChangeSpec := { name := "coinParts", fn := fun _ => fun
  | [d1, d2] => { results := [.lit (.bool false)], args := [d1, d2] }
  | _ => none }
def CoinPartsWrongFalsely : Prop := coinPartsRow.holds Tryd.pinned (OpenSpec.ofChange coinPartsWrong)

/-- 'archipelagolaw01.CoinMixed': WHATEVER THE INPUT: true; the input reads as it did. -/
def coinMixedSpec : ChangeSpec := { name := "coinMixed", fn := fun _ => fun
  | [d1, d2, d3] => { results := [.lit (.bool true)], args := [d1, d2, d3] }
  | _ => none }
def coinMixedRow : OpenClaim := { program := "ytomeobkobohhjaadoor", sum := "f035fd77c61c17e88c5f2632837cc3a02c32d2abfc5942a50ee81753411f252d", func := "archipelago/archipelagolaw01.CoinMixed", spec := "coinMixed", named := ["math/bits.deBruijn32tab"], apart := false, laid := [("math/bits.deBruijn32tab", laid_math_bits_deBruijn32tab)] }
def CoinMixedSaid : Prop := coinMixedRow.holds Tryd.pinned (OpenSpec.ofChange coinMixedSpec)

/-- ITS FALSE NEIGHBOUR: 'it returns false'. Refute it at one input. -/
def coinMixedWrong : ChangeSpec := { name := "coinMixed", fn := fun _ => fun
  | [d1, d2, d3] => { results := [.lit (.bool false)], args := [d1, d2, d3] }
  | _ => none }
def CoinMixedWrongFalsely : Prop := coinMixedRow.holds Tryd.pinned (OpenSpec.ofChange coinMixedWrong)

/- THE SECOND FORM. 'bulk': how many values and letters a reading holds, each counted each time it is reached (what is shared counts as often as it is met; a slice's spare places count too). A statement '..UptoSaid' is the law's where the arguments, and the package variables that the reading takes, are together of bulk at most 1048576: NARROWER than '..Said'. Prove '..Said' where nothing that the law and all that it calls make is longer than what came in: it says more and counts as full. Else prove '..UptoSaid'. A law counts once. -/
mutual
def uptoBulk {H : Type} : DataW H → Nat
  | .lit (.string bytes) => bytes.length + 1
  | .lit _ => 1
  | .nil => 1
  | .ptr d => uptoBulk d + 1
  | .slice elems spare => uptoBulkAll elems + uptoBulkAll spare + 1
  | .agg parts => uptoBulkAll parts + 1
  | .iface _ d => uptoBulk d + 1
  | .map entries => uptoBulkEntries entries + 1
  | .held _ => 1
def uptoBulkAll {H : Type} : List (DataW H) → Nat
  | [] => 0
  | d :: r => uptoBulk d + uptoBulkAll r
def uptoBulkEntries {H : Type} : List (Lit × DataW H) → Nat
  | [] => 0
  | x :: r => uptoBulkEntry x + uptoBulkEntries r
def uptoBulkEntry {H : Type} : Lit × DataW H → Nat
  | (.string bytes, d) => bytes.length + uptoBulk d + 1
  | (_, d) => uptoBulk d + 1
 end
def uptoSmall : (H : Type) → List (DataW H) → Bool := fun _ ds => decide (uptoBulkAll ds ≤ 1048576)
def OpenSpec.upto (s : _root_.Go.ChangeSpec) : _root_.Go.OpenSpec := { _root_.Go.OpenSpec.ofChange s with cond := some uptoSmall }

/-- 'archipelagolaw01.CoinAnswers', WHERE WHAT IT READS IS OF BULK AT MOST 1048576: true; the input reads as it did. -/
def coinAnswersUptoRow : OpenClaim := { program := "ytomeobkobohhjaadoor", sum := "f035fd77c61c17e88c5f2632837cc3a02c32d2abfc5942a50ee81753411f252d", func := "archipelago/archipelagolaw01.CoinAnswers", spec := "coinAnswers", named := ["math/bits.deBruijn32tab"], apart := false, laid := [("math/bits.deBruijn32tab", laid_math_bits_deBruijn32tab)], narrowed := true }
def CoinAnswersUptoSaid : Prop := coinAnswersUptoRow.holds Tryd.pinned (OpenSpec.upto coinAnswersSpec)

/-- 'archipelagolaw01.CoinMixes', WHERE WHAT IT READS IS OF BULK AT MOST 1048576: true; the input reads as it did. -/
def coinMixesUptoRow : OpenClaim := { program := "ytomeobkobohhjaadoor", sum := "f035fd77c61c17e88c5f2632837cc3a02c32d2abfc5942a50ee81753411f252d", func := "archipelago/archipelagolaw01.CoinMixes", spec := "coinMixes", named := ["math/bits.deBruijn32tab"], apart := false, laid := [("math/bits.deBruijn32tab", laid_math_bits_deBruijn32tab)], narrowed := true }
def CoinMixesUptoSaid : Prop := coinMixesUptoRow.holds Tryd.pinned (OpenSpec.upto coinMixesSpec)

/-- 'archipelagolaw01.CoinBack', WHERE WHAT IT READS IS OF BULK AT MOST 1048576: true; the input reads as it did. -/
def coinBackUptoRow : OpenClaim := { program := "ytomeobkobohhjaadoor", sum := "f035fd77c61c17e88c5f2632837cc3a02c32d2abfc5942a50ee81753411f252d", func := "archipelago/archipelagolaw01.CoinBack", spec := "coinBack", named := ["math/bits.deBruijn32tab"], apart := false, laid := [("math/bits.deBruijn32tab", laid_math_bits_deBruijn32tab)], narrowed := true }
def CoinBackUptoSaid : Prop := coinBackUptoRow.holds Tryd.pinned (OpenSpec.upto coinBackSpec)

/-- 'archipelagolaw01.CoinParts', WHERE WHAT IT READS IS OF BULK AT MOST 1048576: true; the input reads as it did. -/
def coinPartsUptoRow : OpenClaim := { program := "ytomeobkobohhjaadoor", sum := "f035fd77c61c17e88c5f2632837cc3a02c32d2abfc5942a50ee81753411f252d", func := "archipelago/archipelagolaw01.CoinParts", spec := "coinParts", named := ["math/bits.deBruijn32tab"], apart := false, laid := [("math/bits.deBruijn32tab", laid_math_bits_deBruijn32tab)], narrowed := true }
def CoinPartsUptoSaid : Prop := coinPartsUptoRow.holds Tryd.pinned (OpenSpec.upto coinPartsSpec)

/-- 'archipelagolaw01.CoinMixed', WHERE WHAT IT READS IS OF BULK AT MOST 1048576: true; the input reads as it did. -/
def coinMixedUptoRow : OpenClaim := { program := "ytomeobkobohhjaadoor", sum := "f035fd77c61c17e88c5f2632837cc3a02c32d2abfc5942a50ee81753411f252d", func := "archipelago/archipelagolaw01.CoinMixed", spec := "coinMixed", named := ["math/bits.deBruijn32tab"], apart := false, laid := [("math/bits.deBruijn32tab", laid_math_bits_deBruijn32tab)], narrowed := true }
def CoinMixedUptoSaid : Prop := coinMixedUptoRow.holds Tryd.pinned (OpenSpec.upto coinMixedSpec)

end Rows
end Go.Proofs.YtomeobkobohhjaaDoor
