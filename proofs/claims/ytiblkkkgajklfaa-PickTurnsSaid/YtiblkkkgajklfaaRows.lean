/-
  No cell of these rows narrows 'for every input' (looked for: loops, veiled, ifaces, maps, wideKeys, modest, calm, conditions, laid).
  DERIVED. THE GIVEN ROWS OF THIS SEAT. 9 by the template 'for every input the law returns true; each argument reads behind the call as it read before'; 0 by the template 'total and deterministic' (their statements: YtiblkkkgajklfaaTotals.lean).
  GIVEN WITH THE SEED: the statements are not yours to turn. If you find one false, say at which input.
  Laid BY PROGRAM, IN A SANDBOX (cutbox-rows.mjs): the forced cells as the released guide's own fill.sh prints them over the translation 99a8f69fd3f56303… (all of the seat's roots in one cut). By AI agents, Wed Nov 11 2026. No macro, syntax, notation, axiom, sorry.
-/
import Derived.Test.YtiblkkkgajklfaaChecked
import GoSem.Claim
import GoSem.ClaimJoined
import GoSem.ClaimMapViews
import Derived.JoinedTies
import Derived.KernelRfl
namespace Go.Proofs.Ytiblkkkgajklfaa
/- THE CELL 'sum', in the pinned program and in every row, IS THE sha256 OF THE DUMP (.gsa) THAT YtiblkkkgajklfaaProg.lean LOADS. Nothing in Lean hashes anything: it is a label: what it is worth is what the hold of that sum in a sandbox is worth. -/
noncomputable def Try.pinned : Pinned := { name := "ytiblkkkgajklfaa", sum := "99a8f69fd3f563032a460825f09435f76c43c1ad03042cbdb102a6edb65394cb", checked := Try.checked }
namespace Rows
def none {H : Type} : Left H := { results := [], args := [] }

/-- 'archipelagolaw16.SumAnswers': WHATEVER THE INPUT: true; the input reads as it did. -/
def sumAnswersSpec : ChangeSpec := { name := "sumAnswers", fn := fun _ => fun
  | [d1, d2, d3] => { results := [.lit (.bool true)], args := [d1, d2, d3] }
  | _ => none }
def sumAnswersRow : OpenClaim := { program := "ytiblkkkgajklfaa", sum := "99a8f69fd3f563032a460825f09435f76c43c1ad03042cbdb102a6edb65394cb", func := "archipelago/archipelagolaw16.SumAnswers", spec := "sumAnswers", unfollowed := true, recurses := true, apart := false }
def SumAnswersSaid : Prop := sumAnswersRow.holds Try.pinned (OpenSpec.ofChange sumAnswersSpec)

/-- ITS FALSE NEIGHBOUR: 'it returns false'. Refute it at one input. -/
def sumAnswersWrong : ChangeSpec := { name := "sumAnswers", fn := fun _ => fun
  | [d1, d2, d3] => { results := [.lit (.bool false)], args := [d1, d2, d3] }
  | _ => none }
def SumAnswersWrongFalsely : Prop := sumAnswersRow.holds Try.pinned (OpenSpec.ofChange sumAnswersWrong)

/-- 'archipelagolaw16.SumBuilds': WHATEVER THE INPUT: true; the input reads as it did. -/
def sumBuildsSpec : ChangeSpec := { name := "sumBuilds", fn := fun _ => fun
  | [d1, d2, d3] => { results := [.lit (.bool true)], args := [d1, d2, d3] }
  | _ => none }
def sumBuildsRow : OpenClaim := { program := "ytiblkkkgajklfaa", sum := "99a8f69fd3f563032a460825f09435f76c43c1ad03042cbdb102a6edb65394cb", func := "archipelago/archipelagolaw16.SumBuilds", spec := "sumBuilds", unfollowed := true, recurses := true, apart := false }
def SumBuildsSaid : Prop := sumBuildsRow.holds Try.pinned (OpenSpec.ofChange sumBuildsSpec)

/-- ITS FALSE NEIGHBOUR: 'it returns false'. Refute it at one input. -/
def sumBuildsWrong : ChangeSpec := { name := "sumBuilds", fn := fun _ => fun
  | [d1, d2, d3] => { results := [.lit (.bool false)], args := [d1, d2, d3] }
  | _ => none }
def SumBuildsWrongFalsely : Prop := sumBuildsRow.holds Try.pinned (OpenSpec.ofChange sumBuildsWrong)

/-- 'archipelagolaw16.SumParts': WHATEVER THE INPUT: true; the input reads as it did. -/
def sumPartsSpec : ChangeSpec := { name := "sumParts", fn := fun _ => fun
  | [d1, d2, d3] => { results := [.lit (.bool true)], args := [d1, d2, d3] }
  | _ => none }
def sumPartsRow : OpenClaim := { program := "ytiblkkkgajklfaa", sum := "99a8f69fd3f563032a460825f09435f76c43c1ad03042cbdb102a6edb65394cb", func := "archipelago/archipelagolaw16.SumParts", spec := "sumParts", unfollowed := true, recurses := true, apart := false }
def SumPartsSaid : Prop := sumPartsRow.holds Try.pinned (OpenSpec.ofChange sumPartsSpec)

/-- ITS FALSE NEIGHBOUR: 'it returns false'. Refute it at one input. -/
def sumPartsWrong : ChangeSpec := { name := "sumParts", fn := fun _ => fun
  | [d1, d2, d3] => { results := [.lit (.bool false)], args := [d1, d2, d3] }
  | _ => none }
def SumPartsWrongFalsely : Prop := sumPartsRow.holds Try.pinned (OpenSpec.ofChange sumPartsWrong)

/-- 'archipelagolaw16.SumLast': WHATEVER THE INPUT: true; the input reads as it did. -/
def sumLastSpec : ChangeSpec := { name := "sumLast", fn := fun _ => fun
  | [d1, d2, d3] => { results := [.lit (.bool true)], args := [d1, d2, d3] }
  | _ => none }
def sumLastRow : OpenClaim := { program := "ytiblkkkgajklfaa", sum := "99a8f69fd3f563032a460825f09435f76c43c1ad03042cbdb102a6edb65394cb", func := "archipelago/archipelagolaw16.SumLast", spec := "sumLast", unfollowed := true, recurses := true, apart := false }
def SumLastSaid : Prop := sumLastRow.holds Try.pinned (OpenSpec.ofChange sumLastSpec)

/-- ITS FALSE NEIGHBOUR: 'it returns false'. Refute it at one input. -/
def sumLastWrong : ChangeSpec := { name := "sumLast", fn := fun _ => fun
  | [d1, d2, d3] => { results := [.lit (.bool false)], args := [d1, d2, d3] }
  | _ => none }
def SumLastWrongFalsely : Prop := sumLastRow.holds Try.pinned (OpenSpec.ofChange sumLastWrong)

/-- 'archipelagolaw16.SumAdds': WHATEVER THE INPUT: true; the input reads as it did. -/
def sumAddsSpec : ChangeSpec := { name := "sumAdds", fn := fun _ => fun
  | [d1, d2, d3] => { results := [.lit (.bool true)], args := [d1, d2, d3] }
  | _ => none }
def sumAddsRow : OpenClaim := { program := "ytiblkkkgajklfaa", sum := "99a8f69fd3f563032a460825f09435f76c43c1ad03042cbdb102a6edb65394cb", func := "archipelago/archipelagolaw16.SumAdds", spec := "sumAdds", unfollowed := true, recurses := true, apart := false }
def SumAddsSaid : Prop := sumAddsRow.holds Try.pinned (OpenSpec.ofChange sumAddsSpec)

/-- ITS FALSE NEIGHBOUR: 'it returns false'. Refute it at one input. -/
def sumAddsWrong : ChangeSpec := { name := "sumAdds", fn := fun _ => fun
  | [d1, d2, d3] => { results := [.lit (.bool false)], args := [d1, d2, d3] }
  | _ => none }
def SumAddsWrongFalsely : Prop := sumAddsRow.holds Try.pinned (OpenSpec.ofChange sumAddsWrong)

/-- 'archipelagolaw17.PickAnswers': WHATEVER THE INPUT: true; the input reads as it did. -/
def pickAnswersSpec : ChangeSpec := { name := "pickAnswers", fn := fun _ => fun
  | [d1, d2, d3] => { results := [.lit (.bool true)], args := [d1, d2, d3] }
  | _ => none }
def pickAnswersRow : OpenClaim := { program := "ytiblkkkgajklfaa", sum := "99a8f69fd3f563032a460825f09435f76c43c1ad03042cbdb102a6edb65394cb", func := "archipelago/archipelagolaw17.PickAnswers", spec := "pickAnswers", unfollowed := true, recurses := true, apart := false }
def PickAnswersSaid : Prop := pickAnswersRow.holds Try.pinned (OpenSpec.ofChange pickAnswersSpec)

/-- ITS FALSE NEIGHBOUR: 'it returns false'. Refute it at one input. -/
def pickAnswersWrong : ChangeSpec := { name := "pickAnswers", fn := fun _ => fun
  | [d1, d2, d3] => { results := [.lit (.bool false)], args := [d1, d2, d3] }
  | _ => none }
def PickAnswersWrongFalsely : Prop := pickAnswersRow.holds Try.pinned (OpenSpec.ofChange pickAnswersWrong)

/-- 'archipelagolaw17.PickTurns': WHATEVER THE INPUT: true; the input reads as it did. -/
def pickTurnsSpec : ChangeSpec := { name := "pickTurns", fn := fun _ => fun
  | [d1, d2, d3] => { results := [.lit (.bool true)], args := [d1, d2, d3] }
  | _ => none }
def pickTurnsRow : OpenClaim := { program := "ytiblkkkgajklfaa", sum := "99a8f69fd3f563032a460825f09435f76c43c1ad03042cbdb102a6edb65394cb", func := "archipelago/archipelagolaw17.PickTurns", spec := "pickTurns", unfollowed := true, recurses := true, apart := false }
def PickTurnsSaid : Prop := pickTurnsRow.holds Try.pinned (OpenSpec.ofChange pickTurnsSpec)

/-- ITS FALSE NEIGHBOUR: 'it returns false'. Refute it at one input. -/
def pickTurnsWrong : ChangeSpec := { name := "pickTurns", fn := fun _ => fun
  | [d1, d2, d3] => { results := [.lit (.bool false)], args := [d1, d2, d3] }
  | _ => none }
def PickTurnsWrongFalsely : Prop := pickTurnsRow.holds Try.pinned (OpenSpec.ofChange pickTurnsWrong)

/-- 'archipelagolaw17.PickInTurn': WHATEVER THE INPUT: true; the input reads as it did. -/
def pickInTurnSpec : ChangeSpec := { name := "pickInTurn", fn := fun _ => fun
  | [d1, d2, d3] => { results := [.lit (.bool true)], args := [d1, d2, d3] }
  | _ => none }
def pickInTurnRow : OpenClaim := { program := "ytiblkkkgajklfaa", sum := "99a8f69fd3f563032a460825f09435f76c43c1ad03042cbdb102a6edb65394cb", func := "archipelago/archipelagolaw17.PickInTurn", spec := "pickInTurn", unfollowed := true, recurses := true, apart := false }
def PickInTurnSaid : Prop := pickInTurnRow.holds Try.pinned (OpenSpec.ofChange pickInTurnSpec)

/-- ITS FALSE NEIGHBOUR: 'it returns false'. Refute it at one input. -/
def pickInTurnWrong : ChangeSpec := { name := "pickInTurn", fn := fun _ => fun
  | [d1, d2, d3] => { results := [.lit (.bool false)], args := [d1, d2, d3] }
  | _ => none }
def PickInTurnWrongFalsely : Prop := pickInTurnRow.holds Try.pinned (OpenSpec.ofChange pickInTurnWrong)

/-- 'archipelagolaw17.PickAll': WHATEVER THE INPUT: true; the input reads as it did. -/
def pickAllSpec : ChangeSpec := { name := "pickAll", fn := fun _ => fun
  | [d1, d2, d3] => { results := [.lit (.bool true)], args := [d1, d2, d3] }
  | _ => none }
def pickAllRow : OpenClaim := { program := "ytiblkkkgajklfaa", sum := "99a8f69fd3f563032a460825f09435f76c43c1ad03042cbdb102a6edb65394cb", func := "archipelago/archipelagolaw17.PickAll", spec := "pickAll", unfollowed := true, recurses := true, apart := false }
def PickAllSaid : Prop := pickAllRow.holds Try.pinned (OpenSpec.ofChange pickAllSpec)

/-- ITS FALSE NEIGHBOUR: 'it returns false'. Refute it at one input. -/
def pickAllWrong : ChangeSpec := { name := "pickAll", fn := fun _ => fun
  | [d1, d2, d3] => { results := [.lit (.bool false)], args := [d1, d2, d3] }
  | _ => none }
def PickAllWrongFalsely : Prop := pickAllRow.holds Try.pinned (OpenSpec.ofChange pickAllWrong)

/- THE SECOND FORM. 'bulk': how many values and letters a reading holds, each counted each time it is reached (what is shared counts as often as it is met; a slice's spare places count too). A statement '..UptoSaid' is the law's where the arguments, and the package variables that the reading takes, are together of bulk at most 1048576: NARROWER than '..Said'. Prove '..Said' where nothing that the law and all that it calls make is longer than what came in: it says more and counts as full. Else prove '..UptoSaid'. A law counts once. -/
mutual
def uptoBulk {H : Type} : DataW H → Nat
  | .lit (.string bytes) => bytes.length + 1
  | .lit _ => 1
  | .nil => 1
  | .ptr d => uptoBulk d + 1
  | .slice elems spare => uptoBulkAll elems + uptoBulkAll spare + 1
  | .agg parts => uptoBulkAll parts + 1
  | .iface _ d => uptoBulk d + 1
  | .map entries => uptoBulkEntries entries + 1
  | .held _ => 1
def uptoBulkAll {H : Type} : List (DataW H) → Nat
  | [] => 0
  | d :: r => uptoBulk d + uptoBulkAll r
def uptoBulkEntries {H : Type} : List (Lit × DataW H) → Nat
  | [] => 0
  | x :: r => uptoBulkEntry x + uptoBulkEntries r
def uptoBulkEntry {H : Type} : Lit × DataW H → Nat
  | (.string bytes, d) => bytes.length + uptoBulk d + 1
  | (_, d) => uptoBulk d + 1
 end
def uptoSmall : (H : Type) → List (DataW H) → Bool := fun _ ds => decide (uptoBulkAll ds ≤ 1048576)
def OpenSpec.upto (s : _root_.Go.ChangeSpec) : _root_.Go.OpenSpec := { _root_.Go.OpenSpec.ofChange s with cond := some uptoSmall }

/-- 'archipelagolaw16.SumAnswers', WHERE WHAT IT READS IS OF BULK AT MOST 1048576: true; the input reads as it did. -/
def sumAnswersUptoRow : OpenClaim := { program := "ytiblkkkgajklfaa", sum := "99a8f69fd3f563032a460825f09435f76c43c1ad03042cbdb102a6edb65394cb", func := "archipelago/archipelagolaw16.SumAnswers", spec := "sumAnswers", unfollowed := true, recurses := true, apart := false, narrowed := true }
def SumAnswersUptoSaid : Prop := sumAnswersUptoRow.holds Try.pinned (OpenSpec.upto sumAnswersSpec)

/-- 'archipelagolaw16.SumBuilds', WHERE WHAT IT READS IS OF BULK AT MOST 1048576: true; the input reads as it did. -/
def sumBuildsUptoRow : OpenClaim := { program := "ytiblkkkgajklfaa", sum := "99a8f69fd3f563032a460825f09435f76c43c1ad03042cbdb102a6edb65394cb", func := "archipelago/archipelagolaw16.SumBuilds", spec := "sumBuilds", unfollowed := true, recurses := true, apart := false, narrowed := true }
def SumBuildsUptoSaid : Prop := sumBuildsUptoRow.holds Try.pinned (OpenSpec.upto sumBuildsSpec)

/-- 'archipelagolaw16.SumParts', WHERE WHAT IT READS IS OF BULK AT MOST 1048576: true; the input reads as it did. -/
def sumPartsUptoRow : OpenClaim := { program := "ytiblkkkgajklfaa", sum := "99a8f69fd3f563032a460825f09435f76c43c1ad03042cbdb102a6edb65394cb", func := "archipelago/archipelagolaw16.SumParts", spec := "sumParts", unfollowed := true, recurses := true, apart := false, narrowed := true }
def SumPartsUptoSaid : Prop := sumPartsUptoRow.holds Try.pinned (OpenSpec.upto sumPartsSpec)

/-- 'archipelagolaw16.SumLast', WHERE WHAT IT READS IS OF BULK AT MOST 1048576: true; the input reads as it did. -/
def sumLastUptoRow : OpenClaim := { program := "ytiblkkkgajklfaa", sum := "99a8f69fd3f563032a460825f09435f76c43c1ad03042cbdb102a6edb65394cb", func := "archipelago/archipelagolaw16.SumLast", spec := "sumLast", unfollowed := true, recurses := true, apart := false, narrowed := true }
def SumLastUptoSaid : Prop := sumLastUptoRow.holds Try.pinned (OpenSpec.upto sumLastSpec)

/-- 'archipelagolaw16.SumAdds', WHERE WHAT IT READS IS OF BULK AT MOST 1048576: true; the input reads as it did. -/
def sumAddsUptoRow : OpenClaim := { program := "ytiblkkkgajklfaa", sum := "99a8f69fd3f563032a460825f09435f76c43c1ad03042cbdb102a6edb65394cb", func := "archipelago/archipelagolaw16.SumAdds", spec := "sumAdds", unfollowed := true, recurses := true, apart := false, narrowed := true }
def SumAddsUptoSaid : Prop := sumAddsUptoRow.holds Try.pinned (OpenSpec.upto sumAddsSpec)

/-- 'archipelagolaw17.PickAnswers', WHERE WHAT IT READS IS OF BULK AT MOST 1048576: true; the input reads as it did. -/
def pickAnswersUptoRow : OpenClaim := { program := "ytiblkkkgajklfaa", sum := "99a8f69fd3f563032a460825f09435f76c43c1ad03042cbdb102a6edb65394cb", func := "archipelago/archipelagolaw17.PickAnswers", spec := "pickAnswers", unfollowed := true, recurses := true, apart := false, narrowed := true }
def PickAnswersUptoSaid : Prop := pickAnswersUptoRow.holds Try.pinned (OpenSpec.upto pickAnswersSpec)

/-- 'archipelagolaw17.PickTurns', WHERE WHAT IT READS IS OF BULK AT MOST 1048576: true; the input reads as it did. -/
def pickTurnsUptoRow : OpenClaim := { program := "ytiblkkkgajklfaa", sum := "99a8f69fd3f563032a460825f09435f76c43c1ad03042cbdb102a6edb65394cb", func := "archipelago/archipelagolaw17.PickTurns", spec := "pickTurns", unfollowed := true, recurses := true, apart := false, narrowed := true }
def PickTurnsUptoSaid : Prop := pickTurnsUptoRow.holds Try.pinned (OpenSpec.upto pickTurnsSpec)

/-- 'archipelagolaw17.PickInTurn', WHERE WHAT IT READS IS OF BULK AT MOST 1048576: true; the input reads as it did. -/
def pickInTurnUptoRow : OpenClaim := { program := "ytiblkkkgajklfaa", sum := "99a8f69fd3f563032a460825f09435f76c43c1ad03042cbdb102a6edb65394cb", func := "archipelago/archipelagolaw17.PickInTurn", spec := "pickInTurn", unfollowed := true, recurses := true, apart := false, narrowed := true }
def PickInTurnUptoSaid : Prop := pickInTurnUptoRow.holds Try.pinned (OpenSpec.upto pickInTurnSpec)

/-- 'archipelagolaw17.PickAll', WHERE WHAT IT READS IS OF BULK AT MOST 1048576: true; the input reads as it did. -/
def pickAllUptoRow : OpenClaim := { program := "ytiblkkkgajklfaa", sum := "99a8f69fd3f563032a460825f09435f76c43c1ad03042cbdb102a6edb65394cb", func := "archipelago/archipelagolaw17.PickAll", spec := "pickAll", unfollowed := true, recurses := true, apart := false, narrowed := true }
def PickAllUptoSaid : Prop := pickAllUptoRow.holds Try.pinned (OpenSpec.upto pickAllSpec)

end Rows
end Go.Proofs.Ytiblkkkgajklfaa
