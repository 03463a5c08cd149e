/-
  No cell of these rows narrows 'for every input' (looked for: loops, veiled, ifaces, maps, wideKeys, modest, calm, conditions, laid).
  DERIVED. THE GIVEN ROWS OF THIS SEAT. 4 by the template 'for every input the law returns true; each argument reads behind the call as it read before'; 0 by the template 'total and deterministic' (their statements: YtmgjokihljeemaaTotals.lean).
  GIVEN WITH THE SEED: the statements are not yours to turn. If you find one false, say at which input.
  Laid BY PROGRAM, IN A SANDBOX (cutbox-rows.mjs): the forced cells as the released guide's own fill.sh prints them over the translation a6e02d30178acaa6… (all of the seat's roots in one cut). By AI agents, Wed Nov 11 2026. No macro, syntax, notation, axiom, sorry.
-/
import Derived.Test.YtmgjokihljeemaaChecked
import GoSem.Claim
import GoSem.ClaimJoined
import GoSem.ClaimMapViews
import Derived.JoinedTies
import Derived.KernelRfl
namespace Go.Proofs.Ytmgjokihljeemaa
/- THE CELL 'sum', in the pinned program and in every row, IS THE sha256 OF THE DUMP (.gsa) THAT YtmgjokihljeemaaProg.lean LOADS. Nothing in Lean hashes anything: it is a label: what it is worth is what the hold of that sum in a sandbox is worth. -/
noncomputable def Try.pinned : Pinned := { name := "ytmgjokihljeemaa", sum := "a6e02d30178acaa656510f0d9b168367829de4df1ec33e8f85eade65075d719a", checked := Try.checked }
namespace Rows
def none {H : Type} : Left H := { results := [], args := [] }

/-- 'archipelagolaw20.SpanAnswers': WHATEVER THE INPUT: true; the input reads as it did. -/
def spanAnswersSpec : ChangeSpec := { name := "spanAnswers", fn := fun _ => fun
  | [d1, d2, d3] => { results := [.lit (.bool true)], args := [d1, d2, d3] }
  | _ => none }
def spanAnswersRow : OpenClaim := { program := "ytmgjokihljeemaa", sum := "a6e02d30178acaa656510f0d9b168367829de4df1ec33e8f85eade65075d719a", func := "archipelago/archipelagolaw20.SpanAnswers", spec := "spanAnswers", unfollowed := true, recurses := true, apart := false }
def SpanAnswersSaid : Prop := spanAnswersRow.holds Try.pinned (OpenSpec.ofChange spanAnswersSpec)

/-- ITS FALSE NEIGHBOUR: 'it returns false'. Refute it at one input. -/
def spanAnswersWrong : ChangeSpec := { name := "spanAnswers", fn := fun _ => fun
  | [d1, d2, d3] => { results := [.lit (.bool false)], args := [d1, d2, d3] }
  | _ => none }
def SpanAnswersWrongFalsely : Prop := spanAnswersRow.holds Try.pinned (OpenSpec.ofChange spanAnswersWrong)

/-- 'archipelagolaw20.SpanFew': WHATEVER THE INPUT: true; the input reads as it did. -/
def spanFewSpec : ChangeSpec := { name := "spanFew", fn := fun _ => fun
  | [d1, d2, d3] => { results := [.lit (.bool true)], args := [d1, d2, d3] }
  | _ => none }
def spanFewRow : OpenClaim := { program := "ytmgjokihljeemaa", sum := "a6e02d30178acaa656510f0d9b168367829de4df1ec33e8f85eade65075d719a", func := "archipelago/archipelagolaw20.SpanFew", spec := "spanFew", unfollowed := true, recurses := true, apart := false }
def SpanFewSaid : Prop := spanFewRow.holds Try.pinned (OpenSpec.ofChange spanFewSpec)

/-- ITS FALSE NEIGHBOUR: 'it returns false'. Refute it at one input. -/
def spanFewWrong : ChangeSpec := { name := "spanFew", fn := fun _ => fun
  | [d1, d2, d3] => { results := [.lit (.bool false)], args := [d1, d2, d3] }
  | _ => none }
def SpanFewWrongFalsely : Prop := spanFewRow.holds Try.pinned (OpenSpec.ofChange spanFewWrong)

/-- 'archipelagolaw20.SpanContracts': WHATEVER THE INPUT: true; the input reads as it did. -/
def spanContractsSpec : ChangeSpec := { name := "spanContracts", fn := fun _ => fun
  | [d1, d2] => { results := [.lit (.bool true)], args := [d1, d2] }
  | _ => none }
def spanContractsRow : OpenClaim := { program := "ytmgjokihljeemaa", sum := "a6e02d30178acaa656510f0d9b168367829de4df1ec33e8f85eade65075d719a", func := "archipelago/archipelagolaw20.SpanContracts", spec := "spanContracts", unfollowed := true, recurses := true, apart := false }
def SpanContractsSaid : Prop := spanContractsRow.holds Try.pinned (OpenSpec.ofChange spanContractsSpec)

/-- ITS FALSE NEIGHBOUR: 'it returns false'. Refute it at one input. -/
def spanContractsWrong : ChangeSpec := { name := "spanContracts", fn := fun _ => fun
  | [d1, d2] => { results := [.lit (.bool false)], args := [d1, d2] }
  | _ => none }
def SpanContractsWrongFalsely : Prop := spanContractsRow.holds Try.pinned (OpenSpec.ofChange spanContractsWrong)

/-- 'archipelagolaw20.SpanMore': WHATEVER THE INPUT: true; the input reads as it did. -/
def spanMoreSpec : ChangeSpec := { name := "spanMore", fn := fun _ => fun
  | [d1, d2, d3] => { results := [.lit (.bool true)], args := [d1, d2, d3] }
  | _ => none }
def spanMoreRow : OpenClaim := { program := "ytmgjokihljeemaa", sum := "a6e02d30178acaa656510f0d9b168367829de4df1ec33e8f85eade65075d719a", func := "archipelago/archipelagolaw20.SpanMore", spec := "spanMore", unfollowed := true, recurses := true, apart := false }
def SpanMoreSaid : Prop := spanMoreRow.holds Try.pinned (OpenSpec.ofChange spanMoreSpec)

/-- ITS FALSE NEIGHBOUR: 'it returns false'. Refute it at one input. -/
def spanMoreWrong : ChangeSpec := { name := "spanMore", fn := fun _ => fun
  | [d1, d2, d3] => { results := [.lit (.bool false)], args := [d1, d2, d3] }
  | _ => none }
def SpanMoreWrongFalsely : Prop := spanMoreRow.holds Try.pinned (OpenSpec.ofChange spanMoreWrong)

/- THE SECOND FORM. 'bulk': how many values and letters a reading holds, each counted each time it is reached (what is shared counts as often as it is met; a slice's spare places count too). A statement '..UptoSaid' is the law's where the arguments, and the package variables that the reading takes, are together of bulk at most 1048576: NARROWER than '..Said'. Prove '..Said' where nothing that the law and all that it calls make is longer than what came in: it says more and counts as full. Else prove '..UptoSaid'. A law counts once. -/
mutual
def uptoBulk {H : Type} : DataW H → Nat
  | .lit (.string bytes) => bytes.length + 1
  | .lit _ => 1
  | .nil => 1
  | .ptr d => uptoBulk d + 1
  | .slice elems spare => uptoBulkAll elems + uptoBulkAll spare + 1
  | .agg parts => uptoBulkAll parts + 1
  | .iface _ d => uptoBulk d + 1
  | .map entries => uptoBulkEntries entries + 1
  | .held _ => 1
def uptoBulkAll {H : Type} : List (DataW H) → Nat
  | [] => 0
  | d :: r => uptoBulk d + uptoBulkAll r
def uptoBulkEntries {H : Type} : List (Lit × DataW H) → Nat
  | [] => 0
  | x :: r => uptoBulkEntry x + uptoBulkEntries r
def uptoBulkEntry {H : Type} : Lit × DataW H → Nat
  | (.string bytes, d) => bytes.length + uptoBulk d + 1
  | (_, d) => uptoBulk d + 1
 end
def uptoSmall : (H : Type) → List (DataW H) → Bool := fun _ ds => decide (uptoBulkAll ds ≤ 1048576)
def OpenSpec.upto (s : _root_.Go.ChangeSpec) : _root_.Go.OpenSpec := { _root_.Go.OpenSpec.ofChange s with cond := some uptoSmall }

/-- 'archipelagolaw20.SpanAnswers', WHERE WHAT IT READS IS OF BULK AT MOST 1048576: true; the input reads as it did. -/
def spanAnswersUptoRow : OpenClaim := { program := "ytmgjokihljeemaa", sum := "a6e02d30178acaa656510f0d9b168367829de4df1ec33e8f85eade65075d719a", func := "archipelago/archipelagolaw20.SpanAnswers", spec := "spanAnswers", unfollowed := true, recurses := true, apart := false, narrowed := true }
def SpanAnswersUptoSaid : Prop := spanAnswersUptoRow.holds Try.pinned (OpenSpec.upto spanAnswersSpec)

/-- 'archipelagolaw20.SpanFew', WHERE WHAT IT READS IS OF BULK AT MOST 1048576: true; the input reads as it did. -/
def spanFewUptoRow : OpenClaim := { program := "ytmgjokihljeemaa", sum := "a6e02d30178acaa656510f0d9b168367829de4df1ec33e8f85eade65075d719a", func := "archipelago/archipelagolaw20.SpanFew", spec := "spanFew", unfollowed := true, recurses := true, apart := false, narrowed := true }
def SpanFewUptoSaid : Prop := spanFewUptoRow.holds Try.pinned (OpenSpec.upto spanFewSpec)

/-- 'archipelagolaw20.SpanContracts', WHERE WHAT IT READS IS OF BULK AT MOST 1048576: true; the input reads as it did. -/
def spanContractsUptoRow : OpenClaim := { program := "ytmgjokihljeemaa", sum := "a6e02d30178acaa656510f0d9b168367829de4df1ec33e8f85eade65075d719a", func := "archipelago/archipelagolaw20.SpanContracts", spec := "spanContracts", unfollowed := true, recurses := true, apart := false, narrowed := true }
def SpanContractsUptoSaid : Prop := spanContractsUptoRow.holds Try.pinned (OpenSpec.upto spanContractsSpec)

/-- 'archipelagolaw20.SpanMore', WHERE WHAT IT READS IS OF BULK AT MOST 1048576: true; the input reads as it did. -/
def spanMoreUptoRow : OpenClaim := { program := "ytmgjokihljeemaa", sum := "a6e02d30178acaa656510f0d9b168367829de4df1ec33e8f85eade65075d719a", func := "archipelago/archipelagolaw20.SpanMore", spec := "spanMore", unfollowed := true, recurses := true, apart := false, narrowed := true }
def SpanMoreUptoSaid : Prop := spanMoreUptoRow.holds Try.pinned (OpenSpec.upto spanMoreSpec)

end Rows
end Go.Proofs.Ytmgjokihljeemaa
