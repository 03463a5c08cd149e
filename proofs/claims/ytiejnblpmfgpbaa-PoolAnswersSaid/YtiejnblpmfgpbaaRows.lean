/-
  No cell of these rows narrows 'for every input' (looked for: loops, veiled, ifaces, maps, wideKeys, modest, calm, conditions, laid).
  DERIVED. THE GIVEN ROWS OF THIS SEAT. 4 by the template 'for every input the law returns true; each argument reads behind the call as it read before'; 0 by the template 'total and deterministic' (their statements: YtiejnblpmfgpbaaTotals.lean).
  GIVEN WITH THE SEED: the statements are not yours to turn. If you find one false, say at which input.
  Laid BY PROGRAM, IN A SANDBOX (cutbox-rows.mjs): the forced cells as the released guide's own fill.sh prints them over the translation d24a28a23d9cd82d… (all of the seat's roots in one cut). By AI agents, Wed Nov 11 2026. No macro, syntax, notation, axiom, sorry.
-/
import Derived.Test.YtiejnblpmfgpbaaChecked
import GoSem.Claim
import GoSem.ClaimJoined
import GoSem.ClaimMapViews
import Derived.JoinedTies
import Derived.KernelRfl
namespace Go.Proofs.Ytiejnblpmfgpbaa
/- THE CELL 'sum', in the pinned program and in every row, IS THE sha256 OF THE DUMP (.gsa) THAT YtiejnblpmfgpbaaProg.lean LOADS. Nothing in Lean hashes anything: it is a label: what it is worth is what the hold of that sum in a sandbox is worth. -/
noncomputable def Try.pinned : Pinned := { name := "ytiejnblpmfgpbaa", sum := "d24a28a23d9cd82d1412216227280d9ab24debc0f12464dce1283b448e996551", checked := Try.checked }
namespace Rows
def none {H : Type} : Left H := { results := [], args := [] }

/-- 'archipelagolaw02.PoolAnswers': WHATEVER THE INPUT: true; the input reads as it did. -/
def poolAnswersSpec : ChangeSpec := { name := "poolAnswers", fn := fun _ => fun
  | [d1, d2, d3] => { results := [.lit (.bool true)], args := [d1, d2, d3] }
  | _ => none }
def poolAnswersRow : OpenClaim := { program := "ytiejnblpmfgpbaa", sum := "d24a28a23d9cd82d1412216227280d9ab24debc0f12464dce1283b448e996551", func := "archipelago/archipelagolaw02.PoolAnswers", spec := "poolAnswers", apart := false }
def PoolAnswersSaid : Prop := poolAnswersRow.holds Try.pinned (OpenSpec.ofChange poolAnswersSpec)

/-- ITS FALSE NEIGHBOUR: 'it returns false'. Refute it at one input. -/
def poolAnswersWrong : ChangeSpec := { name := "poolAnswers", fn := fun _ => fun
  | [d1, d2, d3] => { results := [.lit (.bool false)], args := [d1, d2, d3] }
  | _ => none }
def PoolAnswersWrongFalsely : Prop := poolAnswersRow.holds Try.pinned (OpenSpec.ofChange poolAnswersWrong)

/-- 'archipelagolaw02.PoolAlone': WHATEVER THE INPUT: true; the input reads as it did. -/
def poolAloneSpec : ChangeSpec := { name := "poolAlone", fn := fun _ => fun
  | [d1, d2] => { results := [.lit (.bool true)], args := [d1, d2] }
  | _ => none }
def poolAloneRow : OpenClaim := { program := "ytiejnblpmfgpbaa", sum := "d24a28a23d9cd82d1412216227280d9ab24debc0f12464dce1283b448e996551", func := "archipelago/archipelagolaw02.PoolAlone", spec := "poolAlone", apart := false }
def PoolAloneSaid : Prop := poolAloneRow.holds Try.pinned (OpenSpec.ofChange poolAloneSpec)

/-- ITS FALSE NEIGHBOUR: 'it returns false'. Refute it at one input. -/
def poolAloneWrong : ChangeSpec := { name := "poolAlone", fn := fun _ => fun
  | [d1, d2] => { results := [.lit (.bool false)], args := [d1, d2] }
  | _ => none }
def PoolAloneWrongFalsely : Prop := poolAloneRow.holds Try.pinned (OpenSpec.ofChange poolAloneWrong)

/-- 'archipelagolaw02.PoolStays': WHATEVER THE INPUT: true; the input reads as it did. -/
def poolStaysSpec : ChangeSpec := { name := "poolStays", fn := fun _ => fun
  | [d1, d2] => { results := [.lit (.bool true)], args := [d1, d2] }
  | _ => none }
def poolStaysRow : OpenClaim := { program := "ytiejnblpmfgpbaa", sum := "d24a28a23d9cd82d1412216227280d9ab24debc0f12464dce1283b448e996551", func := "archipelago/archipelagolaw02.PoolStays", spec := "poolStays", apart := false }
def PoolStaysSaid : Prop := poolStaysRow.holds Try.pinned (OpenSpec.ofChange poolStaysSpec)

/-- ITS FALSE NEIGHBOUR: 'it returns false'. Refute it at one input. -/
def poolStaysWrong : ChangeSpec := { name := "poolStays", fn := fun _ => fun
  | [d1, d2] => { results := [.lit (.bool false)], args := [d1, d2] }
  | _ => none }
def PoolStaysWrongFalsely : Prop := poolStaysRow.holds Try.pinned (OpenSpec.ofChange poolStaysWrong)

/-- 'archipelagolaw02.PoolOrder': WHATEVER THE INPUT: true; the input reads as it did. -/
def poolOrderSpec : ChangeSpec := { name := "poolOrder", fn := fun _ => fun
  | [d1, d2] => { results := [.lit (.bool true)], args := [d1, d2] }
  | _ => none }
def poolOrderRow : OpenClaim := { program := "ytiejnblpmfgpbaa", sum := "d24a28a23d9cd82d1412216227280d9ab24debc0f12464dce1283b448e996551", func := "archipelago/archipelagolaw02.PoolOrder", spec := "poolOrder", apart := false }
def PoolOrderSaid : Prop := poolOrderRow.holds Try.pinned (OpenSpec.ofChange poolOrderSpec)

/-- ITS FALSE NEIGHBOUR: 'it returns false'. Refute it at one input. -/
def poolOrderWrong : ChangeSpec := { name := "poolOrder", fn := fun _ => fun
  | [d1, d2] => { results := [.lit (.bool false)], args := [d1, d2] }
  | _ => none }
def PoolOrderWrongFalsely : Prop := poolOrderRow.holds Try.pinned (OpenSpec.ofChange poolOrderWrong)

/- THE SECOND FORM. 'bulk': how many values and letters a reading holds, each counted each time it is reached (what is shared counts as often as it is met; a slice's spare places count too). A statement '..UptoSaid' is the law's where the arguments, and the package variables that the reading takes, are together of bulk at most 1048576: NARROWER than '..Said'. Prove '..Said' where nothing that the law and all that it calls make is longer than what came in: it says more and counts as full. Else prove '..UptoSaid'. A law counts once. -/
mutual
def uptoBulk {H : Type} : DataW H → Nat
  | .lit (.string bytes) => bytes.length + 1
  | .lit _ => 1
  | .nil => 1
  | .ptr d => uptoBulk d + 1
  | .slice elems spare => uptoBulkAll elems + uptoBulkAll spare + 1
  | .agg parts => uptoBulkAll parts + 1
  | .iface _ d => uptoBulk d + 1
  | .map entries => uptoBulkEntries entries + 1
  | .held _ => 1
def uptoBulkAll {H : Type} : List (DataW H) → Nat
  | [] => 0
  | d :: r => uptoBulk d + uptoBulkAll r
def uptoBulkEntries {H : Type} : List (Lit × DataW H) → Nat
  | [] => 0
  | x :: r => uptoBulkEntry x + uptoBulkEntries r
def uptoBulkEntry {H : Type} : Lit × DataW H → Nat
  | (.string bytes, d) => bytes.length + uptoBulk d + 1
  | (_, d) => uptoBulk d + 1
 end
def uptoSmall : (H : Type) → List (DataW H) → Bool := fun _ ds => decide (uptoBulkAll ds ≤ 1048576)
def OpenSpec.upto (s : _root_.Go.ChangeSpec) : _root_.Go.OpenSpec := { _root_.Go.OpenSpec.ofChange s with cond := some uptoSmall }

/-- 'archipelagolaw02.PoolAnswers', WHERE WHAT IT READS IS OF BULK AT MOST 1048576: true; the input reads as it did. -/
def poolAnswersUptoRow : OpenClaim := { program := "ytiejnblpmfgpbaa", sum := "d24a28a23d9cd82d1412216227280d9ab24debc0f12464dce1283b448e996551", func := "archipelago/archipelagolaw02.PoolAnswers", spec := "poolAnswers", apart := false, narrowed := true }
def PoolAnswersUptoSaid : Prop := poolAnswersUptoRow.holds Try.pinned (OpenSpec.upto poolAnswersSpec)

/-- 'archipelagolaw02.PoolAlone', WHERE WHAT IT READS IS OF BULK AT MOST 1048576: true; the input reads as it did. -/
def poolAloneUptoRow : OpenClaim := { program := "ytiejnblpmfgpbaa", sum := "d24a28a23d9cd82d1412216227280d9ab24debc0f12464dce1283b448e996551", func := "archipelago/archipelagolaw02.PoolAlone", spec := "poolAlone", apart := false, narrowed := true }
def PoolAloneUptoSaid : Prop := poolAloneUptoRow.holds Try.pinned (OpenSpec.upto poolAloneSpec)

/-- 'archipelagolaw02.PoolStays', WHERE WHAT IT READS IS OF BULK AT MOST 1048576: true; the input reads as it did. -/
def poolStaysUptoRow : OpenClaim := { program := "ytiejnblpmfgpbaa", sum := "d24a28a23d9cd82d1412216227280d9ab24debc0f12464dce1283b448e996551", func := "archipelago/archipelagolaw02.PoolStays", spec := "poolStays", apart := false, narrowed := true }
def PoolStaysUptoSaid : Prop := poolStaysUptoRow.holds Try.pinned (OpenSpec.upto poolStaysSpec)

/-- 'archipelagolaw02.PoolOrder', WHERE WHAT IT READS IS OF BULK AT MOST 1048576: true; the input reads as it did. -/
def poolOrderUptoRow : OpenClaim := { program := "ytiejnblpmfgpbaa", sum := "d24a28a23d9cd82d1412216227280d9ab24debc0f12464dce1283b448e996551", func := "archipelago/archipelagolaw02.PoolOrder", spec := "poolOrder", apart := false, narrowed := true }
def PoolOrderUptoSaid : Prop := poolOrderUptoRow.holds Try.pinned (OpenSpec.upto poolOrderSpec)

end Rows
end Go.Proofs.Ytiejnblpmfgpbaa
