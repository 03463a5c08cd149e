/-
  No cell of these rows narrows 'for every input' (looked for: loops, veiled, ifaces, maps, wideKeys, modest, calm, conditions, laid).
  DERIVED. THE GIVEN ROWS OF THIS SEAT. 5 by the template 'for every input the law returns true; each argument reads behind the call as it read before'; 0 by the template 'total and deterministic' (their statements: YtdahghkmejnlgaaTotals.lean).
  GIVEN WITH THE SEED: the statements are not yours to turn. If you find one false, say at which input.
  Laid BY PROGRAM, IN A SANDBOX (cutbox-rows.mjs): the forced cells as the released guide's own fill.sh prints them over the translation 84e186a3b80f14fd… (all of the seat's roots in one cut). By AI agents, Wed Nov 11 2026. No macro, syntax, notation, axiom, sorry.
-/
import Derived.Test.YtdahghkmejnlgaaChecked
import GoSem.Claim
import GoSem.ClaimJoined
import GoSem.ClaimMapViews
import Derived.JoinedTies
import Derived.KernelRfl
namespace Go.Proofs.Ytdahghkmejnlgaa
/- THE CELL 'sum', in the pinned program and in every row, IS THE sha256 OF THE DUMP (.gsa) THAT YtdahghkmejnlgaaProg.lean LOADS. Nothing in Lean hashes anything: it is a label: what it is worth is what the hold of that sum in a sandbox is worth. -/
noncomputable def Try.pinned : Pinned := { name := "ytdahghkmejnlgaa", sum := "84e186a3b80f14fd9483b18f3522d4566923b8ff20566ce49512af28bda54664", checked := Try.checked }
namespace Rows
def none {H : Type} : Left H := { results := [], args := [] }

/-- 'archipelagolaw30.StoreAnswers': WHATEVER THE INPUT: true; the input reads as it did. -/
def storeAnswersSpec : ChangeSpec := { name := "storeAnswers", fn := fun _ => fun
  | [d1, d2] => { results := [.lit (.bool true)], args := [d1, d2] }
  | _ => none }
def storeAnswersRow : OpenClaim := { program := "ytdahghkmejnlgaa", sum := "84e186a3b80f14fd9483b18f3522d4566923b8ff20566ce49512af28bda54664", func := "archipelago/archipelagolaw30.StoreAnswers", spec := "storeAnswers", unfollowed := true, recurses := true, plainKeys := false, apart := false }
def StoreAnswersSaid : Prop := storeAnswersRow.holds Try.pinned (OpenSpec.ofChange storeAnswersSpec)

/-- ITS FALSE NEIGHBOUR: 'it returns false'. Refute it at one input. -/
def storeAnswersWrong : ChangeSpec := { name := "storeAnswers", fn := fun _ => fun
  | [d1, d2] => { results := [.lit (.bool false)], args := [d1, d2] }
  | _ => none }
def StoreAnswersWrongFalsely : Prop := storeAnswersRow.holds Try.pinned (OpenSpec.ofChange storeAnswersWrong)

/-- 'archipelagolaw30.StorePuts': WHATEVER THE INPUT: true; the input reads as it did. -/
def storePutsSpec : ChangeSpec := { name := "storePuts", fn := fun _ => fun
  | [d1, d2, d3] => { results := [.lit (.bool true)], args := [d1, d2, d3] }
  | _ => none }
def storePutsRow : OpenClaim := { program := "ytdahghkmejnlgaa", sum := "84e186a3b80f14fd9483b18f3522d4566923b8ff20566ce49512af28bda54664", func := "archipelago/archipelagolaw30.StorePuts", spec := "storePuts", unfollowed := true, recurses := true, plainKeys := false, apart := false }
def StorePutsSaid : Prop := storePutsRow.holds Try.pinned (OpenSpec.ofChange storePutsSpec)

/-- ITS FALSE NEIGHBOUR: 'it returns false'. Refute it at one input. -/
def storePutsWrong : ChangeSpec := { name := "storePuts", fn := fun _ => fun
  | [d1, d2, d3] => { results := [.lit (.bool false)], args := [d1, d2, d3] }
  | _ => none }
def StorePutsWrongFalsely : Prop := storePutsRow.holds Try.pinned (OpenSpec.ofChange storePutsWrong)

/-- 'archipelagolaw30.StoreBack': WHATEVER THE INPUT: true; the input reads as it did. -/
def storeBackSpec : ChangeSpec := { name := "storeBack", fn := fun _ => fun
  | [d1, d2, d3] => { results := [.lit (.bool true)], args := [d1, d2, d3] }
  | _ => none }
def storeBackRow : OpenClaim := { program := "ytdahghkmejnlgaa", sum := "84e186a3b80f14fd9483b18f3522d4566923b8ff20566ce49512af28bda54664", func := "archipelago/archipelagolaw30.StoreBack", spec := "storeBack", unfollowed := true, recurses := true, plainKeys := false, apart := false }
def StoreBackSaid : Prop := storeBackRow.holds Try.pinned (OpenSpec.ofChange storeBackSpec)

/-- ITS FALSE NEIGHBOUR: 'it returns false'. Refute it at one input. -/
def storeBackWrong : ChangeSpec := { name := "storeBack", fn := fun _ => fun
  | [d1, d2, d3] => { results := [.lit (.bool false)], args := [d1, d2, d3] }
  | _ => none }
def StoreBackWrongFalsely : Prop := storeBackRow.holds Try.pinned (OpenSpec.ofChange storeBackWrong)

/-- 'archipelagolaw30.StoreAlone': WHATEVER THE INPUT: true; the input reads as it did. -/
def storeAloneSpec : ChangeSpec := { name := "storeAlone", fn := fun _ => fun
  | [d1, d2] => { results := [.lit (.bool true)], args := [d1, d2] }
  | _ => none }
def storeAloneRow : OpenClaim := { program := "ytdahghkmejnlgaa", sum := "84e186a3b80f14fd9483b18f3522d4566923b8ff20566ce49512af28bda54664", func := "archipelago/archipelagolaw30.StoreAlone", spec := "storeAlone", unfollowed := true, recurses := true, plainKeys := false, apart := false }
def StoreAloneSaid : Prop := storeAloneRow.holds Try.pinned (OpenSpec.ofChange storeAloneSpec)

/-- ITS FALSE NEIGHBOUR: 'it returns false'. Refute it at one input. -/
def storeAloneWrong : ChangeSpec := { name := "storeAlone", fn := fun _ => fun
  | [d1, d2] => { results := [.lit (.bool false)], args := [d1, d2] }
  | _ => none }
def StoreAloneWrongFalsely : Prop := storeAloneRow.holds Try.pinned (OpenSpec.ofChange storeAloneWrong)

/-- 'archipelagolaw30.StoreRoom': WHATEVER THE INPUT: true; the input reads as it did. -/
def storeRoomSpec : ChangeSpec := { name := "storeRoom", fn := fun _ => fun
  | [d1, d2, d3] => { results := [.lit (.bool true)], args := [d1, d2, d3] }
  | _ => none }
def storeRoomRow : OpenClaim := { program := "ytdahghkmejnlgaa", sum := "84e186a3b80f14fd9483b18f3522d4566923b8ff20566ce49512af28bda54664", func := "archipelago/archipelagolaw30.StoreRoom", spec := "storeRoom", unfollowed := true, recurses := true, plainKeys := false, apart := false }
def StoreRoomSaid : Prop := storeRoomRow.holds Try.pinned (OpenSpec.ofChange storeRoomSpec)

/-- ITS FALSE NEIGHBOUR: 'it returns false'. Refute it at one input. -/
def storeRoomWrong : ChangeSpec := { name := "storeRoom", fn := fun _ => fun
  | [d1, d2, d3] => { results := [.lit (.bool false)], args := [d1, d2, d3] }
  | _ => none }
def StoreRoomWrongFalsely : Prop := storeRoomRow.holds Try.pinned (OpenSpec.ofChange storeRoomWrong)

/- THE SECOND FORM. 'bulk': how many values and letters a reading holds, each counted each time it is reached (what is shared counts as often as it is met; a slice's spare places count too). A statement '..UptoSaid' is the law's where the arguments, and the package variables that the reading takes, are together of bulk at most 1048576: NARROWER than '..Said'. Prove '..Said' where nothing that the law and all that it calls make is longer than what came in: it says more and counts as full. Else prove '..UptoSaid'. A law counts once. -/
mutual
def uptoBulk {H : Type} : DataW H → Nat
  | .lit (.string bytes) => bytes.length + 1
  | .lit _ => 1
  | .nil => 1
  | .ptr d => uptoBulk d + 1
  | .slice elems spare => uptoBulkAll elems + uptoBulkAll spare + 1
  | .agg parts => uptoBulkAll parts + 1
  | .iface _ d => uptoBulk d + 1
  | .map entries => uptoBulkEntries entries + 1
  | .held _ => 1
def uptoBulkAll {H : Type} : List (DataW H) → Nat
  | [] => 0
  | d :: r => uptoBulk d + uptoBulkAll r
def uptoBulkEntries {H : Type} : List (Lit × DataW H) → Nat
  | [] => 0
  | x :: r => uptoBulkEntry x + uptoBulkEntries r
def uptoBulkEntry {H : Type} : Lit × DataW H → Nat
  | (.string bytes, d) => bytes.length + uptoBulk d + 1
  | (_, d) => uptoBulk d + 1
 end
def uptoSmall : (H : Type) → List (DataW H) → Bool := fun _ ds => decide (uptoBulkAll ds ≤ 1048576)
def OpenSpec.upto (s : _root_.Go.ChangeSpec) : _root_.Go.OpenSpec := { _root_.Go.OpenSpec.ofChange s with cond := some uptoSmall }

/-- 'archipelagolaw30.StoreAnswers', WHERE WHAT IT READS IS OF BULK AT MOST 1048576: true; the input reads as it did. -/
def storeAnswersUptoRow : OpenClaim := { program := "ytdahghkmejnlgaa", sum := "84e186a3b80f14fd9483b18f3522d4566923b8ff20566ce49512af28bda54664", func := "archipelago/archipelagolaw30.StoreAnswers", spec := "storeAnswers", unfollowed := true, recurses := true, plainKeys := false, apart := false, narrowed := true }
def StoreAnswersUptoSaid : Prop := storeAnswersUptoRow.holds Try.pinned (OpenSpec.upto storeAnswersSpec)

/-- 'archipelagolaw30.StorePuts', WHERE WHAT IT READS IS OF BULK AT MOST 1048576: true; the input reads as it did. -/
def storePutsUptoRow : OpenClaim := { program := "ytdahghkmejnlgaa", sum := "84e186a3b80f14fd9483b18f3522d4566923b8ff20566ce49512af28bda54664", func := "archipelago/archipelagolaw30.StorePuts", spec := "storePuts", unfollowed := true, recurses := true, plainKeys := false, apart := false, narrowed := true }
def StorePutsUptoSaid : Prop := storePutsUptoRow.holds Try.pinned (OpenSpec.upto storePutsSpec)

/-- 'archipelagolaw30.StoreBack', WHERE WHAT IT READS IS OF BULK AT MOST 1048576: true; the input reads as it did. -/
def storeBackUptoRow : OpenClaim := { program := "ytdahghkmejnlgaa", sum := "84e186a3b80f14fd9483b18f3522d4566923b8ff20566ce49512af28bda54664", func := "archipelago/archipelagolaw30.StoreBack", spec := "storeBack", unfollowed := true, recurses := true, plainKeys := false, apart := false, narrowed := true }
def StoreBackUptoSaid : Prop := storeBackUptoRow.holds Try.pinned (OpenSpec.upto storeBackSpec)

/-- 'archipelagolaw30.StoreAlone', WHERE WHAT IT READS IS OF BULK AT MOST 1048576: true; the input reads as it did. -/
def storeAloneUptoRow : OpenClaim := { program := "ytdahghkmejnlgaa", sum := "84e186a3b80f14fd9483b18f3522d4566923b8ff20566ce49512af28bda54664", func := "archipelago/archipelagolaw30.StoreAlone", spec := "storeAlone", unfollowed := true, recurses := true, plainKeys := false, apart := false, narrowed := true }
def StoreAloneUptoSaid : Prop := storeAloneUptoRow.holds Try.pinned (OpenSpec.upto storeAloneSpec)

/-- 'archipelagolaw30.StoreRoom', WHERE WHAT IT READS IS OF BULK AT MOST 1048576: true; the input reads as it did. -/
def storeRoomUptoRow : OpenClaim := { program := "ytdahghkmejnlgaa", sum := "84e186a3b80f14fd9483b18f3522d4566923b8ff20566ce49512af28bda54664", func := "archipelago/archipelagolaw30.StoreRoom", spec := "storeRoom", unfollowed := true, recurses := true, plainKeys := false, apart := false, narrowed := true }
def StoreRoomUptoSaid : Prop := storeRoomUptoRow.holds Try.pinned (OpenSpec.upto storeRoomSpec)

end Rows
end Go.Proofs.Ytdahghkmejnlgaa
