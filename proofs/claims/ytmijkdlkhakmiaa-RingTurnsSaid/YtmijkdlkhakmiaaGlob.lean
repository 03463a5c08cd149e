/- The variables of packages that the reckoning knows: tables that are laid at the start (printed by wip/tool/globs.sh). -/
import Derived.Test.YtmijkdlkhakmiaaBase
namespace Go.Proofs.Ytmijkdlkhakmiaa
open Go Go.RowKit
def gTab : List (Nat × IntKind × List Int) := []
/-- which slices of slices are held as rows of slices of the call's own: by the size of the frame, and the slot -/
def gNr : List (Nat × Nat) := []
end Go.Proofs.Ytmijkdlkhakmiaa
