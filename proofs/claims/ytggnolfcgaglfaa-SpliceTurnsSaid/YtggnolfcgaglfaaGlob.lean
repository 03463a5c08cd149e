/- The variables of packages that the reckoning knows: tables that are laid at the start (printed by wip/tool/globs.sh). -/
import Derived.Test.YtggnolfcgaglfaaBase
namespace Go.Proofs.Ytggnolfcgaglfaa
open Go Go.RowKit
def gTab : List (Nat × IntKind × List Int) := []
/-- which slices of slices are held as rows of slices of the call's own: by the size of the frame, and the slot -/
def gNr : List (Nat × Nat) := [(73, 62), (100, 54), (124, 22)]
end Go.Proofs.Ytggnolfcgaglfaa
