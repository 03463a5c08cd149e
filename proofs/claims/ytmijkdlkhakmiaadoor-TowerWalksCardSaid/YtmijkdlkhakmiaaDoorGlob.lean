/- The variables of packages that the reckoning knows: tables that are laid at the start (printed by wip/tool/globs.sh). -/
import Derived.Test.YtmijkdlkhakmiaaDoorBase
namespace Go.Proofs.YtmijkdlkhakmiaaDoor
open Go Go.RowKit
def gTab : List (Nat × IntKind × List Int) := [(0, (.u8, [0, 1, 28, 2, 29, 14, 24, 3, 30, 22, 20, 15, 25, 17, 4, 8, 31, 27, 13, 23, 21, 19, 16, 7, 26, 12, 18, 6, 11, 5, 10, 9]))]
end Go.Proofs.YtmijkdlkhakmiaaDoor
