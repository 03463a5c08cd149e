/- part 11 -/
import Derived.Test.YtmdbmigbihboaaaGreatDoorZWholeNothing10
set_option linter.all false
open Go Go.RowKit
set_option maxRecDepth 100000
namespace Go.Proofs.YtmdbmigbihboaaaGreatDoor
section
def wr1:gC T wE (jj [Fp]) 3000 FB.1 FB.2.1.1 FB.2.1.2.1 FB.2.1.2.2 p6=some FB.2.2:=by kernel_rfl
