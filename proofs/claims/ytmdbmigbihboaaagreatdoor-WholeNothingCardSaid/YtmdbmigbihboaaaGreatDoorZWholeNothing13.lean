/- part 13 -/
import Derived.Test.YtmdbmigbihboaaaGreatDoorZWholeNothing12
set_option linter.all false
open Go Go.RowKit
set_option maxRecDepth 100000
namespace Go.Proofs.YtmdbmigbihboaaaGreatDoor
section
def wr3:gC T wE (jj [FV,FB,Fp]) 3000 HY.1 HY.2.1.1 HY.2.1.2.1 HY.2.1.2.2 p6=some HY.2.2:=by kernel_rfl
