/- part 11 -/
import Derived.Test.YtmdbmigbihboaaaGreatDoorZWholeNothing10
set_option linter.all false
open Go Go.RowKit
set_option maxRecDepth 100000
namespace Go.Proofs.YtmdbmigbihboaaaGreatDoor
section
def wr1:gQ T wE (jt [Fx]) 3000 FL.1 FL.2.1.1 FL.2.1.2.1 FL.2.1.2.2 qb=some FL.2.2:=by kernel_rfl
