/- part 13 -/
import Derived.Test.YtmdbmigbihboaaaGreatDoorZWholeNothing12
set_option linter.all false
open Go Go.RowKit
set_option maxRecDepth 100000
namespace Go.Proofs.YtmdbmigbihboaaaGreatDoor
section
def wr3:gQ T wE (jt [F1,FL,Fx]) 3000 H5.1 H5.2.1.1 H5.2.1.2.1 H5.2.1.2.2 qb=some H5.2.2:=by kernel_rfl
