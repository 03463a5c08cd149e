/- part 10 -/
import Derived.Test.YtmdbmigbihboaaaGreatDoorZWholeNothing9
set_option linter.all false
open Go Go.RowKit
set_option maxRecDepth 100000
namespace Go.Proofs.YtmdbmigbihboaaaGreatDoor
section
def wr0:gQ T wE (jt []) 3000 Fx.1 Fx.2.1.1 Fx.2.1.2.1 Fx.2.1.2.2 qb=some Fx.2.2:=by kernel_rfl
