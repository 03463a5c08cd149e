/- part 12 -/
import Derived.Test.YtmdbmigbihboaaaGreatDoorZWholeNothing11
set_option linter.all false
open Go Go.RowKit
set_option maxRecDepth 100000
namespace Go.Proofs.YtmdbmigbihboaaaGreatDoor
section
def wr2:gQ T wE (jt [FL,Fx]) 3000 F1.1 F1.2.1.1 F1.2.1.2.1 F1.2.1.2.2 qb=some F1.2.2:=by kernel_rfl
