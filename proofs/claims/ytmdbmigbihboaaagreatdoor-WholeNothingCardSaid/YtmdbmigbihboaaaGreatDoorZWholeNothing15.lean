/- part 15 -/
import Derived.Test.YtmdbmigbihboaaaGreatDoorZWholeNothing14
set_option linter.all false
open Go Go.RowKit
set_option maxRecDepth 100000
namespace Go.Proofs.YtmdbmigbihboaaaGreatDoor
section
def wr5:gQ T wE (jt [Ke,H5,F1,FL,Fx]) 3000 Kk.1 Kk.2.1.1 Kk.2.1.2.1 Kk.2.1.2.2 qb=some Kk.2.2:=by kernel_rfl
