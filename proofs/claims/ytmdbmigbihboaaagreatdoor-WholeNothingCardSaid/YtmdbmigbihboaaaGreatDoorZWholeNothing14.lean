/- part 14 -/
import Derived.Test.YtmdbmigbihboaaaGreatDoorZWholeNothing13
set_option linter.all false
open Go Go.RowKit
set_option maxRecDepth 100000
namespace Go.Proofs.YtmdbmigbihboaaaGreatDoor
section
def wr4:gQ T wE (jt [H5,F1,FL,Fx]) 3000 Ke.1 Ke.2.1.1 Ke.2.1.2.1 Ke.2.1.2.2 qb=some Ke.2.2:=by kernel_rfl
