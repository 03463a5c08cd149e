/- part 15 -/
import Derived.Test.YtmdbmigbihboaaaGreatDoorZWholeNothing14
set_option linter.all false
open Go Go.RowKit
set_option maxRecDepth 100000
namespace Go.Proofs.YtmdbmigbihboaaaGreatDoor
section
def wr5:gC T wE (jj [J8,HY,FV,FB,Fp]) 3000 Kd.1 Kd.2.1.1 Kd.2.1.2.1 Kd.2.1.2.2 p6=some Kd.2.2:=by kernel_rfl
