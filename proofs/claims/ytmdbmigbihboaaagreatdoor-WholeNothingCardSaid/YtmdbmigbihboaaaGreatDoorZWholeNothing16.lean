/- part 16 -/
import Derived.Test.YtmdbmigbihboaaaGreatDoorZWholeNothing15
set_option linter.all false
open Go Go.RowKit
set_option maxRecDepth 100000
namespace Go.Proofs.YtmdbmigbihboaaaGreatDoor
section
def wr6:gC T wE (jj [Kd,J8,HY,FV,FB,Fp]) 3000 OY.1 OY.2.1.1 OY.2.1.2.1 OY.2.1.2.2 p6=some OY.2.2:=by kernel_rfl
