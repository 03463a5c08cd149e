/- part 17 -/
import Derived.Test.YtmdbmigbihboaaaGreatDoorZWholeNothing16
set_option linter.all false
open Go Go.RowKit
set_option maxRecDepth 100000
namespace Go.Proofs.YtmdbmigbihboaaaGreatDoor
section
def wr7:gC T wE (jj [OY,Kd,J8,HY,FV,FB,Fp]) 3000 O8.1 O8.2.1.1 O8.2.1.2.1 O8.2.1.2.2 p6=some O8.2.2:=by kernel_rfl
