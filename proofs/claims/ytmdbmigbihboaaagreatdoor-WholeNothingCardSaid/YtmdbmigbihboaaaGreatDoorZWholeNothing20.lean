/- part 20 -/
import Derived.Test.YtmdbmigbihboaaaGreatDoorZWholeNothing19
set_option linter.all false
open Go Go.RowKit
set_option maxRecDepth 100000
namespace Go.Proofs.YtmdbmigbihboaaaGreatDoor
section
def ao8:gC T wE (jj [Wr,Rp,O8,OY,Kd,J8,HY,FV,FB,Fp]) 3000 Ab.1 Ab.2.1.1 Ab.2.1.2.1 Ab.2.1.2.2 p6=some Ab.2.2:=by kernel_rfl
