/- part 19 -/
import Derived.Test.YtmdbmigbihboaaaGreatDoorZWholeNothing18
set_option linter.all false
open Go Go.RowKit
set_option maxRecDepth 100000
namespace Go.Proofs.YtmdbmigbihboaaaGreatDoor
section
def wr9:gC T wE (jj [Rp,O8,OY,Kd,J8,HY,FV,FB,Fp]) 3000 Wr.1 Wr.2.1.1 Wr.2.1.2.1 Wr.2.1.2.2 p6=some Wr.2.2:=by kernel_rfl
