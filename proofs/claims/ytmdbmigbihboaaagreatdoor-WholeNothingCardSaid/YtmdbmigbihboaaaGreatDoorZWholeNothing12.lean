/- part 12 -/
import Derived.Test.YtmdbmigbihboaaaGreatDoorZWholeNothing11
set_option linter.all false
open Go Go.RowKit
set_option maxRecDepth 100000
namespace Go.Proofs.YtmdbmigbihboaaaGreatDoor
section
def wr2:gC T wE (jj [FB,Fp]) 3000 FV.1 FV.2.1.1 FV.2.1.2.1 FV.2.1.2.2 p6=some FV.2.2:=by kernel_rfl
