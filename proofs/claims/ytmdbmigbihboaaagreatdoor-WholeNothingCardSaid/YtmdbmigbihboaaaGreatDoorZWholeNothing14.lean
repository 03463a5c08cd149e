/- part 14 -/
import Derived.Test.YtmdbmigbihboaaaGreatDoorZWholeNothing13
set_option linter.all false
open Go Go.RowKit
set_option maxRecDepth 100000
namespace Go.Proofs.YtmdbmigbihboaaaGreatDoor
section
def wr4:gC T wE (jj [HY,FV,FB,Fp]) 3000 J8.1 J8.2.1.1 J8.2.1.2.1 J8.2.1.2.2 p6=some J8.2.2:=by kernel_rfl
