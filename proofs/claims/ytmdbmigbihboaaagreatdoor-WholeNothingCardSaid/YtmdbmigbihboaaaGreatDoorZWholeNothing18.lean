/- part 18 -/
import Derived.Test.YtmdbmigbihboaaaGreatDoorZWholeNothing17
set_option linter.all false
open Go Go.RowKit
set_option maxRecDepth 100000
namespace Go.Proofs.YtmdbmigbihboaaaGreatDoor
section
def wr8:gC T wE (jj [O8,OY,Kd,J8,HY,FV,FB,Fp]) 3000 Rp.1 Rp.2.1.1 Rp.2.1.2.1 Rp.2.1.2.2 p6=some Rp.2.2:=by kernel_rfl
