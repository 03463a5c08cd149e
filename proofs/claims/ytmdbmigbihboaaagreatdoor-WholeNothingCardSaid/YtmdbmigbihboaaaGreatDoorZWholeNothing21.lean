/- part 21 -/
import Derived.Test.YtmdbmigbihboaaaGreatDoorZWholeNothing20
set_option linter.all false
open Go Go.RowKit
set_option maxRecDepth 100000
namespace Go.Proofs.YtmdbmigbihboaaaGreatDoor
section
def ao9:gC T wE (jj [Ab,Wr,Rp,O8,OY,Kd,J8,HY,FV,FB,Fp]) 3000 BF.1 BF.2.1.1 BF.2.1.2.1 BF.2.1.2.2 p6=some BF.2.2:=by kernel_rfl
