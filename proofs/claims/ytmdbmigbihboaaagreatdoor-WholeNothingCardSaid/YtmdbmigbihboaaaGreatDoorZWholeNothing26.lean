/- part 26 -/
import Derived.Test.YtmdbmigbihboaaaGreatDoorZWholeNothing25
set_option linter.all false
open Go Go.RowKit
set_option maxRecDepth 100000
namespace Go.Proofs.YtmdbmigbihboaaaGreatDoor
section
def apd:gC T wE (jj [OZ,J9,FW,Fq,BF,Ab,Wr,Rp,O8,OY,Kd,J8,HY,FV,FB,Fp]) 3000 Rq.1 Rq.2.1.1 Rq.2.1.2.1 Rq.2.1.2.2 p6=some Rq.2.2:=by kernel_rfl
