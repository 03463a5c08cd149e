/- part 24 -/
import Derived.Test.YtmdbmigbihboaaaGreatDoorZWholeNothing23
set_option linter.all false
open Go Go.RowKit
set_option maxRecDepth 100000
namespace Go.Proofs.YtmdbmigbihboaaaGreatDoor
section
def apb:gC T wE (jj [FW,Fq,BF,Ab,Wr,Rp,O8,OY,Kd,J8,HY,FV,FB,Fp]) 3000 J9.1 J9.2.1.1 J9.2.1.2.1 J9.2.1.2.2 p6=some J9.2.2:=by kernel_rfl
