/- part 23 -/
import Derived.Test.YtmdbmigbihboaaaGreatDoorZWholeNothing22
set_option linter.all false
open Go Go.RowKit
set_option maxRecDepth 100000
namespace Go.Proofs.YtmdbmigbihboaaaGreatDoor
section
def apa:gC T wE (jj [Fq,BF,Ab,Wr,Rp,O8,OY,Kd,J8,HY,FV,FB,Fp]) 3000 FW.1 FW.2.1.1 FW.2.1.2.1 FW.2.1.2.2 p6=some FW.2.2:=by kernel_rfl
