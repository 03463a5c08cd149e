/- part 25 -/
import Derived.Test.YtmdbmigbihboaaaGreatDoorZWholeNothing24
set_option linter.all false
open Go Go.RowKit
set_option maxRecDepth 100000
namespace Go.Proofs.YtmdbmigbihboaaaGreatDoor
section
def apc:gC T wE (jj [J9,FW,Fq,BF,Ab,Wr,Rp,O8,OY,Kd,J8,HY,FV,FB,Fp]) 3000 OZ.1 OZ.2.1.1 OZ.2.1.2.1 OZ.2.1.2.2 p6=some OZ.2.2:=by kernel_rfl
