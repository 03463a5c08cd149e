/- part 22 -/
import Derived.Test.YtmdbmigbihboaaaGreatDoorZWholeNothing21
set_option linter.all false
open Go Go.RowKit
set_option maxRecDepth 100000
namespace Go.Proofs.YtmdbmigbihboaaaGreatDoor
section
def ao_:gC T wE (jj [BF,Ab,Wr,Rp,O8,OY,Kd,J8,HY,FV,FB,Fp]) 3000 Fq.1 Fq.2.1.1 Fq.2.1.2.1 Fq.2.1.2.2 p6=some Fq.2.2:=by kernel_rfl
