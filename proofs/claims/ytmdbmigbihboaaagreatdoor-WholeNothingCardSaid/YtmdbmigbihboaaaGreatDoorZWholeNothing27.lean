/- part 27 -/
import Derived.Test.YtmdbmigbihboaaaGreatDoorZWholeNothing26
set_option linter.all false
open Go Go.RowKit
set_option maxRecDepth 100000
namespace Go.Proofs.YtmdbmigbihboaaaGreatDoor
section
def wr:(gC T wE (jj [Rq,OZ,J9,FW,Fq,BF,Ab,Wr,Rp,O8,OY,Kd,J8,HY,FV,FB,Fp]) 3000 4 [] .lf 0 λc _ _=>match c with
 |.v (.bool true)=>some 0
 |_=>none)=some 0:=by kernel_rfl
