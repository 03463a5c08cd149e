/- part 21 -/
import Derived.Test.YtmdbmigbihboaaaGreatDoorZWholeNothing20
set_option linter.all false
open Go Go.RowKit
set_option maxRecDepth 100000
namespace Go.Proofs.YtmdbmigbihboaaaGreatDoor
section
def aoX:gQ T wE (jt [Ai,WC,RD,Pj,O_,Kk,Ke,H5,F1,FL,Fx]) 3000 BL.1 BL.2.1.1 BL.2.1.2.1 BL.2.1.2.2 qb=some BL.2.2:=by kernel_rfl
