/- part 22 -/
import Derived.Test.YtmdbmigbihboaaaGreatDoorZWholeNothing21
set_option linter.all false
open Go Go.RowKit
set_option maxRecDepth 100000
namespace Go.Proofs.YtmdbmigbihboaaaGreatDoor
section
def aoY:gQ T wE (jt [BL,Ai,WC,RD,Pj,O_,Kk,Ke,H5,F1,FL,Fx]) 3000 Fy.1 Fy.2.1.1 Fy.2.1.2.1 Fy.2.1.2.2 qb=some Fy.2.2:=by kernel_rfl
