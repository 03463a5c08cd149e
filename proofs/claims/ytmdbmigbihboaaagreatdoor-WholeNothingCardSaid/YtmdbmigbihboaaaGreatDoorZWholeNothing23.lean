/- part 23 -/
import Derived.Test.YtmdbmigbihboaaaGreatDoorZWholeNothing22
set_option linter.all false
open Go Go.RowKit
set_option maxRecDepth 100000
namespace Go.Proofs.YtmdbmigbihboaaaGreatDoor
section
def aoZ:gQ T wE (jt [Fy,BL,Ai,WC,RD,Pj,O_,Kk,Ke,H5,F1,FL,Fx]) 3000 F2.1 F2.2.1.1 F2.2.1.2.1 F2.2.1.2.2 qb=some F2.2.2:=by kernel_rfl
