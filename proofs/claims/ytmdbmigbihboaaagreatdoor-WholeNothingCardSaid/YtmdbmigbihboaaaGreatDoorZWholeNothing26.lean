/- part 26 -/
import Derived.Test.YtmdbmigbihboaaaGreatDoorZWholeNothing25
set_option linter.all false
open Go Go.RowKit
set_option maxRecDepth 100000
namespace Go.Proofs.YtmdbmigbihboaaaGreatDoor
section
def ao2:gQ T wE (jt [Pa,Kf,F2,Fy,BL,Ai,WC,RD,Pj,O_,Kk,Ke,H5,F1,FL,Fx]) 3000 RE.1 RE.2.1.1 RE.2.1.2.1 RE.2.1.2.2 qb=some RE.2.2:=by kernel_rfl
