/- part 25 -/
import Derived.Test.YtmdbmigbihboaaaGreatDoorZWholeNothing24
set_option linter.all false
open Go Go.RowKit
set_option maxRecDepth 100000
namespace Go.Proofs.YtmdbmigbihboaaaGreatDoor
section
def ao1:gQ T wE (jt [Kf,F2,Fy,BL,Ai,WC,RD,Pj,O_,Kk,Ke,H5,F1,FL,Fx]) 3000 Pa.1 Pa.2.1.1 Pa.2.1.2.1 Pa.2.1.2.2 qb=some Pa.2.2:=by kernel_rfl
