/- part 24 -/
import Derived.Test.YtmdbmigbihboaaaGreatDoorZWholeNothing23
set_option linter.all false
open Go Go.RowKit
set_option maxRecDepth 100000
namespace Go.Proofs.YtmdbmigbihboaaaGreatDoor
section
def ao0:gQ T wE (jt [F2,Fy,BL,Ai,WC,RD,Pj,O_,Kk,Ke,H5,F1,FL,Fx]) 3000 Kf.1 Kf.2.1.1 Kf.2.1.2.1 Kf.2.1.2.2 qb=some Kf.2.2:=by kernel_rfl
