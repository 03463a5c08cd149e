/- part 20 -/
import Derived.Test.YtmdbmigbihboaaaGreatDoorZWholeNothing19
set_option linter.all false
open Go Go.RowKit
set_option maxRecDepth 100000
namespace Go.Proofs.YtmdbmigbihboaaaGreatDoor
section
def aoW:gQ T wE (jt [WC,RD,Pj,O_,Kk,Ke,H5,F1,FL,Fx]) 3000 Ai.1 Ai.2.1.1 Ai.2.1.2.1 Ai.2.1.2.2 qb=some Ai.2.2:=by kernel_rfl
