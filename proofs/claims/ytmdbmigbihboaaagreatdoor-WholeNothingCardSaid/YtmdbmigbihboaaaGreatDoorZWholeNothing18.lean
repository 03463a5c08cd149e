/- part 18 -/
import Derived.Test.YtmdbmigbihboaaaGreatDoorZWholeNothing17
set_option linter.all false
open Go Go.RowKit
set_option maxRecDepth 100000
namespace Go.Proofs.YtmdbmigbihboaaaGreatDoor
section
def wr8:gQ T wE (jt [Pj,O_,Kk,Ke,H5,F1,FL,Fx]) 3000 RD.1 RD.2.1.1 RD.2.1.2.1 RD.2.1.2.2 qb=some RD.2.2:=by kernel_rfl
