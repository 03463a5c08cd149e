/- part 17 -/
import Derived.Test.YtmdbmigbihboaaaGreatDoorZWholeNothing16
set_option linter.all false
open Go Go.RowKit
set_option maxRecDepth 100000
namespace Go.Proofs.YtmdbmigbihboaaaGreatDoor
section
def wr7:gQ T wE (jt [O_,Kk,Ke,H5,F1,FL,Fx]) 3000 Pj.1 Pj.2.1.1 Pj.2.1.2.1 Pj.2.1.2.2 qb=some Pj.2.2:=by kernel_rfl
