/- part 16 -/
import Derived.Test.YtmdbmigbihboaaaGreatDoorZWholeNothing15
set_option linter.all false
open Go Go.RowKit
set_option maxRecDepth 100000
namespace Go.Proofs.YtmdbmigbihboaaaGreatDoor
section
def wr6:gQ T wE (jt [Kk,Ke,H5,F1,FL,Fx]) 3000 O_.1 O_.2.1.1 O_.2.1.2.1 O_.2.1.2.2 qb=some O_.2.2:=by kernel_rfl
