/- part 19 -/
import Derived.Test.YtmdbmigbihboaaaGreatDoorZWholeNothing18
set_option linter.all false
open Go Go.RowKit
set_option maxRecDepth 100000
namespace Go.Proofs.YtmdbmigbihboaaaGreatDoor
section
def wr9:gQ T wE (jt [RD,Pj,O_,Kk,Ke,H5,F1,FL,Fx]) 3000 WC.1 WC.2.1.1 WC.2.1.2.1 WC.2.1.2.2 qb=some WC.2.2:=by kernel_rfl
