/- part 10 -/
import Derived.Test.YtmdbmigbihboaaaGreatDoorZWholeNothing9
set_option linter.all false
open Go Go.RowKit
set_option maxRecDepth 100000
namespace Go.Proofs.YtmdbmigbihboaaaGreatDoor
section
def wr0:gC T wE (jj []) 3000 Fp.1 Fp.2.1.1 Fp.2.1.2.1 Fp.2.1.2.2 p6=some Fp.2.2:=by kernel_rfl
