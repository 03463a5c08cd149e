/- part 10 -/
import Derived.Test.YtglncfdpdaageaaGreatDoorZWholeErrors9
open Go Go.RowKit
set_option maxRecDepth 100000
namespace Go.Proofs.YtglncfdpdaageaaGreatDoor
theorem wr0:gW T wE (jG []) 3000 G9.1 G9.2.1.1 G9.2.1.2.1 G9.2.1.2.2 qY=some G9.2.2:=ci
