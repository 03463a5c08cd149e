/- part 12 -/
import Derived.Test.YtglncfdpdaageaaGreatDoorZWholeErrors11
open Go Go.RowKit
set_option maxRecDepth 100000
namespace Go.Proofs.YtglncfdpdaageaaGreatDoor
theorem wr2:gW T wE (jG [Hu,G9]) 3000 HI.1 HI.2.1.1 HI.2.1.2.1 HI.2.1.2.2 qY=some HI.2.2:=ci
