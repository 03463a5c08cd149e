/- part 13 -/
import Derived.Test.YtglncfdpdaageaaGreatDoorZWholeErrors12
open Go Go.RowKit
set_option maxRecDepth 100000
namespace Go.Proofs.YtglncfdpdaageaaGreatDoor
theorem wr3:gW T wE (jG [HI,Hu,G9]) 3000 JR.1 JR.2.1.1 JR.2.1.2.1 JR.2.1.2.2 qY=some JR.2.2:=ci
