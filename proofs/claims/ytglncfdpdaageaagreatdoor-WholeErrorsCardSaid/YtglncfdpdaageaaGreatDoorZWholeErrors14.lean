/- part 14 -/
import Derived.Test.YtglncfdpdaageaaGreatDoorZWholeErrors13
open Go Go.RowKit
set_option maxRecDepth 100000
namespace Go.Proofs.YtglncfdpdaageaaGreatDoor
theorem wr4:gW T wE (jG [JR,HI,Hu,G9]) 3000 L7.1 L7.2.1.1 L7.2.1.2.1 L7.2.1.2.2 qY=some L7.2.2:=ci
