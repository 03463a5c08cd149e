/- part 16 -/
import Derived.Test.YtglncfdpdaageaaGreatDoorZWholeErrors15
open Go Go.RowKit
set_option maxRecDepth 100000
namespace Go.Proofs.YtglncfdpdaageaaGreatDoor
theorem wr6:gW T wE (jG [Mh,L7,JR,HI,Hu,G9]) 3000 Q5.1 Q5.2.1.1 Q5.2.1.2.1 Q5.2.1.2.2 qY=some Q5.2.2:=ci
