/- part 18 -/
import Derived.Test.YtglncfdpdaageaaGreatDoorZWholeErrors17
open Go Go.RowKit
set_option maxRecDepth 100000
namespace Go.Proofs.YtglncfdpdaageaaGreatDoor
theorem wr8:gW T wE (jG [Rn,Q5,Mh,L7,JR,HI,Hu,G9]) 3000 TZ.1 TZ.2.1.1 TZ.2.1.2.1 TZ.2.1.2.2 qY=some TZ.2.2:=ci
