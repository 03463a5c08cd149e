/- part 21 -/
import Derived.Test.YtglncfdpdaageaaGreatDoorZWholeErrors20
open Go Go.RowKit
set_option maxRecDepth 100000
namespace Go.Proofs.YtglncfdpdaageaaGreatDoor
theorem as9:gW T wE (jG [By,YK,TZ,Rn,Q5,Mh,L7,JR,HI,Hu,G9]) 3000 C5.1 C5.2.1.1 C5.2.1.2.1 C5.2.1.2.2 qY=some C5.2.2:=ci
