/- part 24 -/
import Derived.Test.YtglncfdpdaageaaGreatDoorZWholeErrors23
open Go Go.RowKit
set_option maxRecDepth 100000
namespace Go.Proofs.YtglncfdpdaageaaGreatDoor
theorem atb:gW T wE (jG [HJ,G_,C5,By,YK,TZ,Rn,Q5,Mh,L7,JR,HI,Hu,G9]) 3000 L8.1 L8.2.1.1 L8.2.1.2.1 L8.2.1.2.2 qY=some L8.2.2:=ci
