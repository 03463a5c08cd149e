/- part 25 -/
import Derived.Test.YtglncfdpdaageaaGreatDoorZWholeErrors24
open Go Go.RowKit
set_option maxRecDepth 100000
namespace Go.Proofs.YtglncfdpdaageaaGreatDoor
theorem atc:gW T wE (jG [L8,HJ,G_,C5,By,YK,TZ,Rn,Q5,Mh,L7,JR,HI,Hu,G9]) 3000 Q6.1 Q6.2.1.1 Q6.2.1.2.1 Q6.2.1.2.2 qY=some Q6.2.2:=ci
