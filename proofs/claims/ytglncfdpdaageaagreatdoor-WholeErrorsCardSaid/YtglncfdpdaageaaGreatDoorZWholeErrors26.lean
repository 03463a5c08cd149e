/- part 26 -/
import Derived.Test.YtglncfdpdaageaaGreatDoorZWholeErrors25
open Go Go.RowKit
set_option maxRecDepth 100000
namespace Go.Proofs.YtglncfdpdaageaaGreatDoor
theorem atd:gW T wE (jG [Q6,L8,HJ,G_,C5,By,YK,TZ,Rn,Q5,Mh,L7,JR,HI,Hu,G9]) 3000 T0.1 T0.2.1.1 T0.2.1.2.1 T0.2.1.2.2 qY=some T0.2.2:=ci
