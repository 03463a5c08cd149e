/- part 23 -/
import Derived.Test.YtglncfdpdaageaaGreatDoorZWholeErrors22
open Go Go.RowKit
set_option maxRecDepth 100000
namespace Go.Proofs.YtglncfdpdaageaaGreatDoor
theorem ata:gW T wE (jG [G_,C5,By,YK,TZ,Rn,Q5,Mh,L7,JR,HI,Hu,G9]) 3000 HJ.1 HJ.2.1.1 HJ.2.1.2.1 HJ.2.1.2.2 qY=some HJ.2.2:=ci
