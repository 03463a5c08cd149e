/- part 27 -/
import Derived.Test.YtglncfdpdaageaaGreatDoorZWholeErrors26
open Go Go.RowKit
set_option maxRecDepth 100000
namespace Go.Proofs.YtglncfdpdaageaaGreatDoor
theorem wr:(gW T wE (jG [T0,Q6,L8,HJ,G_,C5,By,YK,TZ,Rn,Q5,Mh,L7,JR,HI,Hu,G9]) 3000 4 [] .lf 0 λc _ _=>match c with
 |.v (.bool true)=>some 0
 |_=>none)=some 0:=ci
