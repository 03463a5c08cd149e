/- part 19 -/
import Derived.Test.YtpndmjnaljjbaaaGreatDoorZWholeRefused18
open Go Go.RowKit
set_option maxRecDepth 100000
namespace Go.Proofs.YtpndmjnaljjbaaaGreatDoor
theorem wr9:hA T wE (kj [Yd,V5,VQ,QX,QA,Oh,L5,LM,Lh]) 3000 we9.1 we9.2.1.1 we9.2.1.2.1 we9.2.1.2.2 sO=some we9.2.2:=ci
