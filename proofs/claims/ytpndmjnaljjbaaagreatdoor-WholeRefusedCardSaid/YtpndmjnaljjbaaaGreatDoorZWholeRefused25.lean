/- part 25 -/
import Derived.Test.YtpndmjnaljjbaaaGreatDoorZWholeRefused24
open Go Go.RowKit
set_option maxRecDepth 100000
namespace Go.Proofs.YtpndmjnaljjbaaaGreatDoor
theorem awj:hA T wE (kj [QB,L6,Li,Hl,Fp,we9,Yd,V5,VQ,QX,QA,Oh,L5,LM,Lh]) 3000 VS.1 VS.2.1.1 VS.2.1.2.1 VS.2.1.2.2 sO=some VS.2.2:=ci
