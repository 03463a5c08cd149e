/- part 26 -/
import Derived.Test.YtpndmjnaljjbaaaGreatDoorZWholeRefused25
open Go Go.RowKit
set_option maxRecDepth 100000
namespace Go.Proofs.YtpndmjnaljjbaaaGreatDoor
theorem awk:hA T wE (kj [VS,QB,L6,Li,Hl,Fp,we9,Yd,V5,VQ,QX,QA,Oh,L5,LM,Lh]) 3000 Ye.1 Ye.2.1.1 Ye.2.1.2.1 Ye.2.1.2.2 sO=some Ye.2.2:=ci
