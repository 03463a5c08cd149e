/- part 18 -/
import Derived.Test.YtpndmjnaljjbaaaGreatDoorZWholeRefused17
open Go Go.RowKit
set_option maxRecDepth 100000
namespace Go.Proofs.YtpndmjnaljjbaaaGreatDoor
theorem wr8:hA T wE (kj [V5,VQ,QX,QA,Oh,L5,LM,Lh]) 3000 Yd.1 Yd.2.1.1 Yd.2.1.2.1 Yd.2.1.2.2 sO=some Yd.2.2:=ci
