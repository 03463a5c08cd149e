/- part 16 -/
import Derived.Test.YtpndmjnaljjbaaaGreatDoorZWholeRefused15
open Go Go.RowKit
set_option maxRecDepth 100000
namespace Go.Proofs.YtpndmjnaljjbaaaGreatDoor
theorem wr6:hA T wE (kj [QX,QA,Oh,L5,LM,Lh]) 3000 VQ.1 VQ.2.1.1 VQ.2.1.2.1 VQ.2.1.2.2 sO=some VQ.2.2:=ci
