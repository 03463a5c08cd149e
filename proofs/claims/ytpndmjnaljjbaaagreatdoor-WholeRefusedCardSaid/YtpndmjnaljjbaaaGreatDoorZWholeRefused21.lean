/- part 21 -/
import Derived.Test.YtpndmjnaljjbaaaGreatDoorZWholeRefused20
open Go Go.RowKit
set_option maxRecDepth 100000
namespace Go.Proofs.YtpndmjnaljjbaaaGreatDoor
theorem awf:hA T wE (kj [Fp,we9,Yd,V5,VQ,QX,QA,Oh,L5,LM,Lh]) 3000 Hl.1 Hl.2.1.1 Hl.2.1.2.1 Hl.2.1.2.2 sO=some Hl.2.2:=ci
