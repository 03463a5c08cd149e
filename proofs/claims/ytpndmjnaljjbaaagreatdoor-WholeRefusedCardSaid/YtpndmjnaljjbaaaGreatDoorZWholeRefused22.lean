/- part 22 -/
import Derived.Test.YtpndmjnaljjbaaaGreatDoorZWholeRefused21
open Go Go.RowKit
set_option maxRecDepth 100000
namespace Go.Proofs.YtpndmjnaljjbaaaGreatDoor
theorem awg:hA T wE (kj [Hl,Fp,we9,Yd,V5,VQ,QX,QA,Oh,L5,LM,Lh]) 3000 Li.1 Li.2.1.1 Li.2.1.2.1 Li.2.1.2.2 sO=some Li.2.2:=ci
