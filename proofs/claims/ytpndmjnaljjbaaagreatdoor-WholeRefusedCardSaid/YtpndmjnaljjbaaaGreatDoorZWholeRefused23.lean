/- part 23 -/
import Derived.Test.YtpndmjnaljjbaaaGreatDoorZWholeRefused22
open Go Go.RowKit
set_option maxRecDepth 100000
namespace Go.Proofs.YtpndmjnaljjbaaaGreatDoor
theorem awh:hA T wE (kj [Li,Hl,Fp,we9,Yd,V5,VQ,QX,QA,Oh,L5,LM,Lh]) 3000 L6.1 L6.2.1.1 L6.2.1.2.1 L6.2.1.2.2 sO=some L6.2.2:=ci
