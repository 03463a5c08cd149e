/- part 27 -/
import Derived.Test.YtpndmjnaljjbaaaGreatDoorZWholeRefused26
open Go Go.RowKit
set_option maxRecDepth 100000
namespace Go.Proofs.YtpndmjnaljjbaaaGreatDoor
theorem wr:(hA T wE (kj [Ye,VS,QB,L6,Li,Hl,Fp,we9,Yd,V5,VQ,QX,QA,Oh,L5,LM,Lh]) 3000 4 [] .lf 0 λc _ _=>match c with
 |.v (.bool true)=>some 0
 |_=>none)=some 0:=ci
