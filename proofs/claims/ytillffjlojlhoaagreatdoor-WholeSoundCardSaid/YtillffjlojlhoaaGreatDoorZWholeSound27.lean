/- part 27 -/
import Derived.Test.YtillffjlojlhoaaGreatDoorZWholeSound26
open Go Go.RowKit
set_option maxRecDepth 100000
namespace Go.Proofs.YtillffjlojlhoaaGreatDoor
theorem wr:(im T wE (kR [W6,UH,Pv,K7,Kt,GG,EW,we9,W5,US,UG,PI,Pu,Nb,K6,KN,Ks]) 3000 5 [] .lf 0 λc _ _=>match c with
 |.v (.bool true)=>some 0
 |_=>none)=some 0:=ci
