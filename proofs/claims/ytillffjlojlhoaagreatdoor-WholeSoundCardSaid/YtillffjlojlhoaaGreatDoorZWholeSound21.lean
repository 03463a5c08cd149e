/- part 21 -/
import Derived.Test.YtillffjlojlhoaaGreatDoorZWholeSound20
open Go Go.RowKit
set_option maxRecDepth 100000
namespace Go.Proofs.YtillffjlojlhoaaGreatDoor
theorem auU:im T wE (kR [EW,we9,W5,US,UG,PI,Pu,Nb,K6,KN,Ks]) 3000 GG.1 GG.2.1.1 GG.2.1.2.1 GG.2.1.2.2 tQ=some GG.2.2:=ci
