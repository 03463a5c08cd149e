/- part 20 -/
import Derived.Test.YtillffjlojlhoaaGreatDoorZWholeSound19
open Go Go.RowKit
set_option maxRecDepth 100000
namespace Go.Proofs.YtillffjlojlhoaaGreatDoor
theorem auT:im T wE (kR [we9,W5,US,UG,PI,Pu,Nb,K6,KN,Ks]) 3000 EW.1 EW.2.1.1 EW.2.1.2.1 EW.2.1.2.2 tQ=some EW.2.2:=ci
