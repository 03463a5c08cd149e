/- part 16 -/
import Derived.Test.YtillffjlojlhoaaGreatDoorZWholeSound15
open Go Go.RowKit
set_option maxRecDepth 100000
namespace Go.Proofs.YtillffjlojlhoaaGreatDoor
theorem wr6:im T wE (kR [PI,Pu,Nb,K6,KN,Ks]) 3000 UG.1 UG.2.1.1 UG.2.1.2.1 UG.2.1.2.2 tQ=some UG.2.2:=ci
