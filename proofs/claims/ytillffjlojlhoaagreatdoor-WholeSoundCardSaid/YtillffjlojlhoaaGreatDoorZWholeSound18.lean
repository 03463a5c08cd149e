/- part 18 -/
import Derived.Test.YtillffjlojlhoaaGreatDoorZWholeSound17
open Go Go.RowKit
set_option maxRecDepth 100000
namespace Go.Proofs.YtillffjlojlhoaaGreatDoor
theorem wr8:im T wE (kR [US,UG,PI,Pu,Nb,K6,KN,Ks]) 3000 W5.1 W5.2.1.1 W5.2.1.2.1 W5.2.1.2.2 tQ=some W5.2.2:=ci
