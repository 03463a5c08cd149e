/- part 15 -/
import Derived.Test.YtillffjlojlhoaaGreatDoorZWholeSound14
open Go Go.RowKit
set_option maxRecDepth 100000
namespace Go.Proofs.YtillffjlojlhoaaGreatDoor
theorem wr5:im T wE (kR [Pu,Nb,K6,KN,Ks]) 3000 PI.1 PI.2.1.1 PI.2.1.2.1 PI.2.1.2.2 tQ=some PI.2.2:=ci
