/- part 14 -/
import Derived.Test.YtillffjlojlhoaaGreatDoorZWholeSound13
open Go Go.RowKit
set_option maxRecDepth 100000
namespace Go.Proofs.YtillffjlojlhoaaGreatDoor
theorem wr4:im T wE (kR [Nb,K6,KN,Ks]) 3000 Pu.1 Pu.2.1.1 Pu.2.1.2.1 Pu.2.1.2.2 tQ=some Pu.2.2:=ci
