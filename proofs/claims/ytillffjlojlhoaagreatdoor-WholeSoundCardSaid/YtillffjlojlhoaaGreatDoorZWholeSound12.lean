/- part 12 -/
import Derived.Test.YtillffjlojlhoaaGreatDoorZWholeSound11
open Go Go.RowKit
set_option maxRecDepth 100000
namespace Go.Proofs.YtillffjlojlhoaaGreatDoor
theorem wr2:im T wE (kR [KN,Ks]) 3000 K6.1 K6.2.1.1 K6.2.1.2.1 K6.2.1.2.2 tQ=some K6.2.2:=ci
