/- part 27 -/
import Derived.Test.YtmdbmigbihboaaaGreatDoorZWholeNothing26
set_option linter.all false
open Go Go.RowKit
set_option maxRecDepth 100000
namespace Go.Proofs.YtmdbmigbihboaaaGreatDoor
section
def wr:(gQ T wE (jt [RE,Pa,Kf,F2,Fy,BL,Ai,WC,RD,Pj,O_,Kk,Ke,H5,F1,FL,Fx]) 3000 4 [] .lf 0 λc _ _=>match c with
 |.v (.bool true)=>some 0
 |_=>none)=some 0:=by kernel_rfl
