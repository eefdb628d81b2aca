/- Texts of the proof,one behind the other: Cv. -/
import Derived.Test.YtcoaaebppfbbnaaGreatDoorV10
set_option linter.all false
open Option renaming some->J
namespace Go.Proofs.YtcoaaebppfbbnaaGreatDoor
open Go.dS
theorem avA:ky (mo (au vh.b3)) Tryz.f13 Cx vh (t18,j7,IH) J=J (0,kU):=b0
end Go.Proofs.YtcoaaebppfbbnaaGreatDoor
