/- Texts of the proof,one behind the other: Cw. -/
import Derived.Test.YtcoaaebppfbbnaaGreatDoorV11
set_option linter.all false
open Option renaming some->J
namespace Go.Proofs.YtcoaaebppfbbnaaGreatDoor
open Go.dS
theorem avz:ky (mo (au vh.b3)) Tryz.f13 Cx vh (t18,j7,kU) J=J (180,kU):=b0
end Go.Proofs.YtcoaaebppfbbnaaGreatDoor
