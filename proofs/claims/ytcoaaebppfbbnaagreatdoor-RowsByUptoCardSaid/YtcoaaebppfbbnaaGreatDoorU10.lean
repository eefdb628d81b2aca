/- Texts of the proof,one behind the other: Cv. -/
import Derived.Test.YtcoaaebppfbbnaaGreatDoorU9
set_option linter.all false
namespace Go.Proofs.YtcoaaebppfbbnaaGreatDoor
open Go.Ax
theorem B4q:H7 (L6 (HV pinO.sgs)) Tryz.f13 pinI pinO (t18,r18,e18) some=some (0,s18):=by kernel_rfl
end Go.Proofs.YtcoaaebppfbbnaaGreatDoor
