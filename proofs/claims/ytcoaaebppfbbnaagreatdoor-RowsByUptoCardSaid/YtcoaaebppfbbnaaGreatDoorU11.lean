/- Texts of the proof,one behind the other: Cw. -/
import Derived.Test.YtcoaaebppfbbnaaGreatDoorU10
set_option linter.all false
namespace Go.Proofs.YtcoaaebppfbbnaaGreatDoor
open Go.Ax
theorem B4n:H7 (L6 (HV pinO.sgs)) Tryz.f13 pinI pinO (t18,r18,s18) some=some (180,s18):=by kernel_rfl
end Go.Proofs.YtcoaaebppfbbnaaGreatDoor
