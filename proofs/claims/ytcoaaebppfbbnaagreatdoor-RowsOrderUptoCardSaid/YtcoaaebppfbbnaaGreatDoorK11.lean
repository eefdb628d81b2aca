/- Texts of the proof,one behind the other: Cw. -/
import Derived.Test.YtcoaaebppfbbnaaGreatDoorK10
set_option linter.all false
namespace Go.Proofs.YtcoaaebppfbbnaaGreatDoor
open Go.Ax
theorem Bu3:Hg (Kp (HV pinO.sgs)) Tryz.f13 pinI pinO (t18,r18,s18) some=some (180,s18):=by kernel_rfl
end Go.Proofs.YtcoaaebppfbbnaaGreatDoor
