/- Texts of the proof,one behind the other: Cv. -/
import Derived.Test.YtcoaaebppfbbnaaGreatDoorK9
set_option linter.all false
namespace Go.Proofs.YtcoaaebppfbbnaaGreatDoor
open Go.Ax
theorem Bu6:Hg (Kp (HV pinO.sgs)) Tryz.f13 pinI pinO (t18,r18,e18) some=some (0,s18):=by kernel_rfl
end Go.Proofs.YtcoaaebppfbbnaaGreatDoor
