/- Texts of the proof,one behind the other: Cx. -/
import Derived.Test.YtcoaaebppfbbnaaGreatDoorK11
set_option linter.all false
namespace Go.Proofs.YtcoaaebppfbbnaaGreatDoor
open Go.Ax
theorem Bq5:Hg (Kp (HV rangeO.sgs)) Tryz.f37 rangeI rangeO ([4,105,0,1,4,105,0,1,4,120,0,1],[4,105,0,1,4,105,0,1,4,120,0,2],9223372036854775807,s18) some=some ([Bwm],0,s18):=by kernel_rfl
end Go.Proofs.YtcoaaebppfbbnaaGreatDoor
