/- Texts of the proof,one behind the other: Cy. -/
import Derived.Test.YtcoaaebppfbbnaaGreatDoorK12
set_option linter.all false
namespace Go.Proofs.YtcoaaebppfbbnaaGreatDoor
open Go.Ax
theorem Bu2:Hg (Kp (HV findO.sgs)) Tryz.f21 findI findO (t18,[⟨3,1,[]⟩],s18) some=some (r18,true,0,s18):=by kernel_rfl
end Go.Proofs.YtcoaaebppfbbnaaGreatDoor
