/- Texts of the proof,one behind the other: Cy. -/
import Derived.Test.YtcoaaebppfbbnaaGreatDoorV13
set_option linter.all false
open Option renaming some->J
open Bool renaming true->ae
namespace Go.Proofs.YtcoaaebppfbbnaaGreatDoor
open Go.dS
theorem avy:ky (mo (au y4.b3)) Tryz.f21 Ci y4 (t18,[⟨3,1,[]⟩],kU) J=J (j7,ae,0,kU):=b0
end Go.Proofs.YtcoaaebppfbbnaaGreatDoor
