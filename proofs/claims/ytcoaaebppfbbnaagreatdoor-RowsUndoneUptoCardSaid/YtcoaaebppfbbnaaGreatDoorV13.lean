/- Texts of the proof,one behind the other: Cx. -/
import Derived.Test.YtcoaaebppfbbnaaGreatDoorV12
set_option linter.all false
open Option renaming some->J
namespace Go.Proofs.YtcoaaebppfbbnaaGreatDoor
open Go.dS
theorem aln:ky (mo (au za.b3)) Tryz.f37 CA za ([4,105,0,1,4,105,0,1,4,120,0,1],[4,105,0,1,4,105,0,1,4,120,0,2],9223372036854775807,kU) J=J ([aeg],0,kU):=b0
end Go.Proofs.YtcoaaebppfbbnaaGreatDoor
