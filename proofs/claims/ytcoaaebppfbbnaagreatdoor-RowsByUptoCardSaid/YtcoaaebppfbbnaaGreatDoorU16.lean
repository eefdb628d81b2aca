/- Texts of the proof,one behind the other: Cf. -/
import Derived.Test.YtcoaaebppfbbnaaGreatDoorU15
set_option linter.all false
namespace Go.Proofs.YtcoaaebppfbbnaaGreatDoor
open Go.Ax
theorem B4y:Ae1 (Bdk Bool) Tryz.f8 [] [.bool] () some=some true:=by kernel_rfl
def Ajx:Ya1 Bool:=some true
def Avp:FT [] [.bool]:=λ_=>Ajx
theorem A92:FO 8 [] [.bool] Avp:=by exact B0b Tryz.func8 rfl (by kernel_rfl) (by kernel_rfl) B4y
end Go.Proofs.YtcoaaebppfbbnaaGreatDoor
