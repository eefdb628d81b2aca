/- Texts of the proof,one behind the other: Cf. -/
import Derived.Test.YtcoaaebppfbbnaaGreatDoorJ15
set_option linter.all false
namespace Go.Proofs.YtcoaaebppfbbnaaGreatDoor
open Go.Ax
theorem Bvn:Zj (A5p Bool) Tryz.f8 [] [.bool] () some=some true:=by kernel_rfl
def Ae2:Option Bool:=some true
def Aqg:FT [] [.bool]:=λ_=>Ae2
theorem A1s:FO 8 [] [.bool] Aqg:=by exact Boi Tryz.func8 rfl (by kernel_rfl) (by kernel_rfl) Bvn
end Go.Proofs.YtcoaaebppfbbnaaGreatDoor
