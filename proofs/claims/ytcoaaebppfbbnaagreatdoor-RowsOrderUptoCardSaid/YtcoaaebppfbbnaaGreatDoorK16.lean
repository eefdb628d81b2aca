/- Texts of the proof,one behind the other: Cf. -/
import Derived.Test.YtcoaaebppfbbnaaGreatDoorK15
set_option linter.all false
namespace Go.Proofs.YtcoaaebppfbbnaaGreatDoor
open Go.Ax
theorem Bv7:Za (A67 Bool) Tryz.f8 [] [.bool] () some=some true:=by kernel_rfl
def Aa0:Option Bool:=some true
def Aot:FT [] [.bool]:=λ_=>Aa0
theorem A2c:FO 8 [] [.bool] Aot:=by exact Bof Tryz.func8 rfl (by kernel_rfl) (by kernel_rfl) Bv7
end Go.Proofs.YtcoaaebppfbbnaaGreatDoor
