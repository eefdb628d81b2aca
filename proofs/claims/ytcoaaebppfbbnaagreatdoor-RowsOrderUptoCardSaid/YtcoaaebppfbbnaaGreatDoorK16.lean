/- Texts of the proof,one behind the other: Cf. -/
import Derived.Test.YtcoaaebppfbbnaaGreatDoorK15
set_option linter.all false
namespace Go.Proofs.YtcoaaebppfbbnaaGreatDoor
open Go.Ax
theorem Bvf:Zj (A6n Bool) Tryz.f8 [] [.bool] () some=some true:=by kernel_rfl
def Aap:Option Bool:=some true
def Apw:FT [] [.bool]:=λ_=>Aap
theorem A3i:FO 8 [] [.bool] Apw:=by exact Bq2 Tryz.func8 rfl (by kernel_rfl) (by kernel_rfl) Bvf
end Go.Proofs.YtcoaaebppfbbnaaGreatDoor
