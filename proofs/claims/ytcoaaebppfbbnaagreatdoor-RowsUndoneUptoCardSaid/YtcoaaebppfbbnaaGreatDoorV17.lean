/- Texts of the proof,one behind the other: Cf. -/
import Derived.Test.YtcoaaebppfbbnaaGreatDoorV16
set_option linter.all false
open Option renaming some->J
open Bool renaming true->ae
namespace Go.Proofs.YtcoaaebppfbbnaaGreatDoor
open Go.dS
theorem avg:mF (FI Bool) Tryz.f8 [] [.bool] () J=J true:=b0
def yF:af Bool:=J ae
def Yx:bb [] [.bool]:=λ_=>yF
theorem anr:aN 8 [] [.bool] Yx:=by exact alk Tryz.func8 rfl b0 b0 avg
end Go.Proofs.YtcoaaebppfbbnaaGreatDoor
