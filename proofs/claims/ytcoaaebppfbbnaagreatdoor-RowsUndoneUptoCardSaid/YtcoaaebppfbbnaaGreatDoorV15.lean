/- Texts of the proof,one behind the other: Cz. -/
import Derived.Test.YtcoaaebppfbbnaaGreatDoorV14
set_option linter.all false
open Option renaming some->J
open Bool renaming true->ae,false->ai
open Nat renaming ble->dz
namespace Go.Proofs.YtcoaaebppfbbnaaGreatDoor
open Go.dS
def Oz:U (au CA.b3×au za.b3):=[(([4,105,0,1,4,105,0,1,4,120,0,1],[4,105,0,1,4,105,0,1,4,120,0,2],9223372036854775807,kU),([aeg],0,kU))]
def NL:U (au Ci.b3×au y4.b3):=[((t18,[⟨3,1,[]⟩],kU),(j7,ae,0,kU))]
theorem Vy:fb 37 CA za (hF _ _ Oz):=Zx Tryz.func37 rfl b0 b0 aln
theorem YS:fb 21 Ci y4 (hF _ _ NL):=Zx Tryz.func21 rfl b0 b0 avy
def af9(R:Type):U (Nat×iD R):=[(37,fS CA za (hF _ _ Oz)),(21,fS Ci y4 (hF _ _ NL))]
variable{R:Type}{ab:cB}
theorem au9(H:nw ab):∀g f,(g,f)∈af9 R->hk ab g f:=eO H Vy (eO H YS bm)
def agb(R:Type):U (Nat×mg R):=[(37,o7 CA za (hF _ _ Oz)),(21,o7 Ci y4 (hF _ _ NL))]
theorem Cap(H:nw ab):∀g f,(g,f)∈agb R->kZ ab g f:=w1 H Vy (w1 H YS (λ_ _ h=>by cases h))
noncomputable def zA(R:Type):aM R:=NK (mo R) (tbl (af9 R)) (tbl (agb R))
theorem aud(R:Type)(ab:cB)(a:ab.P=Tryz.prog)(aS:ab.el=gP)(b:ab.bM=mw):oc ab (zA R):=ajd (DZ R ab a aS b) (λg f h=>au9 (qd a aS b) g f (ke h)) λg f h=>Cap (qd a aS b) g f (ke h)
theorem ajC{f:FuncId}{fn:Func}{c:Code}{aQ bG:bt}{x:au aQ.b3}{r:au bG.b3}(d:Tryz.prog.funcs[f]? = J fn)(aj:fn.body=J c)(a:(fn.name == "runtime.NumGoroutine")=ai)(an:(fe fn.ntmps c&&dz aQ.n fn.ntmps)=ae)(e:ky (zA (au bG.b3)) fn aQ bG x J=J r):fb f aQ bG (hF aQ.b3 bG.b3 [(x,r)]):=by
 refine(z5 (px:=zA (au bG.b3)) (F:=λx=>ky (zA (au bG.b3)) fn aQ bG x J) d aj a follows an (λab g aS i=>?_) (λ_=>rfl)).le (zY ?_)
 .have h:=(aud (au bG.b3) ab g aS i).sA;exact zG
 .intro q j;exact Kx
theorem awp:ky (zA (au B9.b3)) Tryz.f18 IF B9 (t18,[105],⟨4,0,[120]⟩,kU) J=J ([j7],0,kU):=b0
end Go.Proofs.YtcoaaebppfbbnaaGreatDoor
