/- Texts of the proof,one behind the other: Ch. -/
import Derived.Test.YtcoaaebppfbbnaaGreatDoorV15
set_option linter.all false
open Option renaming some->J
open Bool renaming true->ae,false->ai
namespace Go.Proofs.YtcoaaebppfbbnaaGreatDoor
open Go.dS
def aem:U (au Cx.b3×au vh.b3):=[((t18,j7,IH),(0,kU)),((t18,j7,kU),(180,kU))]
def afa:U (au IF.b3×au B9.b3):=[((t18,[105],⟨4,0,[120]⟩,kU),([j7],0,kU))]
theorem aiI:fb 13 Cx vh (hF _ _ aem):=aka Tryz.func13 rfl b0 b0 avA avz
theorem ajQ:fb 18 IF B9 (hF _ _ afa):=ajC Tryz.func18 rfl b0 b0 awp
def agc(R:Type):U (Nat×mg R):=[(13,o7 Cx vh (hF _ _ aem)),(18,o7 IF B9 (hF _ _ afa))]
theorem auW{R:Type}{ab:cB}(H:nw ab):∀g f,(g,f)∈agc R->kZ ab g f:=w1 H aiI (w1 H ajQ (λ_ _ h=>by cases h))
noncomputable def FI(R:Type):aM R:=Po (mo R) (tbl (agc R))
theorem aiQ(R:Type)(ab:cB)(a:ab.P=Tryz.prog)(aS:ab.el=gP)(b:ab.bM=mw):oc ab (FI R):=akS (DZ R ab a aS b) λg f h=>auW (qd a aS b) g f (ke h)
theorem alk{f:FuncId}{fn:Func}{c:Code}{bH:U ck}{r:au bH}(d:Tryz.prog.funcs[f]? = J fn)(aj:fn.body=J c)(a:(fn.name == "runtime.NumGoroutine")=ai)(an:(fe fn.ntmps c)=ae)(e:mF (FI (au bH)) fn [] bH () J=J r):aN f [] bH (λ_=>J r):=by refine J4 d aj a follows (px:=FI (au bH)) (by rw[an];simp[c8,im]) (λab g aS i _=>?_) (λ_=>e);have h:=(aiQ (au bH) ab g aS i).sA;exact zG
end Go.Proofs.YtcoaaebppfbbnaaGreatDoor
