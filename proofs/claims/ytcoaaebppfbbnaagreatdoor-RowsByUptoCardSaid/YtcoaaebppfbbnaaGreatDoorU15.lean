/- Texts of the proof,one behind the other: Ch. -/
import Derived.Test.YtcoaaebppfbbnaaGreatDoorU14
set_option linter.all false
namespace Go.Proofs.YtcoaaebppfbbnaaGreatDoor
open Go.Ax
def B55:Yb1 (HV pinI.sgs×HV pinO.sgs):=[((t18,r18,e18),(0,s18)),((t18,r18,s18),(180,s18))]
def byM:Yb1 (HV byI.sgs×HV byO.sgs):=[((t18,[105],⟨4,0,[120]⟩,s18),([r18],0,s18))]
theorem Bur:FM 13 pinI pinO (Hm _ _ B55):=Byz Tryz.func13 rfl (by kernel_rfl) (by kernel_rfl) B4q B4n
theorem Bxd:FM 18 byI byO (Hm _ _ byM):=Bxw Tryz.func18 rfl (by kernel_rfl) (by kernel_rfl) B6g
def twM(R:Type):Yb1 (Nat×G4 R):=[(13,I4 pinI pinO (Hm _ _ B55)),(18,I4 byI byO (Hm _ _ byM))]
theorem B3b{R:Type}{cx:Cx}(H:HX cx):∀g f,(g,f)∈twM R->F1 cx g f:=w1 H Bur (w1 H Bxd (λ_ _ h=>by cases h))
noncomputable def Bdk(R:Type):Px R:=B31 (L6 R) (tbl (twM R))
theorem Bux(R:Type)(cx:Cx)(a:cx.P=Tryz.prog)(e2:cx.el=elT)(b:cx.gl=glT):Lv2 cx (Bdk R):=Bzg (Abv R cx a e2 b) λg f h=>B3b (Adl a e2 b) g f (Dw h)
theorem B0b{f:FuncId}{fn:Func}{c:Code}{sr:Yb1 Sg}{r:HV sr}(d:Tryz.prog.funcs[f]? = some fn)(hb:fn.body=some c)(a:(fn.name == "runtime.NumGoroutine")=false)(hc:(Bw fn.ntmps c)=true)(e:Ae1 (Bdk (HV sr)) fn [] sr () some=some r):FO f [] sr (λ_=>some r):=by refine Azx d hb a follows (px:=Bdk (HV sr)) (by rw[hc];simp[Bb,Dk]) (λcx g e2 i _=>?_) (λ_=>e);have h:=(Bux (HV sr) cx g e2 i).to1;exact⟨h.1,h.2.1,h.2.2.1,λb _=>h.2.2.2 b⟩
end Go.Proofs.YtcoaaebppfbbnaaGreatDoor
