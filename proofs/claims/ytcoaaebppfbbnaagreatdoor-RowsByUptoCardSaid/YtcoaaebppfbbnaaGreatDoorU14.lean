/- Texts of the proof,one behind the other: Cz. -/
import Derived.Test.YtcoaaebppfbbnaaGreatDoorU13
set_option linter.all false
namespace Go.Proofs.YtcoaaebppfbbnaaGreatDoor
open Go.Ax
def A9e:Yb1 (HV rangeI.sgs×HV rangeO.sgs):=[(([4,105,0,1,4,105,0,1,4,120,0,1],[4,105,0,1,4,105,0,1,4,120,0,2],9223372036854775807,s18),([B53],0,s18))]
def Buh:Yb1 (HV findI.sgs×HV findO.sgs):=[((t18,[⟨3,1,[]⟩],s18),(r18,true,0,s18))]
theorem Alq:FM 37 rangeI rangeO (Hm _ _ A9e):=Bt3 Tryz.func37 rfl (by kernel_rfl) (by kernel_rfl) B0e
theorem Avg:FM 21 findI findO (Hm _ _ Buh):=Bt3 Tryz.func21 rfl (by kernel_rfl) (by kernel_rfl) B4m
def tlB(R:Type):Yb1 (Nat×Fa R):=[(37,Ct rangeI rangeO (Hm _ _ A9e)),(21,Ct findI findO (Hm _ _ Buh))]
variable{R:Type}{cx:Cx}
theorem B3p(H:HX cx):∀g f,(g,f)∈tlB R->Hg cx g f:=l1 H Alq (l1 H Avg Ae)
def twB(R:Type):Yb1 (Nat×G4 R):=[(37,I4 rangeI rangeO (Hm _ _ A9e)),(21,I4 findI findO (Hm _ _ Buh))]
theorem B3m(H:HX cx):∀g f,(g,f)∈twB R->F1 cx g f:=w1 H Alq (w1 H Avg (λ_ _ h=>by cases h))
noncomputable def A5r(R:Type):Px R:=Bue (L6 R) (tbl (tlB R)) (tbl (twB R))
theorem Br2(R:Type)(cx:Cx)(a:cx.P=Tryz.prog)(e2:cx.el=elT)(b:cx.gl=glT):Lv2 cx (A5r R):=Bvw (Abv R cx a e2 b) (λg f h=>B3p (Adl a e2 b) g f (Dw h)) λg f h=>B3m (Adl a e2 b) g f (Dw h)
theorem Bxw{f:FuncId}{fn:Func}{c:Code}{sg so:Sig}{x:HV sg.sgs}{r:HV so.sgs}(d:Tryz.prog.funcs[f]? = some fn)(hb:fn.body=some c)(a:(fn.name == "runtime.NumGoroutine")=false)(hc:(Bw fn.ntmps c&&Nat.ble sg.n fn.ntmps)=true)(e:H7 (A5r (HV so.sgs)) fn sg so x some=some r):FM f sg so (Hm sg.sgs so.sgs [(x,r)]):=by
 refine(Acx (px:=A5r (HV so.sgs)) (F:=λx=>H7 (A5r (HV so.sgs)) fn sg so x some) d hb a follows hc (λcx g e2 i=>?_) (λ_=>rfl)).le (Ada ?_)
 ·have h:=(Br2 (HV so.sgs) cx g e2 i).to1;exact⟨h.1,h.2.1,h.2.2.1,λb _=>h.2.2.2 b⟩
 ·intro q j;cases List.mem_singleton.1 j;exact e
theorem B6g:H7 (A5r (HV byO.sgs)) Tryz.f18 byI byO (t18,[105],⟨4,0,[120]⟩,s18) some=some ([r18],0,s18):=by kernel_rfl
end Go.Proofs.YtcoaaebppfbbnaaGreatDoor
