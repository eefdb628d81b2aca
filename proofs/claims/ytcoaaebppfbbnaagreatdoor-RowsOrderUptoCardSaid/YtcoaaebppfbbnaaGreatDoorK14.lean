/- Texts of the proof,one behind the other: Cz. -/
import Derived.Test.YtcoaaebppfbbnaaGreatDoorK13
set_option linter.all false
namespace Go.Proofs.YtcoaaebppfbbnaaGreatDoor
open Go.Ax
def A2t:List (HV rangeI.sgs×HV rangeO.sgs):=[(([4,105,0,1,4,105,0,1,4,120,0,1],[4,105,0,1,4,105,0,1,4,120,0,2],9223372036854775807,s18),([Bwm],0,s18))]
def Ble:List (HV findI.sgs×HV findO.sgs):=[((t18,[⟨3,1,[]⟩],s18),(r18,true,0,s18))]
theorem Ah4:FM 37 rangeI rangeO (G0 _ _ A2t) :=Bk0 Tryz.func37 rfl (by kernel_rfl) (by kernel_rfl) Bq5
theorem Apq:FM 21 findI findO (G0 _ _ Ble) :=Bk0 Tryz.func21 rfl (by kernel_rfl) (by kernel_rfl) Bu2
def tlB(R:Type):List (Nat×Ev R):=[(37,C1 rangeI rangeO (G0 _ _ A2t)),(21,C1 findI findO (G0 _ _ Ble))]
theorem Bt4{R:Type}{cx:Cx}(H:HX cx):∀g f,(g,f)∈tlB R->Gt cx g f:=l1 H Ah4 (l1 H Apq Ae)
def twB(R:Type):List (Nat×Gi R):=[(37,Kf rangeI rangeO (G0 _ _ A2t)),(21,Kf findI findO (G0 _ _ Ble))]
theorem Bt1{R:Type}{cx:Cx}(H:HX cx):∀g f,(g,f)∈twB R->Fb cx g f:=w1 H Ah4 (w1 H Apq (λ_ _ h=>by cases h))
noncomputable def Azd(R:Type):Px R:=Blb (Kp R) (tbl (tlB R)) (tbl (twB R))
theorem Bjb(R:Type)(cx:Cx)(e1:cx.P=Tryz.prog)(e2:cx.el=elT)(e3:cx.gl=glT):Lv2 cx (Azd R) :=Bms (Y3 R cx e1 e2 e3) (λg f h=>Bt4 (Aa1 e1 e2 e3) g f (Df h)) λg f h=>Bt1 (Aa1 e1 e2 e3) g f (Df h)
theorem Bop{f:FuncId}{fn:Func}{c:Code}{sg so:Sig}{x:HV sg.sgs}{r:HV so.sgs}(hf:Tryz.prog.funcs[f]? = some fn)(hb:fn.body=some c)(hname:(fn.name == "runtime.NumGoroutine")=false)(hc:(Bm fn.ntmps c&&Nat.ble sg.n fn.ntmps)=true)(hr:Hg (Azd (HV so.sgs)) fn sg so x some=some r):FM f sg so (G0 sg.sgs so.sgs [(x,r)]):=by
 refine(Aad (px:=Azd (HV so.sgs)) (F:=λx=>Hg (Azd (HV so.sgs)) fn sg so x some) hf hb hname follows hc (λcx e1 e2 e3 =>?_) (λ_=>rfl)).le (Aar ?_)
 ·have h:=(Bjb (HV so.sgs) cx e1 e2 e3).to1;exact⟨h.1,h.2.1,h.2.2.1,λb _=>h.2.2.2 b⟩
 ·intro q hq;cases List.mem_singleton.1 hq;exact hr
theorem Bwy:Hg (Azd (HV byO.sgs)) Tryz.f18 byI byO (t18,[105],⟨4,0,[120]⟩,s18) some=some ([r18],0,s18):=by kernel_rfl
end Go.Proofs.YtcoaaebppfbbnaaGreatDoor
