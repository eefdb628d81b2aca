/- Texts of the proof,one behind the other: Cz. -/
import Derived.Test.YtcoaaebppfbbnaaGreatDoorJ13
set_option linter.all false
namespace Go.Proofs.YtcoaaebppfbbnaaGreatDoor
open Go.Ax
def A2h:List (HV rangeI.sgs×HV rangeO.sgs):=[(([4,105,0,1,4,105,0,1,4,120,0,1],[4,105,0,1,4,105,0,1,4,120,0,2],9223372036854775807,s18),([Bu2],0,s18))]
def Blt:List (HV findI.sgs×HV findO.sgs):=[((t18,[⟨3,1,[]⟩],s18),(r18,true,0,s18))]
theorem Ajp:FM 37 rangeI rangeO (Gz _ _ A2h) :=Bkm Tryz.func37 rfl (by kernel_rfl) (by kernel_rfl) Brc
theorem Ant:FM 21 findI findO (Gz _ _ Blt) :=Bkm Tryz.func21 rfl (by kernel_rfl) (by kernel_rfl) Bst
def tlB(R:Type):List (Nat×E7 R):=[(37,Gl rangeI rangeO (Gz _ _ A2h)),(21,Gl findI findO (Gz _ _ Blt))]
theorem Btn{R:Type}{cx:Cx}(H:HX cx):∀g f,(g,f)∈tlB R->Gn cx g f:=l1 H Ajp (l1 H Ant Ae)
def twB(R:Type):List (Nat×Hn R):=[(37,Kx rangeI rangeO (Gz _ _ A2h)),(21,Kx findI findO (Gz _ _ Blt))]
theorem Bs5{R:Type}{cx:Cx}(H:HX cx):∀g f,(g,f)∈twB R->Ff cx g f:=w1 H Ajp (w1 H Ant (λ_ _ h=>by cases h))
noncomputable def Ayo(R:Type):Px R:=Bly (Kk R) (tbl (tlB R)) (tbl (twB R))
theorem Bje(R:Type)(cx:Cx)(e1:cx.P=Tryz.prog)(e2:cx.el=elT)(e3:cx.gl=glT):Lv2 cx (Ayo R) :=Bm4 (Xi R cx e1 e2 e3) (λg f h=>Btn (Xj e1 e2 e3) g f (Dc h)) λg f h=>Bs5 (Xj e1 e2 e3) g f (Dc h)
theorem Bq6{f:FuncId}{fn:Func}{c:Code}{sg so:Sig}{x:HV sg.sgs}{r:HV so.sgs}(hf:Tryz.prog.funcs[f]? = some fn)(hb:fn.body=some c)(hname:(fn.name == "runtime.NumGoroutine")=false)(hc:(Cq fn.ntmps c&&Nat.ble sg.n fn.ntmps)=true)(hr:Jl (Ayo (HV so.sgs)) fn sg so x some=some r):FM f sg so (Gz sg.sgs so.sgs [(x,r)]):=by
 refine(Ae8 (px:=Ayo (HV so.sgs)) (F:=λx=>Jl (Ayo (HV so.sgs)) fn sg so x some) hf hb hname follows hc (λcx e1 e2 e3 =>?_) (λ_=>rfl)).le (Yh ?_)
 ·have h:=(Bje (HV so.sgs) cx e1 e2 e3).to1;exact⟨h.1,h.2.1,h.2.2.1,λb _=>h.2.2.2 b⟩
 ·intro q hq;cases List.mem_singleton.1 hq;exact hr
theorem Bwe:Jl (Ayo (HV byO.sgs)) Tryz.f18 byI byO (t18,[105],⟨4,0,[120]⟩,s18) some=some ([r18],0,s18):=by kernel_rfl
end Go.Proofs.YtcoaaebppfbbnaaGreatDoor
