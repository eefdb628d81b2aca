/- Texts of the proof,one behind the other: Cz. -/
import Derived.Test.YtcoaaebppfbbnaaGreatDoorK13
set_option linter.all false
namespace Go.Proofs.YtcoaaebppfbbnaaGreatDoor
open Go.Ax
def A3z:List (HV rangeI.sgs×HV rangeO.sgs):=[(([4,105,0,1,4,105,0,1,4,120,0,1],[4,105,0,1,4,105,0,1,4,120,0,2],9223372036854775807,s18),([Bv4],0,s18))]
def Bja:List (HV findI.sgs×HV findO.sgs):=[((t18,[⟨3,1,[]⟩],s18),(r18,true,0,s18))]
theorem Ahf:FM 37 rangeI rangeO (G9 _ _ A3z) :=Bfw Tryz.func37 rfl (by kernel_rfl) (by kernel_rfl) Bqh
theorem Am7:FM 21 findI findO (G9 _ _ Bja) :=Bfw Tryz.func21 rfl (by kernel_rfl) (by kernel_rfl) Bt9
def tlB(R:Type):List (Nat×Et R):=[(37,Cs rangeI rangeO (G9 _ _ A3z)),(21,Cs findI findO (G9 _ _ Bja))]
theorem Btl{R:Type}{cx:Cx}(H:HX cx):∀g f,(g,f)∈tlB R->Gw cx g f:=l1 H Ahf (l1 H Am7 Ae)
def twB(R:Type):List (Nat×Gf R):=[(37,Kn rangeI rangeO (G9 _ _ A3z)),(21,Kn findI findO (G9 _ _ Bja))]
theorem Btn{R:Type}{cx:Cx}(H:HX cx):∀g f,(g,f)∈twB R->Fb cx g f:=w1 H Ahf (w1 H Am7 (λ_ _ h=>by cases h))
noncomputable def Aw6(R:Type):Px R:=Bm4 (Kh R) (tbl (tlB R)) (tbl (twB R))
theorem Bk6(R:Type)(cx:Cx)(e1:cx.P=Tryz.prog)(e2:cx.el=elT)(e3:cx.gl=glT):Lv2 cx (Aw6 R) :=Bi0 (Y8 R cx e1 e2 e3) (λg f h=>Btl (Aa1 e1 e2 e3) g f (Df h)) λg f h=>Btn (Aa1 e1 e2 e3) g f (Df h)
theorem Bo2{f:FuncId}{fn:Func}{c:Code}{sg so:Sig}{x:HV sg.sgs}{r:HV so.sgs}(hf:Tryz.prog.funcs[f]? = some fn)(hb:fn.body=some c)(hname:(fn.name == "runtime.NumGoroutine")=false)(hc:(Bm fn.ntmps c&&Nat.ble sg.n fn.ntmps)=true)(hr:Hg (Aw6 (HV so.sgs)) fn sg so x some=some r):FM f sg so (G9 sg.sgs so.sgs [(x,r)]):=by
 refine(Aay (px:=Aw6 (HV so.sgs)) (F:=λx=>Hg (Aw6 (HV so.sgs)) fn sg so x some) hf hb hname follows hc (λcx e1 e2 e3 =>?_) (λ_=>rfl)).le (Z0 ?_)
 ·have h:=(Bk6 (HV so.sgs) cx e1 e2 e3).to1;exact⟨h.1,h.2.1,h.2.2.1,λb _=>h.2.2.2 b⟩
 ·intro q hq;cases List.mem_singleton.1 hq;exact hr
theorem Bwz:Hg (Aw6 (HV byO.sgs)) Tryz.f18 byI byO (t18,[105],⟨4,0,[120]⟩,s18) some=some ([r18],0,s18):=by kernel_rfl
end Go.Proofs.YtcoaaebppfbbnaaGreatDoor
