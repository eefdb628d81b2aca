/- Texts of the proof,one behind the other: Ch. -/
import Derived.Test.YtcoaaebppfbbnaaGreatDoorK14
set_option linter.all false
namespace Go.Proofs.YtcoaaebppfbbnaaGreatDoor
open Go.Ax
def Bwe:List (HV pinI.sgs×HV pinO.sgs):=[((t18,r18,e18),(0,s18)),((t18,r18,s18),(180,s18))]
def byM:List (HV byI.sgs×HV byO.sgs):=[((t18,[105],⟨4,0,[120]⟩,s18),([r18],0,s18))]
theorem Blr:FM 13 pinI pinO (G9 _ _ Bwe) :=Bog Tryz.func13 rfl (by kernel_rfl) (by kernel_rfl) Bu5 Bs8
theorem Bp5:FM 18 byI byO (G9 _ _ byM) :=Bo2 Tryz.func18 rfl (by kernel_rfl) (by kernel_rfl) Bwz
def twM(R:Type):List (Nat×Gf R):=[(13,Kn pinI pinO (G9 _ _ Bwe)),(18,Kn byI byO (G9 _ _ byM))]
theorem Bt0{R:Type}{cx:Cx}(H:HX cx):∀g f,(g,f)∈twM R->Fb cx g f:=w1 H Blr (w1 H Bp5 (λ_ _ h=>by cases h))
noncomputable def A67(R:Type):Px R:=Btp (Kh R) (tbl (twM R))
theorem Be1(R:Type)(cx:Cx)(e1:cx.P=Tryz.prog)(e2:cx.el=elT)(e3:cx.gl=glT):Lv2 cx (A67 R) :=Brl (Y8 R cx e1 e2 e3) λg f h=>Bt0 (Aa1 e1 e2 e3) g f (Df h)
theorem Bof{f:FuncId}{fn:Func}{c:Code}{sr:List Sg}{r:HV sr}(hf:Tryz.prog.funcs[f]? = some fn)(hb:fn.body=some c)(hname:(fn.name == "runtime.NumGoroutine")=false)(hc:(Bm fn.ntmps c)=true)(hr:Za (A67 (HV sr)) fn [] sr () some=some r):FO f [] sr (λ_=>some r):=by refine Af9 hf hb hname follows (px:=A67 (HV sr)) (by rw[hc];simp[A7,Ci]) (λcx e1 e2 e3 _ =>?_) (λ_=>hr);have h:=(Be1 (HV sr) cx e1 e2 e3).to1;exact⟨h.1,h.2.1,h.2.2.1,λb _=>h.2.2.2 b⟩
end Go.Proofs.YtcoaaebppfbbnaaGreatDoor
