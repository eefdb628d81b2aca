/- Texts of the proof,one behind the other: Ch. -/
import Derived.Test.YtcoaaebppfbbnaaGreatDoorJ14
set_option linter.all false
namespace Go.Proofs.YtcoaaebppfbbnaaGreatDoor
open Go.Ax
def Bvk:List (HV pinI.sgs×HV pinO.sgs):=[((t18,r18,e18),(0,s18)),((t18,r18,s18),(180,s18))]
def byM:List (HV byI.sgs×HV byO.sgs):=[((t18,[105],⟨4,0,[120]⟩,s18),([r18],0,s18))]
theorem Bjk:FM 13 pinI pinO (Gz _ _ Bvk) :=Bn0 Tryz.func13 rfl (by kernel_rfl) (by kernel_rfl) Bs2 Bs4
theorem Bpn:FM 18 byI byO (Gz _ _ byM) :=Bq6 Tryz.func18 rfl (by kernel_rfl) (by kernel_rfl) Bwe
def twM(R:Type):List (Nat×Hn R):=[(13,Kx pinI pinO (Gz _ _ Bvk)),(18,Kx byI byO (Gz _ _ byM))]
theorem Bt6{R:Type}{cx:Cx}(H:HX cx):∀g f,(g,f)∈twM R->Ff cx g f:=w1 H Bjk (w1 H Bpn (λ_ _ h=>by cases h))
noncomputable def A5p(R:Type):Px R:=Bdw (Kk R) (tbl (twM R))
theorem Bf8(R:Type)(cx:Cx)(e1:cx.P=Tryz.prog)(e2:cx.el=elT)(e3:cx.gl=glT):Lv2 cx (A5p R) :=Bm9 (Xi R cx e1 e2 e3) λg f h=>Bt6 (Xj e1 e2 e3) g f (Dc h)
theorem Boi{f:FuncId}{fn:Func}{c:Code}{sr:List Sg}{r:HV sr}(hf:Tryz.prog.funcs[f]? = some fn)(hb:fn.body=some c)(hname:(fn.name == "runtime.NumGoroutine")=false)(hc:(Cq fn.ntmps c)=true)(hr:Zj (A5p (HV sr)) fn [] sr () some=some r):FO f [] sr (λ_=>some r):=by refine Ae1 hf hb hname follows (px:=A5p (HV sr)) (by rw[hc];simp[Be,C8]) (λcx e1 e2 e3 _ =>?_) (λ_=>hr);have h:=(Bf8 (HV sr) cx e1 e2 e3).to1;exact⟨h.1,h.2.1,h.2.2.1,λb _=>h.2.2.2 b⟩
end Go.Proofs.YtcoaaebppfbbnaaGreatDoor
