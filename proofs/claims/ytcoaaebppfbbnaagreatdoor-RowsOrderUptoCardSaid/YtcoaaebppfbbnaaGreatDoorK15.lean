/- Texts of the proof,one behind the other: Ch. -/
import Derived.Test.YtcoaaebppfbbnaaGreatDoorK14
set_option linter.all false
namespace Go.Proofs.YtcoaaebppfbbnaaGreatDoor
open Go.Ax
def Bwo:List (HV pinI.sgs×HV pinO.sgs):=[((t18,r18,e18),(0,s18)),((t18,r18,s18),(180,s18))]
def byM:List (HV byI.sgs×HV byO.sgs):=[((t18,[105],⟨4,0,[120]⟩,s18),([r18],0,s18))]
theorem Blo:FM 13 pinI pinO (G0 _ _ Bwo) :=Bpq Tryz.func13 rfl (by kernel_rfl) (by kernel_rfl) Bu6 Bu3
theorem Bn9:FM 18 byI byO (G0 _ _ byM) :=Bop Tryz.func18 rfl (by kernel_rfl) (by kernel_rfl) Bwy
def twM(R:Type):List (Nat×Gi R):=[(13,Kf pinI pinO (G0 _ _ Bwo)),(18,Kf byI byO (G0 _ _ byM))]
theorem Btr{R:Type}{cx:Cx}(H:HX cx):∀g f,(g,f)∈twM R->Fb cx g f:=w1 H Blo (w1 H Bn9 (λ_ _ h=>by cases h))
noncomputable def A6n(R:Type):Px R:=Bug (Kp R) (tbl (twM R))
theorem Blu(R:Type)(cx:Cx)(e1:cx.P=Tryz.prog)(e2:cx.el=elT)(e3:cx.gl=glT):Lv2 cx (A6n R) :=Bp6 (Y3 R cx e1 e2 e3) λg f h=>Btr (Aa1 e1 e2 e3) g f (Df h)
theorem Bq2{f:FuncId}{fn:Func}{c:Code}{sr:List Sg}{r:HV sr}(hf:Tryz.prog.funcs[f]? = some fn)(hb:fn.body=some c)(hname:(fn.name == "runtime.NumGoroutine")=false)(hc:(Bm fn.ntmps c)=true)(hr:Zj (A6n (HV sr)) fn [] sr () some=some r):FO f [] sr (λ_=>some r):=by refine Agb hf hb hname follows (px:=A6n (HV sr)) (by rw[hc];simp[A7,Cc]) (λcx e1 e2 e3 _ =>?_) (λ_=>hr);have h:=(Blu (HV sr) cx e1 e2 e3).to1;exact⟨h.1,h.2.1,h.2.2.1,λb _=>h.2.2.2 b⟩
end Go.Proofs.YtcoaaebppfbbnaaGreatDoor
