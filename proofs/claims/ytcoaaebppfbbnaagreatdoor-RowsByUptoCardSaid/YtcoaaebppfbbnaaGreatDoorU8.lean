/- Texts of the proof,one behind the other: Cd. -/
import Derived.Test.YtcoaaebppfbbnaaGreatDoorU7
set_option linter.all false
namespace Go.Proofs.YtcoaaebppfbbnaaGreatDoor
open Go.Ax
def t18:Tbl:=⟨[116],[⟨[97],3,false,false,[]⟩,⟨[98],4,false,true,[]⟩],[[97]],[],[⟨[105],[[98]]⟩]⟩
def r18:Yb1 Val:=[⟨3,1,[]⟩,⟨4,0,[120]⟩]
variable{c:Code}{f:FuncId}{fn:Func}
theorem Bze{sa sr:Yb1 Sg}{x:HV sa}{r:HV sr}(d:Tryz.prog.funcs[f]? = some fn)(hb:fn.body=some c)(a:(fn.name == "runtime.NumGoroutine")=false)(hc:(Bw fn.ntmps c&&Nat.ble sa.length fn.ntmps&&Dk (Bb 0 sa) [])=true)(e:Ae1 (A5i (HV sr)) fn sa sr x some=some r):FO f sa sr (Hm sa sr [(x,r)]):=by
 refine(Azx (px:=A5i (HV sr)) (F:=λx=>Ae1 (A5i (HV sr)) fn sa sr x some) d hb a follows hc (λcx g e2 i _=>?_) (λ_=>rfl)).le (Ada ?_)
 ·have h:=(B0p (HV sr) cx g e2 i).to1;exact⟨h.1,h.2.1,h.2.2.1,λb _=>h.2.2.2 b⟩
 ·intro q j;cases List.mem_singleton.1 j;exact e
theorem B2r:Ae1 (A5i (HV [Yc1])) Tryz.f25 [Yh1,Yj1] [Yc1] (t18,r18) some=some 0:=by kernel_rfl
theorem At0:FO 25 [Yh1,Yj1] [Yc1] (Hm _ _ [((t18,r18),0)]):=Bze Tryz.func25 rfl (by kernel_rfl) (by kernel_rfl) B2r
theorem Bzb:Ae1 (A5i (HV [Yc1])) Tryz.f52 [Yh1] [Yc1] t18 some=some 0:=by kernel_rfl
theorem Aqf:FO 52 [Yh1] [Yc1] (Hm _ _ [(t18,0)]):=Bze Tryz.func52 rfl (by kernel_rfl) (by kernel_rfl) Bzb
def Ay8:Yb1 KvS:=[⟨[4,114,0,1,4,116,0,1,3,128,0,0,0,0,0,0,1],[2,3,2,4,1,120]⟩,⟨[4,105,0,1,4,105,0,1,4,120,0,1,3,128,0,0,0,0,0,0,1],[]⟩,⟨[4,117,0,1,4,116,0,1,4,98,0,1,4,120,0,1],[1,3,2]⟩]
theorem B5o:Ae1 (A5i (HV [.sl .kv false,Yc1])) Tryz.f9 [Yh1,Yj1] [.sl .kv false,Yc1] (t18,r18) some=some (Ay8,0):=by kernel_rfl
theorem A3n:FO 9 [Yh1,Yj1] [.sl .kv false,Yc1] (Hm _ _ [((t18,r18),(Ay8,0))]):=Bze Tryz.func9 rfl (by kernel_rfl) (by kernel_rfl) B5o
def Ay5:HV [.sv .lay,.sv .lay,.sv .lay,.sv .lay]:=(⟨[⟨[4,114,0,1,4,116,0,1,3,128,0,0,0,0,0,0,1],[2,3,2,4,1,120]⟩],0⟩,⟨[⟨[4,105,0,1,4,105,0,1,4,120,0,1,3,128,0,0,0,0,0,0,1],[]⟩],0⟩,⟨[⟨[4,117,0,1,4,116,0,1,4,98,0,1,4,120,0,1],[1,3,2]⟩],0⟩,⟨[],0⟩)
theorem B5j:Ae1 (A5i (HV [.sv .lay,.sv .lay,.sv .lay,.sv .lay])) Tryz.f26 [Yh1,Yj1] [.sv .lay,.sv .lay,.sv .lay,.sv .lay] (t18,r18) some=some Ay5:=by kernel_rfl
theorem A64:FO 26 [Yh1,Yj1] [.sv .lay,.sv .lay,.sv .lay,.sv .lay] (Hm _ _ [((t18,r18),Ay5)]):=Bze Tryz.func26 rfl (by kernel_rfl) (by kernel_rfl) B5j
def tbM(R:Type):Yb1 (Nat×Fa R):=[(52,Mb [Yh1] [Yc1] (Hm _ _ [(t18,0)])),(25,Mb [Yh1,Yj1] [Yc1] (Hm _ _ [((t18,r18),0)])),(9,Mb [Yh1,Yj1] [.sl .kv false,Yc1] (Hm _ _ [((t18,r18),(Ay8,0))])),(26,Mb [Yh1,Yj1] [.sv .lay,.sv .lay,.sv .lay,.sv .lay] (Hm _ _ [((t18,r18),Ay5)]))]
variable{R:Type}{cx:Cx}
theorem B2q(H:HX cx):∀g f,(g,f)∈tbM R->Hg cx g f:=c1 H Aqf (c1 H At0 (c1 H A3n (c1 H A64 Ae)))
def tqM(R:Type):Yb1 (Nat×Ez R):=[(52,J3 [Yh1] [Yc1] (Hm _ _ [(t18,0)])),(25,J3 [Yh1,Yj1] [Yc1] (Hm _ _ [((t18,r18),0)])),(9,J3 [Yh1,Yj1] [.sl .kv false,Yc1] (Hm _ _ [((t18,r18),(Ay8,0))])),(26,J3 [Yh1,Yj1] [.sv .lay,.sv .lay,.sv .lay,.sv .lay] (Hm _ _ [((t18,r18),Ay5)]))]
theorem B35(H:HX cx):∀g f,(g,f)∈tqM R->Nu cx g f:=q1 H Aqf (q1 H At0 (q1 H A3n (q1 H A64 Aa)))
def B6r(R:Type)(g:Nat):Ya1 (Fa R):=tbl (tbM R++tbL R) g
def B6n(R:Type)(g:Nat):Ya1 (Ez R):=tbl (tqM R++tqL R) g
noncomputable def L6(R:Type):Px R:=co (Ako ttL) glT Bey B6r B6n swT 3000 R
theorem Abv(R:Type)(cx:Cx)(a:cx.P=Tryz.prog)(e2:cx.el=elT)(b:cx.gl=glT):Lv2 cx (L6 R):=A1v follows (Ani Z0) A1x (λR cx a e2 b g f h=>(List.mem_append.1 (Dw h)).elim (B2q (Adl a e2 b) g f) (Bo9 (Adl a e2 b) g f)) (λR cx a e2 b g f h=>(List.mem_append.1 (Dw h)).elim (B35 (Adl a e2 b) g f) (Bol (Adl a e2 b) g f)) (λg q h=>Zg2.1 Bog (g,q) (Dw h)) 3000 R cx a e2 b
theorem Bt3{sg so:Sig}{x:HV sg.sgs}{r:HV so.sgs}(d:Tryz.prog.funcs[f]? = some fn)(hb:fn.body=some c)(a:(fn.name == "runtime.NumGoroutine")=false)(hc:(Bw fn.ntmps c&&Nat.ble sg.n fn.ntmps)=true)(e:H7 (L6 (HV so.sgs)) fn sg so x some=some r):FM f sg so (Hm sg.sgs so.sgs [(x,r)]):=by
 refine(Acx (px:=L6 (HV so.sgs)) (F:=λx=>H7 (L6 (HV so.sgs)) fn sg so x some) d hb a follows hc (λcx g e2 i=>?_) (λ_=>rfl)).le (Ada ?_)
 ·have h:=(Abv (HV so.sgs) cx g e2 i).to1;exact⟨h.1,h.2.1,h.2.2.1,λb _=>h.2.2.2 b⟩
 ·intro q j;cases List.mem_singleton.1 j;exact e
end Go.Proofs.YtcoaaebppfbbnaaGreatDoor
