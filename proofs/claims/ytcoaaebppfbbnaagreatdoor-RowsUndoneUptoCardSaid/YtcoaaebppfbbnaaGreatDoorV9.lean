/- Texts of the proof,one behind the other: Cd. -/
import Derived.Test.YtcoaaebppfbbnaaGreatDoorV8
set_option linter.all false
open List renaming length->I,mem_append->fM
open Option renaming some->J
open Bool renaming true->ae,false->ai
open Nat renaming ble->dz
namespace Go
theorem zG{p:Prop}(h:p:=by exact⟨h.1,h.2.1,h.2.2.1,λb _=>h.2.2.2 b⟩):p:=h
theorem Kx{p:Prop}(h:p:=by cases List.mem_singleton.1 j;exact e):p:=h
end Go
namespace Go.Proofs.YtcoaaebppfbbnaaGreatDoor
open Go.dS
def t18:bU:=⟨[116],[⟨[97],3,ai,ai,[]⟩,⟨[98],4,ai,ae,[]⟩],[[97]],[],[⟨[105],[[98]]⟩]⟩
def j7:U aH:=[⟨3,1,[]⟩,⟨4,0,[120]⟩]
variable{c:Code}{f:FuncId}{fn:Func}
theorem Fp{sa bH:U ck}{x:au sa}{r:au bH}(d:Tryz.prog.funcs[f]? = J fn)(aj:fn.body=J c)(a:(fn.name == "runtime.NumGoroutine")=ai)(an:(fe fn.ntmps c&&dz (I sa) fn.ntmps&&im (c8 0 sa) [])=ae)(e:mF (re (au bH)) fn sa bH x J=J r):aN f sa bH (hF sa bH [(x,r)]):=by
 refine(J4 (px:=re (au bH)) (F:=λx=>mF (re (au bH)) fn sa bH x J) d aj a follows an (λab g aS i _=>?_) (λ_=>rfl)).le (zY ?_)
 .have h:=(alz (au bH) ab g aS i).sA;exact zG
 .intro q j;exact Kx
theorem al8:mF (re (au [aq])) Tryz.f25 [cu,dA] [aq] (t18,j7) J=J 0:=b0
theorem X7:aN 25 [cu,dA] [aq] (hF _ _ [((t18,j7),0)]):=Fp Tryz.func25 rfl b0 b0 al8
theorem akP:mF (re (au [aq])) Tryz.f52 [cu] [aq] t18 J=J 0:=b0
theorem WR:aN 52 [cu] [aq] (hF _ _ [(t18,0)]):=Fp Tryz.func52 rfl b0 b0 akP
def CY:U b7:=[⟨[4,114,0,1,4,116,0,1,3,128,0,0,0,0,0,0,1],[2,3,2,4,1,120]⟩,⟨[4,105,0,1,4,105,0,1,4,120,0,1,3,128,0,0,0,0,0,0,1],[]⟩,⟨[4,117,0,1,4,116,0,1,4,98,0,1,4,120,0,1],[1,3,2]⟩]
theorem av5:mF (re (au [.sl .kv ai,aq])) Tryz.f9 [cu,dA] [.sl .kv ai,aq] (t18,j7) J=J (CY,0):=b0
theorem SM:aN 9 [cu,dA] [.sl .kv ai,aq] (hF _ _ [((t18,j7),(CY,0))]):=Fp Tryz.func9 rfl b0 b0 av5
def CW:au [.aI .lay,.aI .lay,.aI .lay,.aI .lay]:=(⟨[⟨[4,114,0,1,4,116,0,1,3,128,0,0,0,0,0,0,1],[2,3,2,4,1,120]⟩],0⟩,⟨[⟨[4,105,0,1,4,105,0,1,4,120,0,1,3,128,0,0,0,0,0,0,1],[]⟩],0⟩,⟨[⟨[4,117,0,1,4,116,0,1,4,98,0,1,4,120,0,1],[1,3,2]⟩],0⟩,⟨[],0⟩)
theorem av0:mF (re (au [.aI .lay,.aI .lay,.aI .lay,.aI .lay])) Tryz.f26 [cu,dA] [.aI .lay,.aI .lay,.aI .lay,.aI .lay] (t18,j7) J=J CW:=b0
theorem aan:aN 26 [cu,dA] [.aI .lay,.aI .lay,.aI .lay,.aI .lay] (hF _ _ [((t18,j7),CW)]):=Fp Tryz.func26 rfl b0 b0 av0
def af8(R:Type):U (Nat×iD R):=[(52,pb [cu] [aq] (hF _ _ [(t18,0)])),(25,pb [cu,dA] [aq] (hF _ _ [((t18,j7),0)])),(9,pb [cu,dA] [.sl .kv ai,aq] (hF _ _ [((t18,j7),(CY,0))])),(26,pb [cu,dA] [.aI .lay,.aI .lay,.aI .lay,.aI .lay] (hF _ _ [((t18,j7),CW)]))]
variable{R:Type}{ab:cB}
theorem al7(H:nw ab):∀g f,(g,f)∈af8 R->hk ab g f:=c1 H WR (c1 H X7 (c1 H SM (c1 H aan bm)))
def aga(R:Type):U (Nat×kf R):=[(52,qB [cu] [aq] (hF _ _ [(t18,0)])),(25,qB [cu,dA] [aq] (hF _ _ [((t18,j7),0)])),(9,qB [cu,dA] [.sl .kv ai,aq] (hF _ _ [((t18,j7),(CY,0))])),(26,qB [cu,dA] [.aI .lay,.aI .lay,.aI .lay,.aI .lay] (hF _ _ [((t18,j7),CW)]))]
theorem auT(H:nw ab):∀g f,(g,f)∈aga R->mV ab g f:=bd H WR (bd H X7 (bd H SM (bd H aan bo)))
def awA(R:Type)(g:Nat):af (iD R):=tbl (af8 R++Rc R) g
def aww(R:Type)(g:Nat):af (kf R):=tbl (aga R++Re R) g
noncomputable def mo(R:Type):aM R:=co (nV q2) mw FU awA aww af6 3000 R
theorem DZ(R:Type)(ab:cB)(a:ab.P=Tryz.prog)(aS:ab.el=gP)(b:ab.bM=mw):oc ab (mo R):=zl follows (ta sU) RH (λR ab a aS b g f h=>(fM.1 (ke h)).elim (al7 (qd a aS b) g f) (ads (qd a aS b) g f)) (λR ab a aS b g f h=>(fM.1 (ke h)).elim (auT (qd a aS b) g f) (adj (qd a aS b) g f)) (λg q h=>cX.1 adh (g,q) (ke h)) 3000 R ab a aS b
theorem Zx{aQ bG:bt}{x:au aQ.b3}{r:au bG.b3}(d:Tryz.prog.funcs[f]? = J fn)(aj:fn.body=J c)(a:(fn.name == "runtime.NumGoroutine")=ai)(an:(fe fn.ntmps c&&dz aQ.n fn.ntmps)=ae)(e:ky (mo (au bG.b3)) fn aQ bG x J=J r):fb f aQ bG (hF aQ.b3 bG.b3 [(x,r)]):=by
 refine(z5 (px:=mo (au bG.b3)) (F:=λx=>ky (mo (au bG.b3)) fn aQ bG x J) d aj a follows an (λab g aS i=>?_) (λ_=>rfl)).le (zY ?_)
 .have h:=(DZ (au bG.b3) ab g aS i).sA;exact zG
 .intro q j;exact Kx
end Go.Proofs.YtcoaaebppfbbnaaGreatDoor
