/- Texts of the proof,one behind the other: Cd. -/
import Derived.Test.YtcoaaebppfbbnaaGreatDoorK7
set_option linter.all false
namespace Go.Proofs.YtcoaaebppfbbnaaGreatDoor
open Go.Ax
def t18:Tbl:=⟨[116],[⟨[97],3,false,false,[]⟩,⟨[98],4,false,true,[]⟩],[[97]],[],[⟨[105],[[98]]⟩]⟩
def r18:List Val:=[⟨3,1,[]⟩,⟨4,0,[120]⟩]
theorem Bp4{f:FuncId}{fn:Func}{c:Code}{sa sr:List Sg}{x:HV sa}{r:HV sr}(hf:Tryz.prog.funcs[f]? = some fn)(hb:fn.body=some c)(hname:(fn.name == "runtime.NumGoroutine")=false)(hc:(Bm fn.ntmps c&&Nat.ble sa.length fn.ntmps&&Cc (A7 0 sa) [])=true)(hr:Zj (Amo (HV sr)) fn sa sr x some=some r):FO f sa sr (G0 sa sr [(x,r)]):=by
 refine(Agb (px:=Amo (HV sr)) (F:=λx=>Zj (Amo (HV sr)) fn sa sr x some) hf hb hname follows hc (λcx e1 e2 e3 _ =>?_) (λ_=>rfl)).le (Aar ?_)
 ·have h:=(A8r (HV sr) cx e1 e2 e3).to1;exact⟨h.1,h.2.1,h.2.2.1,λb _=>h.2.2.2 b⟩
 ·intro q hq;cases List.mem_singleton.1 hq;exact hr
theorem Bta:Zj (Amo (HV [.int .i64])) Tryz.f25 [.sv .tbl,.sl .val false] [.int .i64] (t18,r18) some=some 0:=by kernel_rfl
theorem Aog:FO 25 [.sv .tbl,.sl .val false] [.int .i64] (G0 _ _ [((t18,r18),0)]) :=Bp4 Tryz.func25 rfl (by kernel_rfl) (by kernel_rfl) Bta
theorem Bp2:Zj (Amo (HV [.int .i64])) Tryz.f52 [.sv .tbl] [.int .i64] t18 some=some 0:=by kernel_rfl
theorem Alu:FO 52 [.sv .tbl] [.int .i64] (G0 _ _ [(t18,0)]) :=Bp4 Tryz.func52 rfl (by kernel_rfl) (by kernel_rfl) Bp2
def As7:List KvS:=[⟨[4,114,0,1,4,116,0,1,3,128,0,0,0,0,0,0,1],[2,3,2,4,1,120]⟩,⟨[4,105,0,1,4,105,0,1,4,120,0,1,3,128,0,0,0,0,0,0,1],[]⟩,⟨[4,117,0,1,4,116,0,1,4,98,0,1,4,120,0,1],[1,3,2]⟩]
theorem Bv6:Zj (Amo (HV [.sl .kv false,.int .i64])) Tryz.f9 [.sv .tbl,.sl .val false] [.sl .kv false,.int .i64] (t18,r18) some=some (As7,0):=by kernel_rfl
theorem Axi:FO 9 [.sv .tbl,.sl .val false] [.sl .kv false,.int .i64] (G0 _ _ [((t18,r18),(As7,0))]) :=Bp4 Tryz.func9 rfl (by kernel_rfl) (by kernel_rfl) Bv6
def As4:HV [.sv .lay,.sv .lay,.sv .lay,.sv .lay]:=(⟨[⟨[4,114,0,1,4,116,0,1,3,128,0,0,0,0,0,0,1],[2,3,2,4,1,120]⟩],0⟩,⟨[⟨[4,105,0,1,4,105,0,1,4,120,0,1,3,128,0,0,0,0,0,0,1],[]⟩],0⟩,⟨[⟨[4,117,0,1,4,116,0,1,4,98,0,1,4,120,0,1],[1,3,2]⟩],0⟩,⟨[],0⟩)
theorem Bvz:Zj (Amo (HV [.sv .lay,.sv .lay,.sv .lay,.sv .lay])) Tryz.f26 [.sv .tbl,.sl .val false] [.sv .lay,.sv .lay,.sv .lay,.sv .lay] (t18,r18) some=some As4:=by kernel_rfl
theorem A0p:FO 26 [.sv .tbl,.sl .val false] [.sv .lay,.sv .lay,.sv .lay,.sv .lay] (G0 _ _ [((t18,r18),As4)]) :=Bp4 Tryz.func26 rfl (by kernel_rfl) (by kernel_rfl) Bvz
def tbM(R:Type):List (Nat×Ev R):=[
 (52,Ku [.sv .tbl] [.int .i64] (G0 _ _ [(t18,0)])),
 (25,Ku [.sv .tbl,.sl .val false] [.int .i64] (G0 _ _ [((t18,r18),0)])),
 (9,Ku [.sv .tbl,.sl .val false] [.sl .kv false,.int .i64] (G0 _ _ [((t18,r18),(As7,0))])),
 (26,Ku [.sv .tbl,.sl .val false] [.sv .lay,.sv .lay,.sv .lay,.sv .lay] (G0 _ _ [((t18,r18),As4)]))]
theorem Bs9{R:Type}{cx:Cx}(H:HX cx):∀g f,(g,f)∈tbM R->Gt cx g f:=c1 H Alu (c1 H Aog (c1 H Axi (c1 H A0p Ae)))
def tqM(R:Type):List (Nat×Ed R):=[
 (52,Iz [.sv .tbl] [.int .i64] (G0 _ _ [(t18,0)])),
 (25,Iz [.sv .tbl,.sl .val false] [.int .i64] (G0 _ _ [((t18,r18),0)])),
 (9,Iz [.sv .tbl,.sl .val false] [.sl .kv false,.int .i64] (G0 _ _ [((t18,r18),(As7,0))])),
 (26,Iz [.sv .tbl,.sl .val false] [.sv .lay,.sv .lay,.sv .lay,.sv .lay] (G0 _ _ [((t18,r18),As4)]))]
theorem Buj{R:Type}{cx:Cx}(H:HX cx):∀g f,(g,f)∈tqM R->Ma cx g f:=q1 H Alu (q1 H Aog (q1 H Axi (q1 H A0p Aa)))
def Bw6(R:Type)(g:Nat):Option (Ev R):=tbl (tbM R++tbL R) g
def Bw4(R:Type)(g:Nat):Option (Ed R):=tbl (tqM R++tqL R) g
noncomputable def Kp(R:Type):Px R:=co (Ag6 ttL) glT A7r Bw6 Bw4 swT 3000 R
theorem Y3(R:Type)(cx:Cx)(e1:cx.P=Tryz.prog)(e2:cx.el=elT)(e3:cx.gl=glT):Lv2 cx (Kp R) :=Avm follows (Ajh Xa) Avo (λR cx e1 e2 e3 g f h=>(List.mem_append.1 (Df h)).elim (Bs9 (Aa1 e1 e2 e3) g f) (Bgt (Aa1 e1 e2 e3) g f)) (λR cx e1 e2 e3 g f h=>(List.mem_append.1 (Df h)).elim (Buj (Aa1 e1 e2 e3) g f) (Bf9 (Aa1 e1 e2 e3) g f)) (λg q h=>Zg2.1 Bf2 (g,q) (Df h)) 3000 R cx e1 e2 e3
theorem Bk0{f:FuncId}{fn:Func}{c:Code}{sg so:Sig}{x:HV sg.sgs}{r:HV so.sgs}(hf:Tryz.prog.funcs[f]? = some fn)(hb:fn.body=some c)(hname:(fn.name == "runtime.NumGoroutine")=false)(hc:(Bm fn.ntmps c&&Nat.ble sg.n fn.ntmps)=true)(hr:Hg (Kp (HV so.sgs)) fn sg so x some=some r):FM f sg so (G0 sg.sgs so.sgs [(x,r)]):=by
 refine(Aad (px:=Kp (HV so.sgs)) (F:=λx=>Hg (Kp (HV so.sgs)) fn sg so x some) hf hb hname follows hc (λcx e1 e2 e3 =>?_) (λ_=>rfl)).le (Aar ?_)
 ·have h:=(Y3 (HV so.sgs) cx e1 e2 e3).to1;exact⟨h.1,h.2.1,h.2.2.1,λb _=>h.2.2.2 b⟩
 ·intro q hq;cases List.mem_singleton.1 hq;exact hr
end Go.Proofs.YtcoaaebppfbbnaaGreatDoor
