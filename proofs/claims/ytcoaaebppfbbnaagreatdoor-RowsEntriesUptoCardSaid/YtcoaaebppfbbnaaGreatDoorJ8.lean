/- Texts of the proof,one behind the other: Cd. -/
import Derived.Test.YtcoaaebppfbbnaaGreatDoorJ7
set_option linter.all false
namespace Go.Proofs.YtcoaaebppfbbnaaGreatDoor
open Go.Ax
def t18:Tbl:=⟨[116],[⟨[97],3,false,false,[]⟩,⟨[98],4,false,true,[]⟩],[[97]],[],[⟨[105],[[98]]⟩]⟩
def r18:List Val:=[⟨3,1,[]⟩,⟨4,0,[120]⟩]
theorem Bqr{f:FuncId}{fn:Func}{c:Code}{sa sr:List Sg}{x:HV sa}{r:HV sr}(hf:Tryz.prog.funcs[f]? = some fn)(hb:fn.body=some c)(hname:(fn.name == "runtime.NumGoroutine")=false)(hc:(Cq fn.ntmps c&&Nat.ble sa.length fn.ntmps&&C8 (Be 0 sa) [])=true)(hr:Zj (Aml (HV sr)) fn sa sr x some=some r):FO f sa sr (Gz sa sr [(x,r)]):=by
 refine(Ae1 (px:=Aml (HV sr)) (F:=λx=>Zj (Aml (HV sr)) fn sa sr x some) hf hb hname follows hc (λcx e1 e2 e3 _ =>?_) (λ_=>rfl)).le (Yh ?_)
 ·have h:=(A5q (HV sr) cx e1 e2 e3).to1;exact⟨h.1,h.2.1,h.2.2.1,λb _=>h.2.2.2 b⟩
 ·intro q hq;cases List.mem_singleton.1 hq;exact hr
theorem Bud:Zj (Aml (HV [.int .i64])) Tryz.f25 [.sv .tbl,.sl .val false] [.int .i64] (t18,r18) some=some 0:=by kernel_rfl
theorem Aoi:FO 25 [.sv .tbl,.sl .val false] [.int .i64] (Gz _ _ [((t18,r18),0)]) :=Bqr Tryz.func25 rfl (by kernel_rfl) (by kernel_rfl) Bud
theorem Brd:Zj (Aml (HV [.int .i64])) Tryz.f52 [.sv .tbl] [.int .i64] t18 some=some 0:=by kernel_rfl
theorem Afn:FO 52 [.sv .tbl] [.int .i64] (Gz _ _ [(t18,0)]) :=Bqr Tryz.func52 rfl (by kernel_rfl) (by kernel_rfl) Brd
def Auo:List KvS:=[⟨[4,114,0,1,4,116,0,1,3,128,0,0,0,0,0,0,1],[2,3,2,4,1,120]⟩,⟨[4,105,0,1,4,105,0,1,4,120,0,1,3,128,0,0,0,0,0,0,1],[]⟩,⟨[4,117,0,1,4,116,0,1,4,98,0,1,4,120,0,1],[1,3,2]⟩]
theorem Bvj:Zj (Aml (HV [.sl .kv false,.int .i64])) Tryz.f9 [.sv .tbl,.sl .val false] [.sl .kv false,.int .i64] (t18,r18) some=some (Auo,0):=by kernel_rfl
theorem Avr:FO 9 [.sv .tbl,.sl .val false] [.sl .kv false,.int .i64] (Gz _ _ [((t18,r18),(Auo,0))]) :=Bqr Tryz.func9 rfl (by kernel_rfl) (by kernel_rfl) Bvj
def Asi:HV [.sv .lay,.sv .lay,.sv .lay,.sv .lay]:=(⟨[⟨[4,114,0,1,4,116,0,1,3,128,0,0,0,0,0,0,1],[2,3,2,4,1,120]⟩],0⟩,⟨[⟨[4,105,0,1,4,105,0,1,4,120,0,1,3,128,0,0,0,0,0,0,1],[]⟩],0⟩,⟨[⟨[4,117,0,1,4,116,0,1,4,98,0,1,4,120,0,1],[1,3,2]⟩],0⟩,⟨[],0⟩)
theorem Bvw:Zj (Aml (HV [.sv .lay,.sv .lay,.sv .lay,.sv .lay])) Tryz.f26 [.sv .tbl,.sl .val false] [.sv .lay,.sv .lay,.sv .lay,.sv .lay] (t18,r18) some=some Asi:=by kernel_rfl
theorem A0h:FO 26 [.sv .tbl,.sl .val false] [.sv .lay,.sv .lay,.sv .lay,.sv .lay] (Gz _ _ [((t18,r18),Asi)]) :=Bqr Tryz.func26 rfl (by kernel_rfl) (by kernel_rfl) Bvw
def tbM(R:Type):List (Nat×E7 R):=[
 (52,La [.sv .tbl] [.int .i64] (Gz _ _ [(t18,0)])),
 (25,La [.sv .tbl,.sl .val false] [.int .i64] (Gz _ _ [((t18,r18),0)])),
 (9,La [.sv .tbl,.sl .val false] [.sl .kv false,.int .i64] (Gz _ _ [((t18,r18),(Auo,0))])),
 (26,La [.sv .tbl,.sl .val false] [.sv .lay,.sv .lay,.sv .lay,.sv .lay] (Gz _ _ [((t18,r18),Asi)]))]
theorem Btp{R:Type}{cx:Cx}(H:HX cx):∀g f,(g,f)∈tbM R->Gn cx g f:=c1 H Afn (c1 H Aoi (c1 H Avr (c1 H A0h Ae)))
def tqM(R:Type):List (Nat×E4 R):=[
 (52,I0 [.sv .tbl] [.int .i64] (Gz _ _ [(t18,0)])),
 (25,I0 [.sv .tbl,.sl .val false] [.int .i64] (Gz _ _ [((t18,r18),0)])),
 (9,I0 [.sv .tbl,.sl .val false] [.sl .kv false,.int .i64] (Gz _ _ [((t18,r18),(Auo,0))])),
 (26,I0 [.sv .tbl,.sl .val false] [.sv .lay,.sv .lay,.sv .lay,.sv .lay] (Gz _ _ [((t18,r18),Asi)]))]
theorem Bt9{R:Type}{cx:Cx}(H:HX cx):∀g f,(g,f)∈tqM R->Pg cx g f:=q1 H Afn (q1 H Aoi (q1 H Avr (q1 H A0h Aa)))
def Bwc(R:Type)(g:Nat):Option (E7 R):=tbl (tbM R++tbL R) g
def Bv7(R:Type)(g:Nat):Option (E4 R):=tbl (tqM R++tqL R) g
noncomputable def Kk(R:Type):Px R:=co (Aal ttL) glT A66 Bwc Bv7 swT 3000 R
theorem Xi(R:Type)(cx:Cx)(e1:cx.P=Tryz.prog)(e2:cx.el=elT)(e3:cx.gl=glT):Lv2 cx (Kk R) :=Axd follows (Apo Ab7) Axs (λR cx e1 e2 e3 g f h=>(List.mem_append.1 (Dc h)).elim (Btp (Xj e1 e2 e3) g f) (Bgp (Xj e1 e2 e3) g f)) (λR cx e1 e2 e3 g f h=>(List.mem_append.1 (Dc h)).elim (Bt9 (Xj e1 e2 e3) g f) (Bjs (Xj e1 e2 e3) g f)) (λg q h=>Zg2.1 Bma (g,q) (Dc h)) 3000 R cx e1 e2 e3
theorem Bkm{f:FuncId}{fn:Func}{c:Code}{sg so:Sig}{x:HV sg.sgs}{r:HV so.sgs}(hf:Tryz.prog.funcs[f]? = some fn)(hb:fn.body=some c)(hname:(fn.name == "runtime.NumGoroutine")=false)(hc:(Cq fn.ntmps c&&Nat.ble sg.n fn.ntmps)=true)(hr:Jl (Kk (HV so.sgs)) fn sg so x some=some r):FM f sg so (Gz sg.sgs so.sgs [(x,r)]):=by
 refine(Ae8 (px:=Kk (HV so.sgs)) (F:=λx=>Jl (Kk (HV so.sgs)) fn sg so x some) hf hb hname follows hc (λcx e1 e2 e3 =>?_) (λ_=>rfl)).le (Yh ?_)
 ·have h:=(Xi (HV so.sgs) cx e1 e2 e3).to1;exact⟨h.1,h.2.1,h.2.2.1,λb _=>h.2.2.2 b⟩
 ·intro q hq;cases List.mem_singleton.1 hq;exact hr
end Go.Proofs.YtcoaaebppfbbnaaGreatDoor
